/-
  Law: SpanHas answers true.
-/
import Derived.Test.YtlmmhhkhoaoheaaGreatDoorSgAl
import Derived.Test.YtlmmhhkhoaoheaaGreatDoorVersionD
import Derived.Deep.CutBlock
import Derived.Deep.DeepCutAuto
namespace Go.Proofs.YtlmmhhkhoaoheaaGreatDoor
open Go.RowKit Go.Shelf Go.Lib
namespace Sg

/-- what Or, And, Not answer: an error, or a range that says S -/
def TwoP (S : Int → Prop) (x : Value) (c : Int) (W' : World) : Prop := (c ≠ 0 ∧ x = .slice none 0 0) ∨ (c = 0 ∧ ∃ r, GS W' x r ∧ (∀ n, inR r n ↔ S n) ∧ goodB r = true)
theorem set_two {B : Nat} {S : Int → Prop} {r : List G} {e : Ending} {W' : World} (h : SetP B S r e W') : ∃ x c, e = .returned (.tuple #[x, .int .i64 c]) ∧ TwoP S x c W' := by
  rcases h.ans with ⟨h1, h2⟩ | ⟨h1, v, h2, h3⟩
  · exact ⟨_, _, h2, .inl ⟨by decide, rfl⟩⟩
  · refine ⟨_, _, h2, .inr ⟨rfl, r, h3.gs fun g hg => (h.bd g hg).n64, h.mem, ?_⟩⟩
    exact good_of h.nm (by omega) fun g hg => ⟨(h.bd g hg).1.1, (h.bd g hg).2.2⟩
theorem or_any (p q : List G) (x y : Value) (W : World) (hx : GS W x p) (hy : GS W y q) :
    Calls Tryz.prog 17 #[x, y] W fun e W' => ∃ z c, e = .returned (.tuple #[z, .int .i64 c]) ∧ TwoP (fun n => inR p n ∨ inR q n) z c W' ∧ Below W.heap.size W W' := by
  cases ha : goodB p with
  | false => exact (or_bad1 p x y W hx ha).mono fun e W' h => ⟨_, _, h.1, .inl ⟨by decide, rfl⟩, h.2⟩
  | true =>
    cases hb : goodB q with
    | false => exact (or_bad2 p q x y W hx hy ha hb).mono fun e W' h => ⟨_, _, h.1, .inl ⟨by decide, rfl⟩, h.2⟩
    | true =>
      exact (or_ok p q x y W hx hy ha hb).mono fun e W' ⟨r, h, hB⟩ => by
        obtain ⟨z, c, h1, h2⟩ := set_two h
        exact ⟨z, c, h1, h2, hB⟩
theorem and_any (p q : List G) (x y : Value) (W : World) (hx : GS W x p) (hy : GS W y q) :
    Calls Tryz.prog 18 #[x, y] W fun e W' => ∃ z c, e = .returned (.tuple #[z, .int .i64 c]) ∧ TwoP (fun n => inR p n ∧ inR q n) z c W' ∧ Below W.heap.size W W' := by
  cases ha : goodB p with
  | false => exact (and_bad1 p x y W hx ha).mono fun e W' h => ⟨_, _, h.1, .inl ⟨by decide, rfl⟩, h.2⟩
  | true =>
    cases hb : goodB q with
    | false => exact (and_bad2 p q x y W hx hy ha hb).mono fun e W' h => ⟨_, _, h.1, .inl ⟨by decide, rfl⟩, h.2⟩
    | true =>
      exact (and_ok p q x y W hx hy ha hb).mono fun e W' ⟨r, h, hB⟩ => by
        obtain ⟨z, c, h1, h2⟩ := set_two h
        exact ⟨z, c, h1, h2, hB⟩
theorem not_any (p : List G) (x : Value) (W : World) (hx : GS W x p) :
    Calls Tryz.prog 20 #[x] W fun e W' => ∃ z c, e = .returned (.tuple #[z, .int .i64 c]) ∧ TwoP (fun n => 0 ≤ n ∧ n < 1000000000 ∧ ¬ inR p n) z c W' ∧ Below W.heap.size W W' := by
  cases ha : goodB p with
  | false => exact (not_bad p x W hx ha).mono fun e W' h => ⟨_, _, h.1, .inl ⟨by decide, rfl⟩, h.2⟩
  | true =>
    exact (not_ok p x W hx ha).mono fun e W' ⟨r, h, hB⟩ => by
      obtain ⟨z, c, h1, h2⟩ := set_two h
      exact ⟨z, c, h1, h2, hB⟩
theorem TwoP.form {S : Int → Prop} {x : Value} {c : Int} {W' : World} (h : TwoP S x c W') : ∃ sl n cap, x = .slice sl n cap := by
  rcases h with ⟨_, rfl⟩ | ⟨_, r, h, _⟩
  · exact ⟨_, _, _, rfl⟩
  · obtain ⟨sl, cap, h1, _⟩ := h.form
    exact ⟨_, _, _, h1⟩
theorem TwoP.below {S : Int → Prop} {x : Value} {c : Int} {W W' : World} (h : TwoP S x c W) (hb : Below W.heap.size W W') : TwoP S x c W' := by
  rcases h with h | ⟨h1, r, h2, h3⟩
  · exact .inl h
  · exact .inr ⟨h1, r, h2.below hb, h3⟩
theorem bool_ext {a b : Bool} (h : a = true ↔ b = true) : a = b := by
  cases a <;> cases b <;> simp_all
theorem inB_or {r p q : List G} (h : ∀ n, inR r n ↔ inR p n ∨ inR q n) (n : Int) : inB r n = (inB p n || inB q n) := bool_ext (by rw [inB_iff, h, Bool.or_eq_true, inB_iff, inB_iff])
theorem inB_and {r p q : List G} (h : ∀ n, inR r n ↔ inR p n ∧ inR q n) (n : Int) : inB r n = (inB p n && inB q n) := bool_ext (by rw [inB_iff, h, Bool.and_eq_true, inB_iff, inB_iff])
theorem has_or {r p q : List G} (h : ∀ n, inR r n ↔ inR p n ∨ inR q n) (a b c : Int) : hasB r a b c = (hasB p a b c || hasB q a b c) := by
  unfold hasB
  rw [inB_or h]
  cases Vs.goodB a b c <;> simp
theorem has_and {r p q : List G} (h : ∀ n, inR r n ↔ inR p n ∧ inR q n) (a b c : Int) : hasB r a b c = (hasB p a b c && hasB q a b c) := by
  unfold hasB
  rw [inB_and h]
  cases Vs.goodB a b c <;> simp
theorem has_not {r p : List G} (h : ∀ n, inR r n ↔ 0 ≤ n ∧ n < 1000000000 ∧ ¬ inR p n) (a b c : Int) : hasB r a b c = (Vs.goodB a b c && !hasB p a b c) := by
  unfold hasB
  cases hg : Vs.goodB a b c with
  | false => rfl
  | true =>
    obtain ⟨-, n0, n1⟩ := num_bd hg
    simp only [Bool.true_and]
    refine bool_ext ?_
    rw [inB_iff, h, Bool.not_eq_true', ← Bool.not_eq_true, inB_iff]
    exact ⟨fun h => h.2.2, fun h => ⟨n0, n1, h⟩⟩
theorem great_tt (r : List G) (v : Value) (W : World) (hP : GS W v r) (h : 200 < r.length) : Calls Tryz.prog 19 #[v] W fun e W' => e = .returned (.bool true) ∧ Below W.heap.size W W' := by
  obtain ⟨sl, cap, rfl, -, -⟩ := hP.form
  have j : (200 : Int) < (r.length : Int) := by omega
  clear hP h
  go_enter Tryz.func19, Tryz.ntmps19
  go_wp2_with fail
  go_ret
  exact ⟨rfl, Below.refl _ _⟩
theorem great_ff (r : List G) (v : Value) (W : World) (hP : GS W v r) (h : ¬ 200 < r.length) : Calls Tryz.prog 19 #[v] W fun e W' => e = .returned (.bool false) ∧ Below W.heap.size W W' := by
  obtain ⟨sl, cap, rfl, -, -⟩ := hP.form
  have j : ¬ (200 : Int) < (r.length : Int) := by omega
  clear hP h
  go_enter Tryz.func19, Tryz.ntmps19
  go_wp2_with fail
  go_ret
  exact ⟨rfl, Below.refl _ _⟩
set_option maxHeartbeats 600000 in
set_option maxRecDepth 100000 in
theorem haslaw_any (p q : List G) (x y : Value) (a b c : Int) (W : World) (hx : GS W x p) (hy : GS W y q) (hE : Vs.Env W) :
    Calls Tryz.prog 7 #[x, y, Vs.V a b c] W fun e W' => e = .returned (.bool true) ∧ Below W.heap.size W W' := by
  have hB0 := (Below.refl W.heap.size W).alloc (Nat.le_refl _) (.cells #[.int .i64 a, .int .i64 b, .int .i64 c] 31)
  have HC := Lib.hid (Vs.C3.new W a b c)
  have HE := Lib.hid hE
  have HX := Lib.hid hx
  have HY := Lib.hid hy
  obtain ⟨sx, kx, rfl, -, -⟩ := hx.form
  obtain ⟨sy, ky, rfl, -, -⟩ := hy.form
  clear hx hy hE
  by_cases hg1 : 200 < p.length
  · go_enter Tryz.func7, Tryz.ntmps7
    go_wp2_with (first
      | (go_at_call 8; refine (alive_any _ (HE.out.below (Nat.le_refl _) hB0)).mono ?_; rintro e W1 ⟨rfl, hB1⟩; have hB2 := hB0.trans (hB1.mono hB0.size))
      | (go_at_call 19; with_reducible refine (great_tt p _ _ (HX.out.below hB2) hg1).mono ?_; rintro e W3 ⟨rfl, hB3⟩; have hB4 := hB2.trans (hB3.mono hB2.size)))
    go_ret
    exact ⟨rfl, hB4⟩
  · by_cases hg2 : 200 < q.length
    · go_enter Tryz.func7, Tryz.ntmps7
      go_wp2_with (first
        | (go_at_call 8; refine (alive_any _ (HE.out.below (Nat.le_refl _) hB0)).mono ?_; rintro e W1 ⟨rfl, hB1⟩; have hB2 := hB0.trans (hB1.mono hB0.size))
        | (go_at_call 19; with_reducible refine (great_ff p _ _ (HX.out.below hB2) hg1).mono ?_; rintro e W3 ⟨rfl, hB3⟩; have hB4 := hB2.trans (hB3.mono hB2.size))
        | (go_at_call 19; with_reducible refine (great_tt q _ _ (HY.out.below hB4) hg2).mono ?_; rintro e W5 ⟨rfl, hB5⟩; have hB6 := hB4.trans (hB5.mono hB4.size)))
      go_ret
      exact ⟨rfl, hB6⟩
    · go_enter Tryz.func7, Tryz.ntmps7
      go_wp2_with (first
        | (go_at_call 8; refine (alive_any _ (HE.out.below (Nat.le_refl _) hB0)).mono ?_; rintro e W1 ⟨rfl, hB1⟩; have hB2 := hB0.trans (hB1.mono hB0.size); have hB12 := hB1)
        | (go_at_call 19; with_reducible refine (great_ff p _ _ (HX.out.below hB2) hg1).mono ?_; rintro e W3 ⟨rfl, hB3⟩; have hB4 := hB2.trans (hB3.mono hB2.size); have hB14 := hB12.trans (hB3.mono hB12.size))
        | (go_at_call 19; with_reducible refine (great_ff q _ _ (HY.out.below hB4) hg2).mono ?_; rintro e W5 ⟨rfl, hB5⟩; have hB6 := hB4.trans (hB5.mono hB4.size); have hB16 := hB14.trans (hB5.mono hB14.size)))
      clear hB12 hB14 hB2 hB4 hB1 hB3 hB5
      obtain ⟨P, hP⟩ : ∃ P, P = hasB p a b c := ⟨_, rfl⟩
      obtain ⟨Q, hQ⟩ : ∃ Q, Q = hasB q a b c := ⟨_, rfl⟩
      have HH := Lib.hid (fun w' (hw : Below W5.heap.size W5 w') => has_any p _ a b c w' (HX.out.below (hB6.trans (hw.mono hB6.size))))
      have HI := Lib.hid (fun w' (hw : Below W5.heap.size W5 w') => has_any q _ a b c w' (HY.out.below (hB6.trans (hw.mono hB6.size))))
      have HJ := Lib.hid (fun w' (hw : Below W5.heap.size W5 w') => rhas_any p _ a b c w' (HX.out.below (hB6.trans (hw.mono hB6.size))))
      have HK := Lib.hid (fun w' (hw : Below W5.heap.size W5 w') => rhas_any q _ a b c w' (HY.out.below (hB6.trans (hw.mono hB6.size))))
      rw [← hP] at HH HJ
      rw [← hQ] at HI HK
      have HP := Lib.hid hP
      have HQ := Lib.hid hQ
      clear hP hQ
      obtain ⟨-, d0, d1, d2, -⟩ := HC.out.below hB16
      have e0 := Sx.ext_cell d0
      have e1 := Sx.ext_cell d1
      have e2 := Sx.ext_cell d2
      clear d0 d1 d2
      refine Mix.region (fun w' => ∃ Y, w' = Sx.ext W5 Y) 6 [0, 0, 1, 0, 0, 1, 9, 9] [true, false] (by kernel_rfl) (fun _ _ d _ _ h => by cases d <;> exact h) (by rfl) (by kernel_rfl) ⟨_, Sx.ext_of (Below.refl _ _).drew⟩ ?_
      simp only [Mix.selP_cons, Mix.selP_nil, Mix.sel_cons, Mix.sel_nil, Nat.reduceBEq, Nat.reduceAdd, cond_true, cond_false, List.drop_succ_cons, List.drop_zero]
      refine Mix.parts_q ?_
      repeat (go_big_quiet_step (fail))
      refine wpQuiet_nil ?_
      refine Mix.parts_e ?_
      refine Mix.eff_step (fun K hK => ?_)
      go_simp
      refine (HH.out _ (Below.refl _ _).drew).mono ?_
      rintro e w2 ⟨rfl, hb2⟩
      have hC2 : Below W5.heap.size W5 w2 := (Below.refl _ _).drew.trans hb2
      refine hK _ _ ⟨_, Sx.ext_of hC2⟩ ?_
      clear hK K
      refine Mix.eff_step (fun K hK => ?_)
      go_simp
      refine (HI.out _ hC2).mono ?_
      rintro e w3 ⟨rfl, hb3⟩
      have hC3 : Below W5.heap.size W5 w3 := hC2.trans (hb3.mono hC2.size)
      refine hK _ _ ⟨_, Sx.ext_of hC3⟩ ?_
      clear hK K e0 e1 e2 hb2 hb3 hC2
      refine Mix.eff_nil (Mix.parts_n ?_)
      obtain ⟨-, d0, d1, d2, -⟩ := HC.out.below (hB16.trans (hC3.mono hB16.size))
      go_upto_region 8 with (first
        | (go_at_call 22; with_reducible refine (HJ.out _ hC3).mono ?_; rintro e w4 ⟨rfl, hb4⟩; have hC4 := hC3.trans (hb4.mono hC3.size); clear d0 d1 d2; obtain ⟨-, d0, d1, d2, -⟩ := HC.out.below (hB16.trans (hC4.mono hB16.size)))
        | (go_at_call 22; with_reducible refine (HK.out _ hC4).mono ?_; rintro e w5 ⟨rfl, hb5⟩; have hC5 := hC4.trans (hb5.mono hC4.size)))
      have hB5 : Below (W.alloc (.cells #[.int .i64 a, .int .i64 b, .int .i64 c] 31)).heap.size (W.alloc (.cells #[.int .i64 a, .int .i64 b, .int .i64 c] 31)) w5 := hB16.trans (hC5.mono hB16.size)
      clear hC3 hC4 hC5 hb4 hb5 d0 d1 d2 HH HI HJ HK hB6 hB16
      have HB := Lib.hid (fun w' (hb : Below (W.alloc (.cells #[.int .i64 a, .int .i64 b, .int .i64 c] 31)).heap.size (W.alloc (.cells #[.int .i64 a, .int .i64 b, .int .i64 c] 31)) w') => (hB0.trans (hb.mono hB0.size) : Below W.heap.size W w'))
      generalize hW1 : W.alloc (.cells #[.int .i64 a, .int .i64 b, .int .i64 c] 31) = V1 at *
      clear hW1 hB0
      generalize w5 = X0 at *
      go_cut [9, 10] (fun s9 s10 wx => ∃ z ec, s9 = z ∧ s10 = .int .i64 ec ∧ TwoP (fun n => inR p n ∨ inR q n) z ec wx ∧ Below V1.heap.size V1 wx)
      case first =>
        have ho := or_any p q _ _ _ (HX.out.below (HB.out _ hB5)) (HY.out.below (HB.out _ hB5))
        go_wp2_with (go_at_call 17; refine ho.mono ?_; rintro e w6 ⟨z, ec, rfl, hT, hb6⟩; have hb7 := hB5.trans (hb6.mono hB5.size); obtain ⟨sz, nz, kz, rfl⟩ := hT.form)
        go_meet
        exact ⟨_, ec, rfl, rfl, hT, hb7⟩
      clear hB5
      obtain ⟨z, ec, rfl, rfl, hT, hB5⟩ := hcut
      obtain ⟨sz, nz, kz, rfl⟩ := hT.form
      rename_i wc
      have HT := Lib.hid hT
      clear hT
      go_upto_region 9 with fail
      go_cut [55] (fun s wx => s = .bool false ∧ Below V1.heap.size V1 wx)
      case first =>
        rcases HT.out with ⟨hc0, -⟩ | ⟨rfl, r, hG, hM, -⟩
        · have j0 : (ec == 0) = false := beq_eq_false_iff_ne.2 hc0
          go_wp2_with fail
          go_meet
          exact ⟨rfl, hB5⟩
        · have h9 := has_any r _ a b c _ hG
          rw [has_or hM, ← HP.out, ← HQ.out] at h9
          clear hG hM HT
          obtain ⟨-, d0, d1, d2, -⟩ := HC.out.below hB5
          cases P <;> cases Q
          all_goals
            go_wp2_with (go_at_call 16; refine h9.mono ?_; rintro e w9 ⟨rfl, hb9⟩; have hb8 := hB5.trans (hb9.mono hB5.size))
            go_meet
            exact ⟨rfl, hb8⟩
      clear hB5 HT
      obtain ⟨rfl, hB5⟩ := hcut
      rename_i wc
      go_upto_region 11 with fail
      go_cut [9, 10] (fun s9 s10 wx => ∃ z ec, s9 = z ∧ s10 = .int .i64 ec ∧ TwoP (fun n => inR p n ∧ inR q n) z ec wx ∧ Below V1.heap.size V1 wx)
      case first =>
        have ho := and_any p q _ _ _ (HX.out.below (HB.out _ hB5)) (HY.out.below (HB.out _ hB5))
        go_wp2_with (go_at_call 18; refine ho.mono ?_; rintro e w6 ⟨z, ec, rfl, hT, hb6⟩; have hb7 := hB5.trans (hb6.mono hB5.size); obtain ⟨sz, nz, kz, rfl⟩ := hT.form)
        go_meet
        exact ⟨_, ec, rfl, rfl, hT, hb7⟩
      clear hB5
      obtain ⟨z, ec, rfl, rfl, hT, hB5⟩ := hcut
      obtain ⟨sz, nz, kz, rfl⟩ := hT.form
      rename_i wc
      have HT := Lib.hid hT
      clear hT
      go_upto_region 12 with fail
      go_cut [73] (fun s wx => s = .bool false ∧ Below V1.heap.size V1 wx)
      case first =>
        rcases HT.out with ⟨hc0, -⟩ | ⟨rfl, r, hG, hM, -⟩
        · have j0 : (ec == 0) = false := beq_eq_false_iff_ne.2 hc0
          go_wp2_with fail
          go_meet
          exact ⟨rfl, hB5⟩
        · have h9 := has_any r _ a b c _ hG
          rw [has_and hM, ← HP.out, ← HQ.out] at h9
          clear hG hM HT
          obtain ⟨-, d0, d1, d2, -⟩ := HC.out.below hB5
          cases P <;> cases Q
          all_goals
            go_wp2_with (go_at_call 16; refine h9.mono ?_; rintro e w9 ⟨rfl, hb9⟩; have hb8 := hB5.trans (hb9.mono hB5.size))
            go_meet
            exact ⟨rfl, hb8⟩
      clear hB5 HT
      obtain ⟨rfl, hB5⟩ := hcut
      rename_i wc
      go_upto_region 14 with fail
      go_cut [9, 10] (fun s9 s10 wx => ∃ z ec, s9 = z ∧ s10 = .int .i64 ec ∧ TwoP (fun n => 0 ≤ n ∧ n < 1000000000 ∧ ¬ inR p n) z ec wx ∧ Below V1.heap.size V1 wx)
      case first =>
        have ho := not_any p _ _ (HX.out.below (HB.out _ hB5))
        go_wp2_with (go_at_call 20; refine ho.mono ?_; rintro e w6 ⟨z, ec, rfl, hT, hb6⟩; have hb7 := hB5.trans (hb6.mono hB5.size); obtain ⟨sz, nz, kz, rfl⟩ := hT.form)
        go_meet
        exact ⟨_, ec, rfl, rfl, hT, hb7⟩
      clear hB5
      obtain ⟨z, ec, rfl, rfl, hT, hB5⟩ := hcut
      obtain ⟨sz, nz, kz, rfl⟩ := hT.form
      rename_i wc
      have HT := Lib.hid hT
      clear hT
      go_upto_region 15 with fail
      go_cut [11] (fun s wx => s = .bool (Vs.goodB a b c) ∧ TwoP (fun n => 0 ≤ n ∧ n < 1000000000 ∧ ¬ inR p n) (.slice sz nz kz) ec wx ∧ Below V1.heap.size V1 wx)
      case first =>
        obtain ⟨-, d0, d1, d2, -⟩ := HC.out.below hB5
        by_cases a0 : 0 ≤ a
        rotate_left
        · have hg := Lib.hid (Vs.good_ff (a := a) (b := b) (c := c) (by omega))
          go_wp2_with fail
          go_meet
          exact ⟨by rw [hg.out], HT.out, hB5⟩
        by_cases a1 : a ≤ 999
        rotate_left
        · have hg := Lib.hid (Vs.good_ff (a := a) (b := b) (c := c) (by omega))
          go_wp2_with fail
          go_meet
          exact ⟨by rw [hg.out], HT.out, hB5⟩
        by_cases b0 : 0 ≤ b
        rotate_left
        · have hg := Lib.hid (Vs.good_ff (a := a) (b := b) (c := c) (by omega))
          go_wp2_with fail
          go_meet
          exact ⟨by rw [hg.out], HT.out, hB5⟩
        by_cases b1 : b ≤ 999
        rotate_left
        · have hg := Lib.hid (Vs.good_ff (a := a) (b := b) (c := c) (by omega))
          go_wp2_with fail
          go_meet
          exact ⟨by rw [hg.out], HT.out, hB5⟩
        by_cases c0 : 0 ≤ c
        rotate_left
        · have hg := Lib.hid (Vs.good_ff (a := a) (b := b) (c := c) (by omega))
          go_wp2_with fail
          go_meet
          exact ⟨by rw [hg.out], HT.out, hB5⟩
        by_cases c1 : c ≤ 999
        rotate_left
        · have hg := Lib.hid (Vs.good_ff (a := a) (b := b) (c := c) (by omega))
          go_wp2_with fail
          go_meet
          exact ⟨by rw [hg.out], HT.out, hB5⟩
        have hg := Lib.hid (Vs.good_tt (a := a) (b := b) (c := c) (by omega) (by omega) (by omega))
        go_wp2_with fail
        go_meet
        exact ⟨by rw [hg.out], HT.out, hB5⟩
      clear hB5 HT
      obtain ⟨rfl, hT, hB5⟩ := hcut
      rename_i wc
      generalize hgg : Vs.goodB a b c = gd
      rcases hT with ⟨hc0, -⟩ | ⟨rfl, r, hG, hM, -⟩
      · have j0 : (ec == 0) = false := beq_eq_false_iff_ne.2 hc0
        clear hgg
        go_wp2_with fail
        go_ret
        exact ⟨rfl, HB.out _ hB5⟩
      · have h9 := has_any r _ a b c _ hG
        rw [has_not hM, ← HP.out, hgg] at h9
        clear hG hM hgg
        obtain ⟨-, d0, d1, d2, -⟩ := HC.out.below hB5
        cases P <;> cases gd
        all_goals
          go_wp2_with (go_at_call 16; refine h9.mono ?_; rintro e w9 ⟨rfl, hb9⟩; have hb8 := hB5.trans (hb9.mono hB5.size))
          go_ret
          exact ⟨rfl, HB.out _ hb8⟩
end Sg
end Go.Proofs.YtlmmhhkhoaoheaaGreatDoor
