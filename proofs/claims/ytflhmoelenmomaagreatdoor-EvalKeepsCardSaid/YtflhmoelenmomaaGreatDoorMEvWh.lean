/-
  The reference's with. (printed by gen_EvWh.py)
-/
import Derived.Test.YtflhmoelenmomaaGreatDoorMEvWg
import Derived.Test.YtflhmoelenmomaaGreatDoorMEvI
namespace Go.Proofs.YtflhmoelenmomaaGreatDoor
open Go.RowKit Go.Lib
namespace Ev
open Rc

theorem rowd_keep {W W' : World} {B e size n : Nat} {v : Value} {xs : List Value} (h : W.ownsRow B e size v n xs) (hb : Below W.heap.size W W') : W'.ownsRow B e size v n xs := by
  refine ⟨h.1, h.2.imp id ?_⟩
  rintro ⟨g, cap, cur, rfl, h1, h2, h3⟩
  exact ⟨g, cap, cur, rfl, h1, (hb.block g (Array.getElem?_eq_some_iff.1 h2).1).trans h2, h3⟩
/-- inputs put behind a row of one's own -/
theorem step_catD {ops : Array Oper} {o : Oper} {a : Act} {w : World} {K : Act → World → Prop} {Q : Exit → Act → World → Prop} {E : Prop} (hgd : o.guard = none) (so xo : Operand)
    (ho : o.op = .call { callee := .builtin .append, args := #[so, xo], argTypes := #[43, 43] }) (B : Nat) (v : Value) (l0 : List DV) (hs : a.eval so = v) (hown : w.ownsRow B 42 2 v l0.length (rowD l0)) (B2 : Nat) (nv : Value) (l : List DV) (hx : a.eval xo = nv) (hN : w.ownsRow B2 42 2 nv l.length (rowD l)) (hl0 : l0.length ≤ 2000) (hl : l.length ≤ 2000) (hB : B ≤ w.heap.size)
    (h : ∀ v' w', w'.ownsRow B 42 2 v' (l0 ++ l).length (rowD (l0 ++ l)) → w.grownBy w' v.ownBlock → K (a.put o.dst v') w') :
    if Region.wanted o (yielded ops a.tmps) = true then Oper.wp Tryz.prog o a w K Q else E := by
  obtain ⟨i0, hi0, hz0, hz1, hz2⟩ := info_ps info_dep
  rw [if_pos (by simp [Region.wanted, hgd])]
  rcases hN.2 with ⟨hnv, hl0'⟩ | ⟨g, cap, cur, hnv, -⟩
  · have hl1 : l = [] := List.length_eq_zero_iff.1 hl0'
    subst hl1
    rw [hnv] at hx
    have hrun := run_append_owned_none (P := Tryz.prog) (w := w) B 43 o.type 42 i0 2 Tryz.underlying43 hi0 v l0.length (rowD l0) hown
    unfold Oper.wp
    simp [execOp, ho, resolve, invoke, builtin, hs, hx, hrun, Result.andThen]
    exact h v w (by simpa using hown) ⟨rfl, rfl, rfl, Nat.le_refl _, fun _ _ _ => rfl⟩
  · rw [hnv] at hx
    refine wp_append_own w so xo 43 ho B 42 i0 _ 2 40 Tryz.underlying43 hi0 hz0 hz1 hz2 rfl (by decide) v l0.length (rowD l0) hs hown ⟨g, 0, none⟩ l.length cap (rowD l) hx (by rw [rowD_len]) (fun j u hu => hN.cells (g := g) (by rw [hnv]; rfl) j u hu) (rowD_one _) (by unfold maxLen; omega) (by omega) hB ?_
    intro v' w' h1 h2 _
    refine h v' w' ?_ h2
    rw [rowD_app, List.length_append]
    exact h1
theorem do_snoc2 {w' : World} {B : Nat} {v v' : Value} {qs : List DV} {ds : List Dp} (h : DO w' B v qs ds) {q : DV} {d : Dp} (hd : DO1 w' B q d) (hown : w'.ownsRow B 42 2 v' (qs ++ [q]).length (rowD (qs ++ [q]))) : DO w' B v' (qs ++ [q]) (ds ++ [d]) := by
  refine ⟨hown, by simp [h.len], fun i p c hp hc => ?_⟩
  by_cases hi : i < qs.length
  · rw [List.getElem?_append_left hi] at hp
    rw [List.getElem?_append_left (by rw [← h.len]; exact hi)] at hc
    exact h.at_ i p c hp hc
  · rw [List.getElem?_append_right (by omega)] at hp
    rw [List.getElem?_append_right (by rw [← h.len]; omega)] at hc
    have h0 : i - qs.length = 0 := by
      have := (List.getElem?_eq_some_iff.1 hp).1
      simp at this
      omega
    rw [← h.len, h0] at hc
    rw [h0] at hp
    simp at hp hc
    subst hp hc
    exact hd
/-- what the reference's with answers -/
def WQ (W : World) (B : Nat) (qs : List DV) (q : DV) (r : Except Int (List Dp)) (e : Ending) (W' : World) : Prop := Below W.heap.size W W' ∧ match r with
  | .error k => e = .returned (.tuple #[.slice none 0 0, .int .i64 k])
  | .ok l => ∃ ba bn bc, e = .returned (.tuple #[.slice ba bn bc, .int .i64 0]) ∧ DO W' B (.slice ba bn bc) (qs ++ [q]) l
set_option maxHeartbeats 4000000 in
set_option maxRecDepth 100000 in
theorem with_any {W : World} {B : Nat} {v : Value} {qs : List DV} {ds : List Dp} (h : DO W B v qs ds) (hB : B ≤ W.heap.size) (hl : ds.length ≤ 8) {d : Dp} (ra : Option Addr) (rn rc : Nat) (hd : Sg.GO W B (.slice ra rn rc) d.rng) :
    Calls Tryz.prog 35 #[v, .agg #[.string d.name, .slice ra rn rc]] W fun e W' => WQ W B qs ⟨d.name, ra, rn, rc⟩ (moreP ds d) e W' := by
  have hA : Below W.heap.size W (W.alloc (.cells #[.string d.name, .slice ra rn rc] 42)) := (Below.refl _ _).alloc (Nat.le_refl _) _
  have hX := heap_alloc_new W (.cells #[.string d.name, .slice ra rn rc] 42)
  obtain ⟨ba, bc, hv, hbc⟩ := h.form
  have HV := Lib.hid hv
  have HA := Lib.hid hA
  have HX := Lib.hid hX
  have H := Lib.hid h
  have HD := Lib.hid hd
  have hlen := Lib.hid h.len
  rw [hv]
  clear hX h hd hv
  go_enter Tryz.func35, Tryz.ntmps35
  go_wp2_with fail
  go_loopw [10] (fun i wr => ∃ k : Nat, k ≤ ds.length ∧ i = .int .i64 (k : Int) ∧ (∀ x ∈ ds.take k, decide (x.name = d.name) = false) ∧ Below W.heap.size W wr ∧ wr.heap[W.heap.size]? = some (.cells #[.string d.name, .slice ra rn rc] 42)) (fun i _ => ds.length - (RowKit.intOf i).toNat)
  case atStart => exact ⟨0, Nat.zero_le _, rfl, fun x h => by simp at h, HA.out, HX.out⟩
  case round =>
    obtain ⟨k, hk, rfl, hn, hb, hX2⟩ := hrel
    have hlt0 : W.heap.size < wr.heap.size := (Array.getElem?_eq_some_iff.1 hX2).1
    by_cases hlt : k < ds.length
    · obtain ⟨x, hx⟩ : ∃ x, ds[k]? = some x := ⟨ds[k], List.getElem?_eq_getElem hlt⟩
      obtain ⟨g, q, cap, hv2, hBg, hgl, hq, hq1, a0, a1⟩ := H.out.cellsAt hx
      rw [HV.out] at hv2
      obtain ⟨rfl, -, -⟩ : ba = some ⟨g, 0, none⟩ ∧ True ∧ True := by
        refine ⟨?_, trivial, trivial⟩
        injection hv2
      have c0 := (hb.cell (p := ⟨g, k * 2, none⟩) hgl).trans a0
      have c1 := (hb.cell (p := ⟨g, k * 2 + 1, none⟩) hgl).trans a1
      have hX3 := (heap_alloc_old wr (.cells #[.string x.name, .slice q.ra q.rn q.rc] 42) hlt0).trans hX2
      obtain ⟨d0, d1⟩ := obj2 hX3
      have hB3 := hb.alloc hb.size (.cells #[.string x.name, .slice q.ra q.rn q.rc] 42)
      have HN := Lib.hid hn
      have HHX := Lib.hid hx
      have HB3 := Lib.hid (And.intro hB3 hX3)
      clear a0 a1 hn hx hq hq1 hv2 hB3 hX3 hX2 hb
      by_cases hne : x.name = d.name
      · have i1 : (x.name.toList == d.name.toList) = true := by rw [seq_iff]; exact decide_eq_true hne
        have HM := Lib.hid (show moreP ds d = .error 11 by
          rw [more_eq, if_pos]
          exact hasN_at HHX.out (decide_eq_true hne))
        clear hne
        go_wp2_with fail
        go_ret2
        rw [HM.out]
        exact ⟨HB3.out.1, rfl⟩
      · have i1 : (x.name.toList == d.name.toList) = false := by rw [seq_iff]; exact decide_eq_false hne
        have HST := Lib.hid (hasN_step HHX.out HN.out (decide_eq_false hne))
        clear hne
        go_wp2_with fail
        refine ⟨⟨k + 1, hlt, by push_cast; rfl, HST.out, HB3.out.1, HB3.out.2⟩, ?_⟩
        simp only [RowKit.intOf]
        omega
    · obtain rfl : k = ds.length := by omega
      rw [List.take_length] at hn
      have hno := hasN_none hn
      by_cases h8 : ds.length = 8
      · have HM := Lib.hid (show moreP ds d = .error 13 by rw [more_eq, if_neg (by rw [hno]; decide), if_neg (by omega)])
        have hb' := Lib.hid hb
        have i8 : ((ds.length : Int) == 8) = true := by rw [beq_iff_eq]; omega
        clear hn hno hb hX2 h8 hk hlt
        go_wp2_with fail
        go_ret2
        rw [HM.out]
        exact ⟨hb'.out, rfl⟩
      · have HM := Lib.hid (show moreP ds d = .ok (ds ++ [d]) by rw [more_eq, if_neg (by rw [hno]; decide), if_pos (by omega)])
        have i8 : ((ds.length : Int) == 8) = false := by rw [beq_eq_false_iff_ne]; omega
        have HB := Lib.hid hb
        obtain ⟨d0, d1⟩ := obj2 hX2
        have hq8 : qs.length ≤ 8 := by rw [hlen.out]; exact hl
        clear hn hno hb h8 hk hlt
        go_wp2_with fail
        have e0 := Kp.cell (w := wr) (K := fun k => k = W.heap.size) (a := ⟨W.heap.size, 0, none⟩) rfl d0
        have e1 := Kp.cell (w := wr) (K := fun k => k = W.heap.size) (a := ⟨W.heap.size, 1, none⟩) rfl d1
        clear d0 d1
        refine Mix.plan_region (fun w' => ∃ Y, w' = Kp.kp wr (fun k => k = W.heap.size) Y) 6 (.q [1, 3] (.two 0 (.two 2 (.one 4 (.one 5 .done)) 4 (.one 2 (.one 5 .done))) 4 (.one 0 (.one 2 (.one 5 .done))))) (by kernel_rfl) (fun _ _ d _ _ h => by cases d <;> exact h) (by kernel_rfl) (Kp.of fun _ _ => rfl) ?_
        refine Mix.plan_q (by simp only [Mix.pick, Mix.nth]; rfl) ?_
        repeat (go_big_quiet_step (fail))
        refine wpQuiet_nil ?_
        clear e0 e1 i8
        have hb0 : Below wr.heap.size wr wr.drew := (Below.refl _ _).drew
        generalize wr.drew = w0 at *
        refine Mix.plan_two (by simp only [Mix.nth]; rfl) (by simp only [Mix.nth]; rfl) (fun K hK => ?_) (fun K hK => ?_)
        · go_simp
          refine hK _ _ (Kp.of fun k hk => by subst hk; exact (heap_alloc_old w0 _ (Nat.lt_of_lt_of_le hlt0 hb0.size)).trans (hb0.block _ hlt0)) ?_
          clear hK K
          have hq1 : Below w0.heap.size w0 (w0.alloc (.cells #[] 42)) := (Below.refl _ _).alloc (Nat.le_refl _) _
          have hb1 : Below wr.heap.size wr (w0.alloc (.cells #[] 42)) := hb0.alloc hb0.size _
          have hO1 : (w0.alloc (.cells #[] 42)).ownsRow wr.heap.size 42 2 (.slice (some ⟨w0.heap.size, 0, none⟩) 0 0) 0 [] := World.ownsRow_lit (base := wr.heap.size) (e := 42) (size := 2) w0 #[] 0 hb0.size (by unfold maxLen; omega) rfl
          have hz1 := Lib.hid (show (w0.alloc (.cells #[] 42)).heap.size = w0.heap.size + 1 by simp)
          generalize hw1 : w0.alloc (.cells #[] 42) = w1 at *
          clear hw1 hq1
          refine Mix.plan_two (by simp only [Mix.nth]; rfl) (by simp only [Mix.nth]; rfl) (fun K hK => ?_) (fun K hK => ?_)
          · refine step_catD rfl _ _ rfl wr.heap.size (.slice (some ⟨w0.heap.size, 0, none⟩) 0 0) [] rfl hO1 B (.slice ba ds.length bc) qs rfl (by have := rowd_keep (rowd_keep H.out.row HB.out) hb1; rw [HV.out] at this; exact this) (by simp) (by omega) hb1.size ?_
            intro v2 w2 hO2 hg2
            have hb2 : Below wr.heap.size wr w2 := hb1.grown hg2 hb1.size (fun k e => (hO1.lt k e).1)
            refine hK _ _ (Kp.of fun k hk => by subst hk; exact hb2.block _ hlt0) ?_
            clear hK K
            refine Mix.plan_one (by simp only [Mix.nth]; rfl) (fun K hK => ?_)
            go_simp
            refine hK _ _ (Kp.of fun k hk => by subst hk; exact (heap_alloc_old w2 _ (Nat.lt_of_lt_of_le hlt0 hb2.size)).trans (hb2.block _ hlt0)) ?_
            clear hK K
            have hq4 : Below w2.heap.size w2 (w2.alloc (.cells #[.string d.name, .slice ra rn rc] 42)) := (Below.refl _ _).alloc (Nat.le_refl _) _
            have hb4 : Below wr.heap.size wr (w2.alloc (.cells #[.string d.name, .slice ra rn rc] 42)) := hb2.alloc hb2.size _
            have hL4 : (w2.alloc (.cells #[.string d.name, .slice ra rn rc] 42)).ownsRow wr.heap.size 42 2 (.slice (some ⟨w2.heap.size, 0, none⟩) 1 1) 1 [.string d.name, .slice ra rn rc] := World.ownsRow_lit (base := wr.heap.size) (e := 42) (size := 2) w2 #[.string d.name, .slice ra rn rc] 1 hb2.size (by unfold maxLen; omega) rfl
            have hz4 := Lib.hid (show (w2.alloc (.cells #[.string d.name, .slice ra rn rc] 42)).heap.size = w2.heap.size + 1 by simp)
            have hO4 := rowd_keep hO2 hq4
            generalize hw4 : w2.alloc (.cells #[.string d.name, .slice ra rn rc] 42) = w4 at *
            clear hw4 hq4
            refine Mix.plan_one (by simp only [Mix.nth]; rfl) (fun K hK => ?_)
            refine step_catD rfl _ _ rfl wr.heap.size v2 ([] ++ qs) rfl hO4 wr.heap.size (.slice (some ⟨w2.heap.size, 0, none⟩) 1 1) [⟨d.name, ra, rn, rc⟩] rfl hL4 (by simp; omega) (by simp) hb4.size ?_
            intro v5 w5 hO5 hg5
            have hb5 : Below wr.heap.size wr w5 := hb4.grown hg5 hb4.size (fun k e => (hO4.lt k e).1)
            refine hK _ _ (Kp.of fun k hk => by subst hk; exact hb5.block _ hlt0) ?_
            clear hK K
            refine Mix.plan_done ?_
            simp only [List.drop_succ_cons]
            obtain ⟨sa, sn, sc, rfl⟩ : ∃ sa sn sc, v5 = .slice sa sn sc := by
              rcases hO5.2 with ⟨rfl, _⟩ | ⟨g, cap, cur, rfl, _⟩ <;> exact ⟨_, _, _, rfl⟩
            have HO5 := Lib.hid hO5
            have HB5 := Lib.hid hb5
            clear hO5
            go_wp2_with fail
            go_ret2
            rw [HM.out]
            have hbW := HB.out.trans (HB5.out.mono HB.out.size)
            refine ⟨hbW, _, _, _, rfl, do_snoc2 (H.out.keep hbW) ⟨rfl, go_move HD.out fun g cs hg _ => hbW.block g (Array.getElem?_eq_some_iff.1 hg).1⟩ ?_⟩
            exact own_mono (by simpa using HO5.out) (Nat.le_trans hB HB.out.size)
          · go_simp
            refine hK _ _ (Kp.of fun k hk => by subst hk; exact (heap_alloc_old w1 _ (Nat.lt_of_lt_of_le hlt0 hb1.size)).trans (hb1.block _ hlt0)) ?_
            clear hK K
            have hq4 : Below w1.heap.size w1 (w1.alloc (.cells #[.string d.name, .slice ra rn rc] 42)) := (Below.refl _ _).alloc (Nat.le_refl _) _
            have hb4 : Below wr.heap.size wr (w1.alloc (.cells #[.string d.name, .slice ra rn rc] 42)) := hb1.alloc hb1.size _
            have hL4 : (w1.alloc (.cells #[.string d.name, .slice ra rn rc] 42)).ownsRow wr.heap.size 42 2 (.slice (some ⟨w1.heap.size, 0, none⟩) 1 1) 1 [.string d.name, .slice ra rn rc] := World.ownsRow_lit (base := wr.heap.size) (e := 42) (size := 2) w1 #[.string d.name, .slice ra rn rc] 1 hb1.size (by unfold maxLen; omega) rfl
            have hz4 := Lib.hid (show (w1.alloc (.cells #[.string d.name, .slice ra rn rc] 42)).heap.size = w1.heap.size + 1 by simp)
            have hO4 := rowd_keep hO1 hq4
            generalize hw4 : w1.alloc (.cells #[.string d.name, .slice ra rn rc] 42) = w4 at *
            clear hw4 hq4
            refine Mix.plan_one (by simp only [Mix.nth]; rfl) (fun K hK => ?_)
            refine step_catD rfl _ _ rfl wr.heap.size (.slice (some ⟨w0.heap.size, 0, none⟩) 0 0) [] rfl hO4 B (.slice ba ds.length bc) qs rfl (by have := rowd_keep (rowd_keep H.out.row HB.out) hb4; rw [HV.out] at this; exact this) (by simp) (by omega) hb4.size ?_
            intro v2 w2 hO2 hg2
            have hb2 : Below wr.heap.size wr w2 := hb4.grown hg2 hb4.size (fun k e => (hO4.lt k e).1)
            refine hK _ _ (Kp.of fun k hk => by subst hk; exact hb2.block _ hlt0) ?_
            clear hK K
            have hL2 := hL4.kept hg2 (.inr (by simp [Value.ownBlock]; have q0 := hz1.out; have q1 := hz4.out; omega))
            refine Mix.plan_one (by simp only [Mix.nth]; rfl) (fun K hK => ?_)
            refine step_catD rfl _ _ rfl wr.heap.size v2 ([] ++ qs) rfl hO2 wr.heap.size (.slice (some ⟨w1.heap.size, 0, none⟩) 1 1) [⟨d.name, ra, rn, rc⟩] rfl hL2 (by simp; omega) (by simp) hb2.size ?_
            intro v5 w5 hO5 hg5
            have hb5 : Below wr.heap.size wr w5 := hb2.grown hg5 hb2.size (fun k e => (hO2.lt k e).1)
            refine hK _ _ (Kp.of fun k hk => by subst hk; exact hb5.block _ hlt0) ?_
            clear hK K
            refine Mix.plan_done ?_
            simp only [List.drop_succ_cons]
            obtain ⟨sa, sn, sc, rfl⟩ : ∃ sa sn sc, v5 = .slice sa sn sc := by
              rcases hO5.2 with ⟨rfl, _⟩ | ⟨g, cap, cur, rfl, _⟩ <;> exact ⟨_, _, _, rfl⟩
            have HO5 := Lib.hid hO5
            have HB5 := Lib.hid hb5
            clear hO5
            go_wp2_with fail
            go_ret2
            rw [HM.out]
            have hbW := HB.out.trans (HB5.out.mono HB.out.size)
            refine ⟨hbW, _, _, _, rfl, do_snoc2 (H.out.keep hbW) ⟨rfl, go_move HD.out fun g cs hg _ => hbW.block g (Array.getElem?_eq_some_iff.1 hg).1⟩ ?_⟩
            exact own_mono (by simpa using HO5.out) (Nat.le_trans hB HB.out.size)
        · go_simp
          refine hK _ _ (Kp.of fun k hk => by subst hk; exact (heap_alloc_old w0 _ (Nat.lt_of_lt_of_le hlt0 hb0.size)).trans (hb0.block _ hlt0)) ?_
          clear hK K
          have hq4 : Below w0.heap.size w0 (w0.alloc (.cells #[.string d.name, .slice ra rn rc] 42)) := (Below.refl _ _).alloc (Nat.le_refl _) _
          have hb4 : Below wr.heap.size wr (w0.alloc (.cells #[.string d.name, .slice ra rn rc] 42)) := hb0.alloc hb0.size _
          have hL4 : (w0.alloc (.cells #[.string d.name, .slice ra rn rc] 42)).ownsRow wr.heap.size 42 2 (.slice (some ⟨w0.heap.size, 0, none⟩) 1 1) 1 [.string d.name, .slice ra rn rc] := World.ownsRow_lit (base := wr.heap.size) (e := 42) (size := 2) w0 #[.string d.name, .slice ra rn rc] 1 hb0.size (by unfold maxLen; omega) rfl
          have hz4 := Lib.hid (show (w0.alloc (.cells #[.string d.name, .slice ra rn rc] 42)).heap.size = w0.heap.size + 1 by simp)
          generalize hw4 : w0.alloc (.cells #[.string d.name, .slice ra rn rc] 42) = w4 at *
          clear hw4 hq4
          refine Mix.plan_one (by simp only [Mix.nth]; rfl) (fun K hK => ?_)
          go_simp
          refine hK _ _ (Kp.of fun k hk => by subst hk; exact (heap_alloc_old w4 _ (Nat.lt_of_lt_of_le hlt0 hb4.size)).trans (hb4.block _ hlt0)) ?_
          clear hK K
          have hq1 : Below w4.heap.size w4 (w4.alloc (.cells #[] 42)) := (Below.refl _ _).alloc (Nat.le_refl _) _
          have hb1 : Below wr.heap.size wr (w4.alloc (.cells #[] 42)) := hb4.alloc hb4.size _
          have hO1 : (w4.alloc (.cells #[] 42)).ownsRow wr.heap.size 42 2 (.slice (some ⟨w4.heap.size, 0, none⟩) 0 0) 0 [] := World.ownsRow_lit (base := wr.heap.size) (e := 42) (size := 2) w4 #[] 0 hb4.size (by unfold maxLen; omega) rfl
          have hz1 := Lib.hid (show (w4.alloc (.cells #[] 42)).heap.size = w4.heap.size + 1 by simp)
          have hL1 := rowd_keep hL4 hq1
          generalize hw1 : w4.alloc (.cells #[] 42) = w1 at *
          clear hw1 hq1
          refine Mix.plan_one (by simp only [Mix.nth]; rfl) (fun K hK => ?_)
          refine step_catD rfl _ _ rfl wr.heap.size (.slice (some ⟨w4.heap.size, 0, none⟩) 0 0) [] rfl hO1 B (.slice ba ds.length bc) qs rfl (by have := rowd_keep (rowd_keep H.out.row HB.out) hb1; rw [HV.out] at this; exact this) (by simp) (by omega) hb1.size ?_
          intro v2 w2 hO2 hg2
          have hb2 : Below wr.heap.size wr w2 := hb1.grown hg2 hb1.size (fun k e => (hO1.lt k e).1)
          refine hK _ _ (Kp.of fun k hk => by subst hk; exact hb2.block _ hlt0) ?_
          clear hK K
          have hL2 := hL1.kept hg2 (.inr (by simp [Value.ownBlock]; have q0 := hz4.out; have q1 := hz1.out; omega))
          refine Mix.plan_one (by simp only [Mix.nth]; rfl) (fun K hK => ?_)
          refine step_catD rfl _ _ rfl wr.heap.size v2 ([] ++ qs) rfl hO2 wr.heap.size (.slice (some ⟨w0.heap.size, 0, none⟩) 1 1) [⟨d.name, ra, rn, rc⟩] rfl hL2 (by simp; omega) (by simp) hb2.size ?_
          intro v5 w5 hO5 hg5
          have hb5 : Below wr.heap.size wr w5 := hb2.grown hg5 hb2.size (fun k e => (hO2.lt k e).1)
          refine hK _ _ (Kp.of fun k hk => by subst hk; exact hb5.block _ hlt0) ?_
          clear hK K
          refine Mix.plan_done ?_
          simp only [List.drop_succ_cons]
          obtain ⟨sa, sn, sc, rfl⟩ : ∃ sa sn sc, v5 = .slice sa sn sc := by
            rcases hO5.2 with ⟨rfl, _⟩ | ⟨g, cap, cur, rfl, _⟩ <;> exact ⟨_, _, _, rfl⟩
          have HO5 := Lib.hid hO5
          have HB5 := Lib.hid hb5
          clear hO5
          go_wp2_with fail
          go_ret2
          rw [HM.out]
          have hbW := HB.out.trans (HB5.out.mono HB.out.size)
          refine ⟨hbW, _, _, _, rfl, do_snoc2 (H.out.keep hbW) ⟨rfl, go_move HD.out fun g cs hg _ => hbW.block g (Array.getElem?_eq_some_iff.1 hg).1⟩ ?_⟩
          exact own_mono (by simpa using HO5.out) (Nat.le_trans hB HB.out.size)
end Ev
end Go.Proofs.YtflhmoelenmomaaGreatDoor
