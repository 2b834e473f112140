/-
  The reference's Both, of two ranges in one of which something is.
-/
import Derived.Test.YtlmmhhkhoaoheaaGreatDoorSgR
import Derived.Test.YtlmmhhkhoaoheaaGreatDoorSgLT
namespace Go.Proofs.YtlmmhhkhoaoheaaGreatDoor
open Go.RowKit Go.Shelf Go.Lib
namespace Sg

/-- the range that says S, put together of the pieces between the ends -/
theorem range_sp {gs r : List G} {S : Int → Bool} {P : Int → Prop} {B : Nat} {e : Ending} {W' : World} (hst : Still S (endsF gs)) (hr : Nm r) (hbd : ∀ g ∈ r, Bd g) (h : ∀ n, inR r n ↔ (0 ≤ n ∧ n < 1000000000 ∧ S n = true)) (hP : ∀ n, inR r n ↔ P n)
    (hA : (16 < (rangeF S (endsF gs) []).length ∧ e = .returned (.tuple #[.slice none 0 0, .int .i64 13])) ∨ (¬ 16 < (rangeF S (endsF gs) []).length ∧ ∃ v', e = .returned (.tuple #[v', .int .i64 0]) ∧ GO W' B v' (rangeF S (endsF gs) []))) : SetP B P r e W' := by
  rw [range_is hst hr h] at hA
  exact ⟨hr, hP, hbd, hA⟩
theorem still_in {gs : List G} {S : Int → Bool} (h : ∀ a b n, a ∈ endsF gs → b ∈ endsF gs → (∀ x ∈ endsF gs, x ≤ a ∨ b ≤ x) → a ≤ n → n < b → S n = S a) : Still S (endsF gs) := still_of _ (ends_es gs).srt h
/-- the normal form of any pieces -/
theorem norm_ex (l : List G) (hbd : ∀ g ∈ l, Bd g) : ∃ r, Nm r ∧ (∀ n, inR r n ↔ inR l n) ∧ ∀ g ∈ r, Bd g := by
  have hp := List.mergeSort_perm l (fun g h => decide (g.1 ≤ h.1))
  have hs : (l.mergeSort fun g h => decide (g.1 ≤ h.1)).Pairwise fun g h => g.1 ≤ h.1 :=
    (List.pairwise_mergeSort (fun a b c h1 h2 => by simp only [decide_eq_true_eq] at *; omega) (fun a b => by simp only [Bool.or_eq_true, decide_eq_true_eq]; omega) l).imp fun h => of_decide_eq_true h
  obtain ⟨h1, h2⟩ := join_nm hs
  have h3 := (acc_bd (l := l.mergeSort fun g h => decide (g.1 ≤ h.1)) (fun x hx => hbd x (hp.mem_iff.1 hx)) (l.mergeSort fun g h => decide (g.1 ≤ h.1)).length).1
  rw [acc_all] at h3
  exact ⟨_, h1, fun n => (h2 n).trans ⟨fun ⟨g, hg, h⟩ => ⟨g, hp.mem_iff.1 hg, h⟩, fun ⟨g, hg, h⟩ => ⟨g, hp.mem_iff.2 hg, h⟩⟩, h3⟩
theorem both_r (p q : List G) (hbd : ∀ g ∈ p ++ q, Bd g) : Still (fun n => inB p n || inB q n) (endsF (p ++ q)) ∧ ∃ r, Nm r ∧ (∀ g ∈ r, Bd g) ∧ (∀ n, inR r n ↔ (0 ≤ n ∧ n < 1000000000 ∧ (inB p n || inB q n) = true)) ∧ ∀ n, inR r n ↔ inR p n ∨ inR q n := by
  refine ⟨still_in fun a b n ha hb h h1 h2 => by rw [in_still (fun g hg => List.mem_append_left _ hg) ha hb h h1 h2, in_still (fun g hg => List.mem_append_right _ hg) ha hb h h1 h2], ?_⟩
  obtain ⟨r, h1, h2, h3⟩ := norm_ex (p ++ q) hbd
  refine ⟨r, h1, h3, fun n => ?_, fun n => (h2 n).trans (in_app p q n)⟩
  rw [h2, in_app, Bool.or_eq_true, inB_iff, inB_iff]
  refine ⟨fun h => ?_, fun h => h.2.2⟩
  obtain ⟨g, hg, h4, h5⟩ := (in_app p q n).2 h
  have := hbd g hg
  unfold Bd at this
  exact ⟨by omega, by omega, h⟩
/-- flags so far -/
def flK (S : Int → Bool) (l : List Int) (k : Nat) : List Bool := (l.take k).map S ++ List.replicate (l.length - k) false
theorem flK_len (S : Int → Bool) (l : List Int) {k : Nat} (h : k ≤ l.length) : (flK S l k).length = l.length := by
  unfold flK
  simp
  omega
theorem flK_set {S : Int → Bool} {l : List Int} {k : Nat} {x : Int} (h : l[k]? = some x) : (flK S l k).set k (S x) = flK S l (k + 1) := by
  obtain ⟨h1, h2⟩ := List.getElem?_eq_some_iff.1 h
  unfold flK
  have hl : ((l.take k).map S).length = k := by simp; omega
  rw [List.set_append_right _ _ (by omega), hl, Nat.sub_self, show l.length - k = (l.length - (k + 1)) + 1 by omega, List.replicate_succ, List.set_cons_zero, List.take_add_one, h]
  simp
theorem flK_all (S : Int → Bool) (l : List Int) : flK S l l.length = l.map S := by
  unfold flK
  simp
theorem made_false (n : Nat) : (madeCells (Value.bool false).cells (n * 1)).toList = (List.replicate n false).map Value.bool := by
  rw [Nat.mul_one]
  exact (toList_madeCells_one _ n).trans (by simp)
/-- the answer of the reference's Range -/
def RA (S : Int → Bool) (l : List Int) (B : Nat) (e : Ending) (W' : World) : Prop := (16 < (rangeF S l []).length ∧ e = .returned (.tuple #[.slice none 0 0, .int .i64 13])) ∨ (¬ 16 < (rangeF S l []).length ∧ ∃ v', e = .returned (.tuple #[v', .int .i64 0]) ∧ GO W' B v' (rangeF S l []))
theorem rrange_two (S : Int → Bool) (l : List Int) (B : Nat) (v vb : Value) (W : World) (hO : IO W B v l) (hF : BO W B vb (l.map S)) (hl : l.length ≤ 100000) :
    Calls Tryz.prog 33 #[v, vb] W fun e W' => ∃ vr cr, e = .returned (.tuple #[vr, .int .i64 cr]) ∧ RA S l W.heap.size e W' ∧ Below W.heap.size W W' := by
  refine (rrange_any S l B v vb W hO hF hl).mono fun e W' h => ?_
  rcases h.1 with ⟨h1, h2⟩ | ⟨h1, v', h2, h3⟩
  · exact ⟨_, _, h2, h⟩
  · exact ⟨_, _, h2, h⟩
theorem both_bad1 (p : List G) (x y : Value) (W : World) (hx : GS W x p) (hb : goodB p = false) :
    Calls Tryz.prog 21 #[x, y, .int .i64 0] W fun e W' => e = .returned (.tuple #[.slice none 0 0, .int .i64 1]) ∧ Below W.heap.size W W' := by
  have h1 := rgood_any p x W hx
  rw [hb] at h1
  clear hx
  go_enter Tryz.func21, Tryz.ntmps21
  go_wp2_with (go_at_call 39; refine h1.mono ?_; rintro e W1 ⟨rfl, hB1⟩)
  go_ret2
  exact ⟨rfl, hB1⟩
theorem both_bad2 (p q : List G) (x y : Value) (W : World) (hx : GS W x p) (hy : GS W y q) (ha : goodB p = true) (hb : goodB q = false) :
    Calls Tryz.prog 21 #[x, y, .int .i64 0] W fun e W' => e = .returned (.tuple #[.slice none 0 0, .int .i64 1]) ∧ Below W.heap.size W W' := by
  have h1 := rgood_any p x W hx
  rw [ha] at h1
  have h2 := fun W1 (hB : Below W.heap.size W W1) => rgood_any q y W1 (hy.below hB)
  rw [hb] at h2
  clear hx hy
  go_enter Tryz.func21, Tryz.ntmps21
  go_wp2_with (first
    | (go_at_call 39; refine h1.mono ?_; rintro e W1 ⟨rfl, hB1⟩; clear h1)
    | (go_at_call 39; refine (h2 _ hB1).mono ?_; rintro e W2 ⟨rfl, hB2⟩))
  go_ret2
  exact ⟨rfl, hB1.trans (hB2.mono hB1.size)⟩
theorem BO.below {W W' : World} {B : Nat} {v : Value} {l : List Bool} (h : BO W B v l) (hb : Below W.heap.size W W') : BO W' B v l :=
  World.ownsRow.kept h (row := none) ⟨hb.os, hb.tape, hb.output, hb.size, fun k hk _ => hb.block k hk⟩ (by cases v.ownBlock <;> simp)
theorem BO.le {W : World} {B B' : Nat} {v : Value} {l : List Bool} (h : BO W B v l) (hb : B' ≤ B) : BO W B' v l := ⟨h.1, h.2.imp id fun ⟨g, cap, cur, a, b, c⟩ => ⟨g, cap, cur, a, Nat.le_trans hb b, c⟩⟩
theorem BO.cellK {W : World} {B g n cap k : Nat} {l : List Bool} (h : BO W B (.slice (some ⟨g, 0, none⟩) n cap) l) (hk : k < l.length) : ∃ y, W.cell? ⟨g, k, none⟩ = some (.bool y) ∧ W.frozen? ⟨g, k, none⟩ = false := by
  have hn : n = l.length := by
    rcases h.2 with ⟨e, hn⟩ | ⟨g', cap', cur, e, _⟩
    · cases e
    · cases e
      rfl
  subst hn
  refine ⟨l[k], ?_, World.ownsRow.frozenAt h k⟩
  rw [World.ownsRow.cellAt h k (by omega)]
  simp [List.getElem?_eq_getElem hk]
theorem BO.put {W : World} {B g n cap k : Nat} {l l' : List Bool} {y : Bool} (h : BO W B (.slice (some ⟨g, 0, none⟩) n cap) l) (hs : l.set k y = l') (hn : l.length = n) : BO (W.setCell ⟨g, k, none⟩ (.bool y)) B (.slice (some ⟨g, 0, none⟩) n cap) l' := by
  subst hn hs
  have h1 := (World.ownsRow.stored h k (.bool y)).1
  unfold BO
  rw [List.map_set, List.length_set]
  exact h1
theorem flK_lt (S : Int → Bool) {l : List Int} {k : Nat} (h : k < l.length) : k < (flK S l k).length := by
  rw [flK_len S l (Nat.le_of_lt h)]
  exact h
set_option maxHeartbeats 4000000 in
set_option maxRecDepth 100000 in
theorem both_ok (p q : List G) (x y : Value) (W : World) (hx : GS W x p) (hy : GS W y q) (ha : goodB p = true) (hb : goodB q = true) :
    Calls Tryz.prog 21 #[x, y, .int .i64 0] W fun e W' => ∃ r, SetP W.heap.size (fun n => inR p n ∨ inR q n) r e W' ∧ Below W.heap.size W W' := by
  have h1 := rgood_any p x W hx
  rw [ha] at h1
  have h2 := fun W1 (hB : Below W.heap.size W W1) => rgood_any q y W1 (hy.below hB)
  rw [hb] at h2
  have hp := (good_nm ha).2.1
  have hq := (good_nm hb).2.1
  have hbd : ∀ g ∈ p ++ q, Bd g := fun g hg => (List.mem_append.1 hg).elim (goodB_bd ha g) (goodB_bd hb g)
  have HX := Lib.hid hx
  have HY := Lib.hid hy
  obtain ⟨s0, k0, rfl, -, -⟩ := hx.form
  obtain ⟨s1, k1, rfl, -, -⟩ := hy.form
  have HBD := Lib.hid hbd
  clear hx hy hbd
  go_enter Tryz.func21, Tryz.ntmps21
  go_wp2_with (first
    | (go_at_call 39; refine h1.mono ?_; rintro e W1 ⟨rfl, hB1⟩; clear h1)
    | (go_at_call 39; refine (h2 _ hB1).mono ?_; rintro e W2 ⟨rfl, hB2⟩; have hB3 := hB1.trans (hB2.mono hB1.size); clear hB1 hB2 h2; have hA := hB3.alloc hB3.size (.cells #[] 42); have hE0 : GO (W2.alloc (.cells #[] 42)) W.heap.size (.slice (some ⟨W2.heap.size, 0, none⟩) 0 0) [] := World.ownsRow_lit W2 #[] 0 hB3.size (by decide) rfl)
    | (at_builtin; refine GO.cat (l := []) (r := p) (B := W.heap.size) ?hh (HX.out.below hA) ?hn hA.size ?hw _ _ rfl rfl rfl ?_; (case hh => exact hE0); (case hn => simp; omega); (case hw => simp [Region.wanted]); intro v5 w5 hO5 hb5; have hB5 := hb5 _ hA; clear hA hb5 hE0)
    | (at_builtin; refine GO.cat (l := p) (r := q) (B := W.heap.size) ?hh (HY.out.below hB5) ?hn hB5.size ?hw _ _ rfl rfl rfl ?_; (case hh => exact hO5); (case hn => omega); (case hw => simp [Region.wanted]); intro v6 w6 hO6 hb6; have hB6 := hb6 _ hB5; clear hB5 hb6; have hen := ends_any (p ++ q) v6 w6 (hO6.gs fun g hg => (HBD.out g hg).n64) (by rw [List.length_append]; omega))
    | (go_at_call 31; refine hen.mono ?_; rintro e W7 ⟨v7, rfl, hO7, hB7⟩; have hB8 := hB6.trans (hB7.mono hB6.size); obtain ⟨s7, k7, rfl⟩ := hO7.isl; have HO7 := Lib.hid (hO7.le hB6.size); clear hen hO7 hB7 hO6 hB6))
  obtain ⟨i0, hi0, hz⟩ := Option.map_eq_some_iff.1 info_bool
  obtain ⟨z1, z2⟩ := Prod.mk.inj hz
  obtain ⟨z2, z3⟩ := Prod.mk.inj z2
  have hll : (endsF (p ++ q)).length ≤ 100000 := by
    have := endK_len (p ++ q) (p ++ q).length
    rw [endK_all, List.length_append] at this
    omega
  obtain ⟨l, hl⟩ : ∃ l, l = endsF (p ++ q) := ⟨_, rfl⟩
  rw [← hl] at hll HO7 ⊢
  have HL := Lib.hid hl
  clear hl
  obtain ⟨w9, hrun, hM9, hg9⟩ := run_make_full (P := Tryz.prog) W7 W7.heap.size 58 4 i0 (.bool false) 1 Tryz.underlying58 hi0 z1 z2 .i64 .i64 l.length (by rw [z3]; omega) (by unfold maxLen; omega) (Nat.le_refl _)
  have hB9 : Below W7.heap.size W7 w9 := ⟨hg9.os, hg9.tape, hg9.output, hg9.size, fun k hk => hg9.block k hk (by simp)⟩
  have hF9 : BO w9 W7.heap.size (.slice (some ⟨W7.heap.size, 0, none⟩) l.length l.length) (flK (fun n => inB p n || inB q n) l 0) := by
    have e : flK (fun n => inB p n || inB q n) l 0 = List.replicate l.length false := by simp [flK]
    unfold BO
    rw [e, List.length_replicate, ← made_false]
    exact hM9
  clear hi0 hz z1 z2 z3 hM9 hg9
  rw [hrun]
  go_wp2_with fail
  clear hrun
  have HF9 := Lib.hid hF9
  clear hF9
  go_loopw [33] (fun i wr => ∃ k : Nat, k ≤ l.length ∧ i = .int .i64 (k : Int) ∧ BO wr W7.heap.size (.slice (some ⟨W7.heap.size, 0, none⟩) l.length l.length) (flK (fun n => inB p n || inB q n) l k) ∧ Below W7.heap.size W7 wr) (fun i _ => l.length - (intOf i).toNat)
  case atStart => exact ⟨0, Nat.zero_le _, rfl, HF9.out, hB9⟩
  case round =>
    obtain ⟨k, hk, rfl, hF, hbz⟩ := hrel
    by_cases hlt : k < l.length
    · obtain ⟨n, hn⟩ : ∃ n, l[k]? = some n := ⟨l[k], List.getElem?_eq_getElem hlt⟩
      obtain ⟨g, rfl, hg, hc⟩ := HO7.out.at hn
      have c0 := (hbz.cell (p := ⟨g, k, none⟩) hg).trans hc
      have HS := Lib.hid (flK_set (S := fun n => inB p n || inB q n) hn)
      have hBW := hB8.trans (hbz.mono hB8.size)
      have hi1 := rin_any p _ n wr (HX.out.below hBW)
      have hi2 := fun w' (hw : Below wr.heap.size wr w') => rin_any q _ n w' (HY.out.below (hBW.trans (hw.mono hBW.size)))
      have HF := Lib.hid hF
      clear hn hc hF
      generalize hP : inB p n = P at hi1
      generalize hQ : inB q n = Q at hi2
      have HPQ := Lib.hid (And.intro hP hQ)
      clear hP hQ
      cases P <;> cases Q
      all_goals
        go_wp2_with (first
          | (go_at_call 32; with_reducible refine hi1.mono ?_; rintro e w1 ⟨rfl, hb1⟩; have hb3 := hb1; clear hi1)
          | (go_at_call 32; with_reducible refine (hi2 _ hb3).mono ?_; rintro e w2 ⟨rfl, hb2⟩; have hb4 := hb3.trans (hb2.mono hb3.size); have hF2 := HF.out.below hb4; have hF2' := Lib.hid hF2; obtain ⟨y0, e1, e2⟩ := BO.cellK hF2 (flK_lt _ hlt); clear hF2))
      all_goals
        obtain ⟨e3, e4⟩ := HPQ.out
        have hS := HS.out
        simp only [e3, e4, Bool.or_true, Bool.or_false] at hS
        refine ⟨⟨k + 1, hlt, by push_cast; rfl, BO.put hF2'.out hS (flK_len _ _ hk), (hbz.trans (hb4.mono hbz.size)).setCell (p := ⟨W7.heap.size, k, none⟩) (Nat.le_refl _) _⟩, ?_⟩
        simp only [intOf]
        omega
    · have hkl : k = l.length := by omega
      subst hkl
      rw [flK_all] at hF
      have hr := rrange_two (fun n => inB p n || inB q n) l _ _ _ wr (HO7.out.below hbz) (hF.le hB8.size) hll
      have hBW := hB8.trans (hbz.mono hB8.size)
      clear hF
      go_wp2_with (go_at_call 33; refine hr.mono ?_; rintro e W8 ⟨vr, cr, rfl, hA, hB⟩; have HA := Lib.hid hA; clear hA hr)
      go_ret2
      obtain ⟨h3, r, h4, h5, h6, h7⟩ := both_r p q HBD.out
      have hll2 := HL.out
      subst hll2
      exact ⟨r, range_sp h3 h4 h5 h6 h7 (HA.out.imp id fun h => ⟨h.1, h.2.imp fun v h => ⟨h.1, h.2.le hBW.size⟩⟩), hBW.trans (hB.mono hBW.size)⟩
end Sg
end Go.Proofs.YtlmmhhkhoaoheaaGreatDoor
