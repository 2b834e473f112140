/-
  Walks: the reference's Good, In and Same of ranges.
-/
import Derived.Test.YtlmmhhkhoaoheaaGreatDoorSgA
namespace Go.Proofs.YtlmmhhkhoaoheaaGreatDoor
open Go.RowKit
namespace Sg

theorem up_step {r : List G} {k : Nat} {g : G} (h : r[k]? = some g) : upB (lastOf r k) (r.drop k) = (decide (lastOf r k < g.1) && (decide (g.1 < g.2) && (decide (g.2 ≤ 1000000000) && upB (lastOf r (k + 1)) (r.drop (k + 1))))) := by
  rw [drop_g h, upB, last_g h]
set_option maxHeartbeats 4000000 in
set_option maxRecDepth 100000 in
theorem rgood_any (r : List G) (v : Value) (W : World) (hP : GS W v r) : Calls Tryz.prog 39 #[v] W fun e W' => e = .returned (.bool (goodB r)) ∧ Below W.heap.size W W' := by
  have hsm := hP.small
  have HNB := Lib.hid hP.nb
  obtain ⟨sl, cap, rfl, -, hf⟩ := hP.form
  have HF := Lib.hid hf
  clear hf hP
  by_cases h16 : 16 < r.length
  · have j1 : (16 : Int) < (r.length : Int) := by omega
    have HR := Lib.hid (show goodB r = false by unfold goodB; rw [decide_eq_false (by omega), Bool.false_and])
    clear h16
    go_enter Tryz.func39, Tryz.ntmps39
    go_wp2_with fail
    go_ret
    rw [HR.out]
    exact ⟨rfl, Below.refl _ _⟩
  have j1 : ¬ (16 : Int) < (r.length : Int) := by omega
  have HG := Lib.hid (show goodB r = upB (-1) r by unfold goodB; rw [decide_eq_true (by omega), Bool.true_and])
  go_enter Tryz.func39, Tryz.ntmps39
  go_wp2_with fail
  go_loopw [9] (fun i wr => ∃ k : Nat, k ≤ r.length ∧ i = .int .i64 (k : Int) ∧ upB (-1) r = upB (lastOf r k) (r.drop k) ∧ -1 ≤ lastOf r k ∧ Below W.heap.size W wr) (fun i _ => r.length - (intOf i).toNat)
  case atStart => exact ⟨0, Nat.zero_le _, rfl, rfl, Int.le_refl _, Below.refl _ _⟩
  case round =>
    obtain ⟨k, hk, rfl, hu, hlo, hb⟩ := hrel
    by_cases hlt : k < r.length
    · obtain ⟨g, hg⟩ : ∃ g, r[k]? = some g := ⟨r[k], List.getElem?_eq_getElem hlt⟩
      obtain ⟨b, o, rfl, ha, h3⟩ := HF.out k g hg
      obtain ⟨c0, c1⟩ := h3.below ha hb
      rw [up_step hg] at hu
      have HHG := Lib.hid hg
      obtain ⟨lo, hi⟩ := g
      have HU := Lib.hid (HG.out.trans hu)
      clear hg h3 hu
      obtain ⟨la, hla⟩ : ∃ la, la = lastOf r k := ⟨_, rfl⟩
      rw [← hla] at hlo HU
      have HLA := Lib.hid hla
      have HNX := Lib.hid (last_g HHG.out)
      clear hla
      by_cases g1 : lo < 0
      · have d1 : decide (lo < 0) = true := decide_eq_true g1
        have HR := Lib.hid (show goodB r = false by rw [HU.out, decide_eq_false (show ¬ la < lo by omega)]; rfl)
        go_wp2_with fail
        go_quiet (fail)
        go_wp2_with fail
        go_ret
        rw [HR.out]
        exact ⟨rfl, Sx.below_drewN hb _⟩
      have d1 : decide (lo < 0) = false := decide_eq_false g1
      by_cases g2 : hi ≤ lo
      · have d2 : decide (hi ≤ lo) = true := decide_eq_true g2
        have HR := Lib.hid (show goodB r = false by rw [HU.out, decide_eq_false (show ¬ lo < hi by omega), Bool.false_and]; rw [Bool.and_false])
        go_wp2_with fail
        go_quiet (fail)
        go_wp2_with fail
        go_ret
        rw [HR.out]
        exact ⟨rfl, Sx.below_drewN hb _⟩
      have d2 : decide (hi ≤ lo) = false := decide_eq_false g2
      by_cases g3 : 1000000000 < hi
      · have d3 : decide (1000000000 < hi) = true := decide_eq_true g3
        have HR := Lib.hid (show goodB r = false by rw [HU.out, decide_eq_false (show ¬ hi ≤ 1000000000 by omega), Bool.false_and, Bool.and_false, Bool.and_false])
        go_wp2_with fail
        go_quiet (fail)
        go_wp2_with fail
        go_ret
        rw [HR.out]
        exact ⟨rfl, Sx.below_drewN hb _⟩
      have d3 : decide (1000000000 < hi) = false := decide_eq_false g3
      by_cases g4 : k = 0
      · have d4 : decide (0 < k) = false := decide_eq_false (by omega)
        have hla1 : la = -1 := by rw [HLA.out, g4]; rfl
        clear g4
        have HV := Lib.hid (show goodB r = upB (lastOf r (k + 1)) (r.drop (k + 1)) by rw [HU.out, decide_eq_true (show la < lo by omega), decide_eq_true (show lo < hi by omega), decide_eq_true (show hi ≤ 1000000000 by omega)]; rfl)
        go_wp2_with fail
        go_quiet (fail)
        go_wp2_with fail
        go_roundw
        case rel => exact ⟨k + 1, by omega, by go_num, by rw [← HG.out]; exact HV.out, by rw [HNX.out]; show (-1 : Int) ≤ hi; omega, Sx.below_drewN hb _⟩
        case measure => simp [intOf]; omega
      have d4 : decide (0 < k) = true := decide_eq_true (by omega)
      obtain ⟨q, hq⟩ : ∃ q, r[k - 1]? = some q := ⟨_, List.getElem?_eq_getElem (by omega)⟩
      obtain ⟨b', o', e', ha', h3'⟩ := HF.out (k - 1) q hq
      cases e'
      obtain ⟨c0', c1'⟩ := h3'.below ha' hb
      have hql : q.2 = la := by rw [HLA.out, ← last_g hq]; congr 1; omega
      rw [hql] at c1'
      have w1 : IntKind.i64.wrap ((k : Int) - 1) = (k : Int) - 1 := IntWalk.i64_in _ (by omega)
      have n1 : (0 : Int) ≤ (k : Int) - 1 := by omega
      have t1 : ((k : Int) - 1).toNat = k - 1 := by omega
      have b1 : (k : Int) - 1 < r.length := by omega
      clear hq h3' hql c0'
      by_cases g5 : lo ≤ la
      · have d5 : decide (lo ≤ la) = true := decide_eq_true g5
        have HR := Lib.hid (show goodB r = false by rw [HU.out, decide_eq_false (show ¬ la < lo by omega)]; rfl)
        go_wp2_with fail
        go_quiet (fail)
        go_wp2_with fail
        go_ret
        rw [HR.out]
        exact ⟨rfl, Sx.below_drewN hb _⟩
      have d5 : decide (lo ≤ la) = false := decide_eq_false g5
      have HV := Lib.hid (show goodB r = upB (lastOf r (k + 1)) (r.drop (k + 1)) by rw [HU.out, decide_eq_true (show la < lo by omega), decide_eq_true (show lo < hi by omega), decide_eq_true (show hi ≤ 1000000000 by omega)]; rfl)
      go_wp2_with fail
      go_quiet (fail)
      go_wp2_with fail
      go_roundw
      case rel => exact ⟨k + 1, by omega, by go_num, by rw [← HG.out]; exact HV.out, by rw [HNX.out]; show (-1 : Int) ≤ hi; omega, Sx.below_drewN hb _⟩
      case measure => simp [intOf]; omega
    · obtain rfl : k = r.length := by omega
      have HR := Lib.hid (show goodB r = true by rw [HG.out, hu, List.drop_length]; rfl)
      clear hu
      go_wp2_with fail
      go_ret
      rw [HR.out]
      exact ⟨rfl, hb⟩
end Sg
end Go.Proofs.YtlmmhhkhoaoheaaGreatDoor
