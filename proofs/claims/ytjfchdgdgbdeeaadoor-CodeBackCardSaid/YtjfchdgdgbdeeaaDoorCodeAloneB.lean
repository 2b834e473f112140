/-
  Cuts of a slice of instructions.
-/
import Derived.Test.YtjfchdgdgbdeeaaDoorCodeAloneA
namespace Go.Proofs.YtjfchdgdgbdeeaaDoor
open Go.RowKit
namespace Cd

theorem PS.cells {W : World} {sl : Option Addr} {n cap : Nat} {p : List I} (h : PS W (.slice sl n cap) p) (hp : p ≠ []) : ∃ b o, sl = some ⟨b, o, none⟩ ∧ b < W.heap.size ∧ ∀ j u, (rowI p)[j]? = some u → W.cell? ⟨b, o + j, none⟩ = some u := by
  obtain ⟨sl', cap', e, hf⟩ := h.form
  cases e
  have h0 : 0 < p.length := List.length_pos_iff.2 hp
  obtain ⟨b, o, rfl, hb, _⟩ := hf 0 p[0] (List.getElem?_eq_getElem h0)
  refine ⟨b, o, rfl, hb, fun j u hj => ?_⟩
  have hjl : j < p.length * 3 := by rw [← rowI_len]; exact (List.getElem?_eq_some_iff.1 hj).1
  have hi : j / 3 < p.length := by omega
  obtain ⟨b', o', e', _, h3⟩ := hf (j / 3) p[j / 3] (List.getElem?_eq_getElem hi)
  cases e'
  obtain ⟨g1, g2, g3⟩ := row3_get (p.map insQ) (j / 3) (insQ p[j / 3]) (by rw [List.getElem?_map, List.getElem?_eq_getElem hi]; rfl)
  have hr : j = j / 3 * 3 ∨ j = j / 3 * 3 + 1 ∨ j = j / 3 * 3 + 2 := by omega
  have hu : (row3 (p.map insQ))[j]? = some u := hj
  rcases hr with e | e | e
  · rw [e] at hu ⊢
    rw [g1] at hu
    cases hu
    exact h3.c0
  · rw [e] at hu ⊢
    rw [g2] at hu
    cases hu
    rw [← Nat.add_assoc]
    exact h3.c1
  · rw [e] at hu ⊢
    rw [g3] at hu
    cases hu
    rw [← Nat.add_assoc]
    exact h3.c2

theorem size_ins (W : World) : (sizeOf (Tryd.prog.elem 22)).run Tryd.prog W = .ok 3 W := by kernel_rfl
theorem cut_lo {W : World} {sl : Option Addr} {cap k : Nat} {p : List I} (h : PS W (.slice sl p.length cap) p) (hk : k ≤ p.length) (hc : p.length ≤ cap) (hn : sl = none → cap = 0) :
    ∃ V, (∀ X : World, (Instr.slice 22 (.slice sl p.length cap) none (some (.int .i64 (k : Int))) none).run Tryd.prog X = .ok V X) ∧ SR W V (p.take k) := by
  refine ⟨sliced sl 0 k cap 3, fun X => ?_, ?_⟩
  · rw [run_slice_h X 22 sl p.length cap (by kernel_rfl) .i64 (k : Int) (by omega) (by omega), size_ins]
    simp [Result.andThen]
  · have htl : (p.take k).length = k := by simp; omega
    cases sl with
    | none =>
      have h0 := hn rfl
      have hp : p = [] := List.eq_nil_of_length_eq_zero (by omega)
      subst hp
      refine .inl ⟨?_, by simp⟩
      simp at hk
      simp [sliced, hk, h0]
    | some a =>
      refine .inr ⟨a, cap, ?_, fun j u hj => ?_⟩
      · rw [htl]
        simp [sliced, Addr.add]
      · have hp : p ≠ [] := by
          rintro rfl
          simp [rowI, row3] at hj
        obtain ⟨b, o, e, hb, hcell⟩ := h.cells hp
        cases e
        have hadd : (⟨b, o, none⟩ : Addr).add j = ⟨b, o + j, none⟩ := by unfold Addr.add; split <;> simp_all
        rw [hadd]
        refine hcell j u ?_
        have hjl := (List.getElem?_eq_some_iff.1 hj).1
        rw [← List.take_append_drop k p, rowI_app, List.getElem?_append_left hjl]
        exact hj
theorem cut_hi {W : World} {sl : Option Addr} {cap k : Nat} {p : List I} (h : PS W (.slice sl p.length cap) p) (hk : k ≤ p.length) (hc : p.length ≤ cap) (hn : sl = none → cap = 0) :
    ∃ V, (∀ X : World, (Instr.slice 22 (.slice sl p.length cap) (some (.int .i64 (k : Int))) none none).run Tryd.prog X = .ok V X) ∧ SR W V (p.drop k) := by
  refine ⟨sliced sl k p.length cap 3, fun X => ?_, ?_⟩
  · rw [run_slice_l X 22 sl p.length cap (by kernel_rfl) .i64 (k : Int) (by omega) (by omega), size_ins]
    simp [Result.andThen]
  · cases sl with
    | none =>
      have h0 := hn rfl
      have hp : p = [] := List.eq_nil_of_length_eq_zero (by omega)
      subst hp
      refine .inl ⟨?_, by simp⟩
      simp at hk
      simp [sliced, hk, h0]
    | some a =>
      refine .inr ⟨if cap = k then a else a.add (k * 3), cap - k, ?_, fun j u hj => ?_⟩
      · rw [List.length_drop]
        unfold sliced
        split <;> simp
      · have hd : p.drop k ≠ [] := by
          intro e
          rw [e] at hj
          simp [rowI, row3] at hj
        have hkl : k < p.length := by
          rcases Nat.lt_or_ge k p.length with h' | h'
          · exact h'
          · exact absurd (List.drop_eq_nil_of_le h') hd
        have hp : p ≠ [] := by
          rintro rfl
          simp at hkl
        obtain ⟨b, o, e, hb, hcell⟩ := h.cells hp
        cases e
        have hadd : ∀ o j, (⟨b, o, none⟩ : Addr).add j = ⟨b, o + j, none⟩ := fun o j => by unfold Addr.add; split <;> simp_all
        rw [if_neg (by omega), hadd, hadd, Nat.add_assoc]
        refine hcell (k * 3 + j) u ?_
        have htl : (rowI (p.take k)).length = k * 3 := by rw [rowI_len, List.length_take]; omega
        rw [← List.take_append_drop k p, rowI_app, List.getElem?_append_right (by omega), htl]
        simpa using hj
end Cd
end Go.Proofs.YtjfchdgdgbdeeaaDoor
