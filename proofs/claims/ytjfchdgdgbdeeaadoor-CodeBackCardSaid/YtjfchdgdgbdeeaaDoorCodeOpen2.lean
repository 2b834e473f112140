/-
  The arguments of CodeAlone.
-/
import Derived.Test.YtjfchdgdgbdeeaaDoorCodeOpen
import Derived.Lib.SmallJoins
namespace Go.Proofs.YtjfchdgdgbdeeaaDoor
open Go.RowKit Go.WideShapes Go.ChangeShapes Go.Deep
namespace Cd
set_option maxRecDepth 100000 in
/-- a list of instructions that came in, its room besides -/
theorem open_ins2 {H : Type} {enc : TypeId × Value → H} {W : World} {r : Reach} {b0 base : Nat} {sp : Nat → Bool} {held : Bool} {v : Value} {d : DataW H} {q : List MemPlace} (hv : Value.okWide Tryd.prog W r b0 22 v)
    (h : DataW.Trod enc Tryd.prog W base sp held 22 v d q) : ∃ p, PS W v p ∧ ∀ sl cap, v = .slice sl p.length cap → p.length ≤ cap ∧ (sl = none → cap = 0) := by
  obtain ⟨p, hP⟩ := open_ins hv h
  refine ⟨p, hP, ?_⟩
  rintro sl cap rfl
  obtain ⟨fuel, hf⟩ := h
  rcases open_slice_fields Tryd.underlying22 Tryd.underlying31 (by kernel_rfl) (by kernel_rfl) hf with h0 | ⟨a, len, c, hcs, hl, _, _⟩
  · simp [Value.cells] at h0
    obtain ⟨rfl, h1, h2⟩ := h0
    exact ⟨by rw [h1]; exact Nat.zero_le _, fun _ => h2⟩
  · simp [Value.cells] at hcs
    obtain ⟨rfl, h1, h2⟩ := hcs
    exact ⟨by omega, fun e => by cases e⟩
set_option maxRecDepth 100000 in
/-- an instruction that came in -/
theorem open_one {H : Type} {enc : TypeId × Value → H} {W : World} {r : Reach} {b0 base : Nat} {sp : Nat → Bool} {held : Bool} {v : Value} {d : DataW H} {q : List MemPlace} (hv : Value.okWide Tryd.prog W r b0 31 v)
    (h : DataW.Trod enc Tryd.prog W base sp held 31 v d q) : ∃ x : I, v = IV x ∧ -9223372036854775808 ≤ x.n ∧ x.n ≤ 9223372036854775807 := by
  obtain ⟨v0, v1, v2, y0, y1, y2, n, rfl, _, _, t0, t1, t2⟩ := Go.Joins.open_agg3 Tryd.underlying31 (by kernel_rfl) (by kernel_rfl) hv h
  obtain ⟨x0, e0, _, _⟩ := DataW.trod_int Tryd.underlying3 t0
  obtain ⟨x1, e1, _, w1⟩ := DataW.trod_int Tryd.underlying3 t1
  obtain ⟨x2, e2, _, _⟩ := DataW.trod_string Tryd.underlying9 t2
  simp at e0 e1 e2
  subst e0 e1 e2
  have e1 : IntKind.i64.min = -9223372036854775808 := by decide
  have e2 : IntKind.i64.max = 9223372036854775807 := by decide
  simp only [Lit.wf, Bool.and_eq_true, decide_eq_true_eq] at w1
  exact ⟨⟨x0, x1, x2⟩, rfl, by show _ ≤ x1; omega, by show x1 ≤ _; omega⟩
end Cd
end Go.Proofs.YtjfchdgdgbdeeaaDoor
