/-
  A recipe that came in: where its fields are nil, there is no room.
-/
import Derived.Test.YtcigggffaofkhaaMRpA
namespace Go.Proofs.Ytcigggffaofkhaa
open Go.RowKit Go.WideShapes Go.ChangeShapes Go.Deep
namespace Rc

set_option maxRecDepth 100000 in
theorem source_nil {H : Type} {enc : TypeId × Value → H} {W : World} {base : Nat} {sp : Nat → Bool} {held : Bool} {v : Value} {d : DataW H} {q : List MemPlace}
    (h : DataW.Trod enc Try.prog W base sp held 29 v d q) : ∀ a b c' d e f n c, v = .agg #[a, b, c', d, e, f, .slice none n c] → c = 0 := by
  have hs := Try.underlying29
  intro v0 v1 v2 v3 v4 v5 n c hv
  subst hv
  obtain ⟨fuel, hf⟩ := h
  obtain ⟨y0, y1, y2, m, e, _, h0, h1, h2⟩ := trod_struct3 hs hf
  simp only [Value.cells, cells_fieldS, List.drop_zero, List.drop_succ_cons, List.take_succ_cons, List.take_zero] at h2
  rcases DataW.trod_slice Try.underlying27 h2 with ⟨e2, -⟩ | ⟨a, len, cap, elems, rest, m, hm, e2, -⟩
  · simp only [List.cons.injEq, Value.slice.injEq, and_true, true_and] at e2
    exact e2.2
  · simp at e2
end Rc
end Go.Proofs.Ytcigggffaofkhaa
