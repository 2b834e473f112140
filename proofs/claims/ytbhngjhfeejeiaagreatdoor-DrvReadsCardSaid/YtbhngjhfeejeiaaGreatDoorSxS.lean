/-
  What the reference's Node holds on to from round to round.
-/
import Derived.Test.YtbhngjhfeejeiaaGreatDoorSxR
namespace Go.Proofs.YtbhngjhfeejeiaaGreatDoor
open Go.RowKit
namespace Sx

/-- block o holds a list's node, v its kids -/
structure NB (W : World) (o : Nat) (v : Value) : Prop where
  lt : o < W.heap.size
  c0 : W.cell? ⟨o, 0, none⟩ = some (.bool false)
  c1 : W.cell? ⟨o, 1, none⟩ = some (.string ⟨#[]⟩)
  c2 : W.cell? ⟨o, 2, none⟩ = some v
  fz : ∀ j, W.frozen? ⟨o, j, none⟩ = false
theorem NB.new (W : World) (v : Value) : NB (W.alloc (.cells #[.bool false, .string ⟨#[]⟩, v] 39)) W.heap.size v := by
  refine ⟨by simp, ?_, ?_, ?_, ?_⟩
  all_goals first | go_simp | (intro j; go_simp)
theorem NB.below {W W' : World} {o : Nat} {v : Value} (h : NB W o v) (hb : Below W.heap.size W W') : NB W' o v := by
  obtain ⟨hc, hf⟩ := bcell hb
  exact ⟨Nat.lt_of_lt_of_le h.lt hb.size, (hc _ _ h.lt).trans h.c0, (hc _ _ h.lt).trans h.c1, (hc _ _ h.lt).trans h.c2, fun j => (hf _ _ h.lt).trans (h.fz j)⟩
theorem NB.grown {W W' : World} {o : Nat} {v : Value} {row : Option Nat} (h : NB W o v) (hg : W.grownBy W' row) (hne : some o ≠ row) : NB W' o v := by
  have hb := hg.block o h.lt hne
  exact ⟨Nat.lt_of_lt_of_le h.lt hg.size, (World.cell?_of_block hb).trans h.c0, (World.cell?_of_block hb).trans h.c1, (World.cell?_of_block hb).trans h.c2, fun j => (World.frozen?_of_block hb).trans (h.fz j)⟩
theorem NB.set {W : World} {o : Nat} {v : Value} (h : NB W o v) (u : Value) : NB (W.setCell ⟨o, 2, none⟩ u) o u := by
  refine ⟨by simpa [World.setCell] using h.lt, ?_, ?_, World.cell?_setCell_same _ _ _ h.c2, fun j => ?_⟩
  · rw [World.cell?_setCell_other _ _ _ _ (by simp)]; exact h.c0
  · rw [World.cell?_setCell_other _ _ _ _ (by simp)]; exact h.c1
  · rw [World.frozen?_setCell]; exact h.fz j
theorem NB.far {W : World} {o q : Nat} {v : Value} (h : NB W o v) (hne : o ≠ q) (u : Value) : NB (W.setCell ⟨q, 2, none⟩ u) o v := by
  have hb : (W.setCell ⟨q, 2, none⟩ u).heap[o]? = W.heap[o]? := Below.heap_setCell _ _ _ _ hne
  exact ⟨by simpa [World.setCell] using h.lt, (World.cell?_of_block hb).trans h.c0, (World.cell?_of_block hb).trans h.c1, (World.cell?_of_block hb).trans h.c2, fun j => (World.frozen?_of_block hb).trans (h.fz j)⟩
end Sx
end Go.Proofs.YtbhngjhfeejeiaaGreatDoor
