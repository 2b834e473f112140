/-
  Files in a block of cells; what leaves all blocks but one as they are.
-/
import Derived.Test.YtbefgplaaghlbaaGreatDoorTrP
import Derived.Test.YtbefgplaaghlbaaGreatDoorSxA
namespace Go.Proofs.YtbefgplaaghlbaaGreatDoor
open Go.RowKit Go.Lib
namespace Tr

/-- the block g holds the files l, from its first cell on -/
def FR (w : World) (g : Nat) (l : List F) : Prop := ∃ cs : Array Value, w.heap[g]? = some (.cells cs 34 (0, 0)) ∧ l.length * 2 ≤ cs.size ∧ ∀ i f, l[i]? = some f → cs[i * 2]? = some (.string f.1) ∧ cs[i * 2 + 1]? = some (.string f.2)
theorem FR.lt {w : World} {g : Nat} {l : List F} (h : FR w g l) : g < w.heap.size := by
  obtain ⟨cs, h1, -⟩ := h
  exact (Array.getElem?_eq_some_iff.1 h1).1
theorem FR.cells {w : World} {g : Nat} {l : List F} (h : FR w g l) {i : Nat} {f : F} (hf : l[i]? = some f) : w.cell? ⟨g, i * 2, none⟩ = some (.string f.1) ∧ w.cell? ⟨g, i * 2 + 1, none⟩ = some (.string f.2) := by
  obtain ⟨cs, h1, -, h3⟩ := h
  obtain ⟨h4, h5⟩ := h3 i f hf
  constructor
  · simp [World.cell?, h1, h4]
  · simp [World.cell?, h1, h5]
theorem FR.frz {w : World} {g : Nat} {l : List F} (h : FR w g l) (j : Nat) : w.frozen? ⟨g, j, none⟩ = false := by
  obtain ⟨cs, h1, -⟩ := h
  simp [World.frozen?, h1]
theorem FR.same {w w' : World} {g : Nat} {l : List F} (h : FR w g l) (hw : w'.heap[g]? = w.heap[g]?) : FR w' g l := by
  obtain ⟨cs, h1, h2⟩ := h
  exact ⟨cs, hw.trans h1, h2⟩
theorem FR.keep {w w' : World} {g : Nat} {l : List F} (h : FR w g l) (hb : Below w.heap.size w w') : FR w' g l := h.same (hb.block g h.lt)
/-- a file's two cells written anew -/
def setF (w : World) (g i : Nat) (f : F) : World := (w.setCell ⟨g, i * 2, none⟩ (.string f.1)).setCell ⟨g, i * 2 + 1, none⟩ (.string f.2)
theorem FR.set {w : World} {g : Nat} {l : List F} (h : FR w g l) {i : Nat} (hi : i < l.length) (f : F) : FR (setF w g i f) g (l.set i f) := by
  obtain ⟨cs, h1, h2, h3⟩ := h
  have a1 := heap_setCell_same w g (i * 2) cs _ (.string f.1) h1
  have a2 := heap_setCell_same _ g (i * 2 + 1) _ _ (.string f.2) a1
  refine ⟨_, a2, by simpa using h2, fun j x hx => ?_⟩
  by_cases hj : j = i
  · subst hj
    have hx' : x = f := by
      rw [List.getElem?_set_self hi] at hx
      exact (Option.some.inj hx).symm
    subst hx'
    constructor
    · rw [Array.getElem?_setIfInBounds_ne (by omega), Array.getElem?_setIfInBounds_self_of_lt (by omega)]
    · rw [Array.getElem?_setIfInBounds_self_of_lt (by simp; omega)]
  · rw [List.getElem?_set_ne (by omega)] at hx
    obtain ⟨b1, b2⟩ := h3 j x hx
    constructor
    · rw [Array.getElem?_setIfInBounds_ne (by omega), Array.getElem?_setIfInBounds_ne (by omega)]
      exact b1
    · rw [Array.getElem?_setIfInBounds_ne (by omega), Array.getElem?_setIfInBounds_ne (by omega)]
      exact b2
/-- all blocks but g are as they were -/
abbrev But (g : Nat) (w w' : World) : Prop := w.grownBy w' (some g)
theorem But.refl (g : Nat) (w : World) : But g w w := ⟨rfl, rfl, rfl, Nat.le_refl _, fun _ _ _ => rfl⟩
theorem But.of {g : Nat} {w w' : World} (h : Below w.heap.size w w') : But g w w' := ⟨h.os, h.tape, h.output, h.size, fun k hk _ => h.block k hk⟩
theorem But.trans {g : Nat} {w1 w2 w3 : World} (h : But g w1 w2) (h' : But g w2 w3) : But g w1 w3 :=
  ⟨h'.os.trans h.os, h'.tape.trans h.tape, h'.output.trans h.output, Nat.le_trans h.size h'.size, fun k hk hn => (h'.block k (Nat.lt_of_lt_of_le hk h.size) hn).trans (h.block k hk hn)⟩
theorem But.set {g : Nat} {w w' : World} (h : But g w w') (i : Nat) (f : F) : But g w (setF w' g i f) :=
  ⟨h.os, h.tape, h.output, by
    show _ ≤ (setF w' g i f).heap.size
    unfold setF
    simp
    exact h.size, fun k hk hn => by
    have hne : k ≠ g := fun e => hn (by rw [e])
    exact (Below.heap_setCell _ _ _ _ hne).trans ((Below.heap_setCell _ _ _ _ hne).trans (h.block k hk hn))⟩
theorem But.below {g B : Nat} {W w w' : World} (hb : Below B W w) (hB : B ≤ w.heap.size) (hg : B ≤ g) (h : But g w w') : Below B W w' := hb.grown h hB (fun k e => by cases e; exact hg)
end Tr
end Go.Proofs.YtbefgplaaghlbaaGreatDoor
