/-
  Walk of the reference: the instruction that a line is.
-/
import Derived.Test.YtipcockcndnipaaDoorMAwE
import Derived.Test.YtipcockcndnipaaDoorMAwV
import Derived.Test.YtipcockcndnipaaDoorMAwC
import Derived.Test.YtipcockcndnipaaDoorMAwL
import Derived.Test.YtipcockcndnipaaDoorMNmA
namespace Go.Proofs.YtipcockcndnipaaDoor
open Go.RowKit
namespace Aw
open As

/-- what the reference's ins answers -/
def RIV (o : Option (Cd.I × List UInt8)) (e : Ending) : Prop := match o with
  | some (x, want) => e = .returned (.tuple #[Cd.IV x, .string ⟨want.toArray⟩, .bool true])
  | none => ∃ y t, e = .returned (.tuple #[Cd.IV y, .string t, .bool false])
def RIQ (W : World) (o : Option (Cd.I × List UInt8)) (e : Ending) (W' : World) : Prop := Below W.heap.size W W' ∧ RIV o e
/-- the result's block, the instruction's block -/
structure RB (W : World) (hx : Nat) (x : Cd.I) (w : World) : Prop where
  r : ∃ y, w.heap[W.heap.size]? = some (.cells (IC y) 23 (0, 0))
  x : w.heap[hx]? = some (.cells (IC x) 23 (0, 0))
  below : Below W.heap.size W w
  ne : W.heap.size < hx
theorem RB.low {W w w' : World} {hx : Nat} {x : Cd.I} (g : RB W hx x w) (hb : Below w.heap.size w w') : RB W hx x w' := by
  obtain ⟨y, hy⟩ := g.r
  exact ⟨⟨y, (hb.block _ (Array.getElem?_eq_some_iff.1 hy).1).trans hy⟩, (hb.block _ (Array.getElem?_eq_some_iff.1 g.x).1).trans g.x, g.below.trans (hb.mono g.below.size), g.ne⟩
theorem RB.init {W w0 w1 w2 : World} {x y : Cd.I} (hb0 : Below (W.alloc (.cells #[.int .i64 y.op, .int .i64 y.n, .string y.s] 23)).heap.size (W.alloc (.cells #[.int .i64 y.op, .int .i64 y.n, .string y.s] 23)) w0) (hb1 : Below w0.heap.size w0 w1)
    (hb2 : Below (w1.alloc (.cells #[.int .i64 x.op, .int .i64 x.n, .string x.s] 23)).heap.size (w1.alloc (.cells #[.int .i64 x.op, .int .i64 x.n, .string x.s] 23)) w2) : RB W w1.heap.size x w2 := by
  have ha : Below W.heap.size W (W.alloc (.cells #[.int .i64 y.op, .int .i64 y.n, .string y.s] 23)) := (Below.refl _ _).alloc (Nat.le_refl _) _
  have s0 := hb0.size
  have s1 := hb1.size
  have s2 := ha.size
  have s3 : W.heap.size < w0.heap.size := by simp at s0; omega
  have h1 : Below w1.heap.size w1 (w1.alloc (.cells #[.int .i64 x.op, .int .i64 x.n, .string x.s] 23)) := (Below.refl _ _).alloc (Nat.le_refl _) _
  have hW2 : Below w1.heap.size w1 w2 := h1.trans (hb2.mono h1.size)
  refine ⟨⟨y, ?_⟩, (hb2.block _ (by simp)).trans (heap_alloc_new _ _), (ha.trans (hb0.mono s2)).trans ((hb1.mono (by omega)).trans (hW2.mono (by omega))), by omega⟩
  exact (hW2.block _ (by omega)).trans ((hb1.block _ s3).trans ((hb0.block _ (by simp)).trans (heap_alloc_new _ _)))
theorem RB.setN {W w : World} {hx : Nat} {x : Cd.I} (g : RB W hx x w) (v : Int) : RB W hx ⟨x.op, v, x.s⟩ (w.setCell ⟨hx, 1, none⟩ (.int .i64 v)) := by
  obtain ⟨y, hy⟩ := g.r
  have hn := g.ne
  exact ⟨⟨y, (Below.heap_setCell _ _ _ _ (by show W.heap.size ≠ hx; omega)).trans hy⟩, heap_setCell_same w hx 1 _ _ _ g.x, g.below.setCell (by show W.heap.size ≤ hx; omega) _, hn⟩
theorem RB.setS {W w : World} {hx : Nat} {x : Cd.I} (g : RB W hx x w) (s : ByteArray) : RB W hx ⟨x.op, x.n, s⟩ (w.setCell ⟨hx, 2, none⟩ (.string s)) := by
  obtain ⟨y, hy⟩ := g.r
  have hn := g.ne
  exact ⟨⟨y, (Below.heap_setCell _ _ _ _ (by show W.heap.size ≠ hx; omega)).trans hy⟩, heap_setCell_same w hx 2 _ _ _ g.x, g.below.setCell (by show W.heap.size ≤ hx; omega) _, hn⟩
/-- the instruction in the result's block -/
abbrev res3 (w : World) (h : Nat) (x : Cd.I) : World := ((w.setCell ⟨h, 0, none⟩ (.int .i64 x.op)).setCell ⟨h, 1, none⟩ (.int .i64 x.n)).setCell ⟨h, 2, none⟩ (.string x.s)
theorem res3_blk {w : World} {h : Nat} {x y : Cd.I} (hy : w.heap[h]? = some (.cells (IC y) 23 (0, 0))) : (res3 w h x).heap[h]? = some (.cells (IC x) 23 (0, 0)) :=
  heap_setCell_same _ h 2 _ _ _ (heap_setCell_same _ h 1 _ _ _ (heap_setCell_same w h 0 _ _ _ hy))
end Aw
end Go.Proofs.YtipcockcndnipaaDoor
