/-
  Small lemmas; what the texts of versions want of the world.
-/
import Derived.Test.YtbhngjhfeejeiaaDoorVsA
import Derived.Test.YtbhngjhfeejeiaaDoorShelf
import Derived.WalkSmall
import Derived.Lib.ItoaLen
namespace Go.Proofs.YtbhngjhfeejeiaaDoor
open Go.RowKit
namespace Vs

theorem keep_cell {W W' : World} {p : Addr} {v : Value} (hb : Below W.heap.size W W') (h : W.cell? p = some v) : W'.cell? p = some v :=
  (hb.cell (World.block_lt_of_cell? W p h)).trans h
theorem keep_below {W0 W W' : World} (h : Below W0.heap.size W0 W) (hb : Below W.heap.size W W') : Below W0.heap.size W0 W' := h.trans (hb.mono h.size)

theorem below_grow0 (w : World) (k : Nat) (os : Array Obj) : Below w.heap.size w (Sort.grow (w.drewN k) os) :=
  ⟨rfl, rfl, rfl, by show w.heap.size ≤ (w.heap ++ os).size; simp, fun i hi => by show (w.heap ++ os)[i]? = w.heap[i]?; rw [Array.getElem?_append_left hi]⟩
/-- the powers of ten lie -/
structure Env0 (W : World) : Prop where
  pow : Lib.TabIs Tryd.prog W "internal/strconv.uint64pow10" .u64 Lib.pow10Tab
  big : 3 < W.heap.size
theorem gPow0 : Tryd.prog.globalNamed "internal/strconv.uint64pow10" = some 3 := by kernel_rfl
theorem Env0.below {B : Nat} {W W' : World} (h : Env0 W) (hB : W.heap.size ≤ B) (hb : Below B W W') : Env0 W' :=
  ⟨var?_below hb gPow0 (by have := h.big; omega) h.pow, Nat.lt_of_lt_of_le h.big hb.size⟩
theorem Env0.alloc {W : World} (h : Env0 W) (o : Obj) : Env0 (W.alloc o) := h.below (Nat.le_refl _) ((Below.refl _ _).alloc (Nat.le_refl _) o)
theorem itoa_any0 (n : Int) (h0 : -9223372036854775808 ≤ n) (h1 : n ≤ 9223372036854775807) (w : World) (hE : Env0 w) :
    Calls Tryd.prog 37 #[.int .i64 n] w fun e w' => e = .returned (.string ⟨(Lib.itoa n).toArray⟩) ∧ Below w.heap.size w w' :=
  (Tryd.strconv_Itoa n h0 h1 w hE.pow).mono fun e w' ⟨he, k, os, hw⟩ => ⟨he, by subst hw; exact below_grow0 w k os⟩
theorem size_alloc (w : World) (o : Obj) : (w.alloc o).heap.size = w.heap.size + 1 := by simp

end Vs
end Go.Proofs.YtbhngjhfeejeiaaDoor
