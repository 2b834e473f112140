/-
  What the row's list of variables gives the walks of DrvWrites, and a world for the witness.
-/
import Derived.Test.YtbhngjhfeejeiaaDoorCodeFin
import Derived.Test.YtbhngjhfeejeiaaDoorDvI
namespace Go.Proofs.YtbhngjhfeejeiaaDoor
open Go.RowKit Go.WideShapes Go.ChangeShapes
namespace Dv

theorem tPow : (Tryd.prog.globals[3]?).map (·.type) = some 136 := by kernel_rfl
theorem cells_tab : Tryd.prog.cellsOf 136 = 20 := by kernel_rfl
theorem cells_u64 : Tryd.prog.cellsOf 50 = 1 := by kernel_rfl
theorem cells_str : Tryd.prog.cellsOf 9 = 1 := by kernel_rfl
theorem gLast : Tryd.prog.globalNamed "math/bits.deBruijn64tab" = some 7 := by kernel_rfl
theorem var_lt {P : Program} {W : World} {n : String} {g : Nat} {cs : Array Value} (hg : P.globalNamed n = some g) (h : W.var? P n = some cs) : g < W.heap.size := by
  simp only [World.var?, hg, Option.bind_some] at h
  rcases Nat.lt_or_ge g W.heap.size with h' | h'
  · exact h'
  · simp [Array.getElem?_eq_none h'] at h
noncomputable def laidWorld (os : Os) : World := World.doorLaid Tryd.prog 72 os
end Dv
namespace DvA
open Dv
abbrev laidList : List (String × DataW Unit) := Rows.drvWritesRow.laid
theorem env_of {W : World} (hL : laidMetH Tryd.prog laidList W) : Sx.Env W ∧ Vs.Env0 W := by
  rw [MakeChecks.laidMetH_plain _ _ _ (by kernel_rfl)] at hL
  have hb : 7 < W.heap.size := by
    obtain ⟨ps, ⟨g', t', cs, fuel, p, q, hg', _, hvar, _⟩, _⟩ := hL.tail
    obtain rfl := Option.some.inj (gLast.symm.trans hg')
    exact var_lt gLast hvar
  have h2 := hL.tail.tail
  have hp : Lib.TabIs Tryd.prog W "internal/strconv.uint64pow10" .u64 Lib.pow10Tab := Lib.tabIs_of_head Sx.gPow tPow Tryd.underlying136 Tryd.underlying50 cells_u64 cells_tab h2
  exact ⟨⟨hp, by omega⟩, ⟨hp, by omega⟩⟩
noncomputable def laidWorld (os : Os) : World := Dv.laidWorld os
theorem laid_met (os : Os) (args : Array Value) : laidMetH Tryd.prog laidList ((laidWorld os).forCall (fun _ _ => 0) ⟨#[], args, []⟩).memory := by
  exact laidMetH_of_parts3 (fuel := 8) (laidMet_of_run' 8 (by kernel_rfl) (by kernel_rfl)) (by kernel_rfl) (by kernel_rfl)
end DvA
end Go.Proofs.YtbhngjhfeejeiaaDoor
