/-
  What the row's list of variables gives the walks of DrvReads, and a world for the witness.
-/
import Derived.Test.YtbhngjhfeejeiaaGreatDoorDvEnvA0
import Derived.Test.YtbhngjhfeejeiaaGreatDoorDvJ
namespace Go.Proofs.YtbhngjhfeejeiaaGreatDoor
open Go.RowKit Go.WideShapes Go.ChangeShapes
namespace DvC
open Dv
abbrev laidList : List (String × DataW Unit) := Rows.drvReadsRow.laid
theorem env_of {W : World} (hL : laidMetH Tryz.prog laidList W) (hsh : W.ShapedOpen Tryz.prog) : EnvD W := by
  rw [MakeChecks.laidMetH_plain _ _ _ (by kernel_rfl)] at hL
  have hb : 7 < W.heap.size := by
    obtain ⟨ps, ⟨g', t', cs, fuel, p, q, hg', _, hvar, _⟩, _⟩ := hL.tail
    obtain rfl := Option.some.inj (gLast.symm.trans hg')
    exact var_lt gLast hvar
  have h2 := hL.tail.tail
  have h4 := h2.tail.tail
  have h5 := h4.tail
  obtain ⟨a1, s1, e1, -, -, -⟩ := laid_sentinel h4 Vs.gRng tRng Tryz.underlying64 row_es Tryz.underlying130 Tryz.underlying132 rfl rfl Tryz.underlying9 cells_es cells_str
  obtain ⟨a2, s2, e2, -, -, -⟩ := laid_sentinel h5 Vs.gSyn tSyn Tryz.underlying64 row_es Tryz.underlying130 Tryz.underlying132 rfl rfl Tryz.underlying9 cells_es cells_str
  have hp : Lib.TabIs Tryz.prog W "internal/strconv.uint64pow10" .u64 Lib.pow10Tab := Lib.tabIs_of_head Sx.gPow tPow Tryz.underlying134 Tryz.underlying69 cells_u64 cells_tab h2
  exact ⟨⟨hp, by omega⟩, ⟨maxOf hsh, hp, ⟨_, _, e2⟩, ⟨_, _, e1⟩, by omega⟩⟩
noncomputable def laidWorld (os : Os) : World := Dv.laidWorldF os
theorem laid_met (os : Os) (args : Array Value) : laidMetH Tryz.prog laidList ((laidWorld os).forCall (fun _ _ => 0) ⟨#[], args, []⟩).memory :=
  laidMetH_of_parts3 (fuel := 8) (laidMet_of_run' 8 (by kernel_rfl) (by kernel_rfl)) (by kernel_rfl) (by kernel_rfl)
end DvC
end Go.Proofs.YtbhngjhfeejeiaaGreatDoor
