/-
  What the row's list of variables gives the walks of layer 13, and a world for the witness.
-/
import Derived.Test.YtflhmoelenmomaaGreatDoorFin
import Derived.Test.YtflhmoelenmomaaGreatDoorMVersionA
import Derived.Test.YtflhmoelenmomaaGreatDoorShelfM
namespace Go.Proofs.YtflhmoelenmomaaGreatDoor
open Go.RowKit Go.WideShapes Go.ChangeShapes
namespace Vs

abbrev laidList : List (String × DataW Unit) := Rows.evalMeansRow.laid
theorem tPow : (Tryz.prog.globals[3]?).map (·.type) = some 198 := by kernel_rfl
theorem tSyn : (Tryz.prog.globals[0]?).map (·.type) = some 98 := by kernel_rfl
theorem tRng : (Tryz.prog.globals[1]?).map (·.type) = some 98 := by kernel_rfl
theorem cells_tab : Tryz.prog.cellsOf 198 = 20 := by kernel_rfl
theorem cells_u64 : Tryz.prog.cellsOf 169 = 1 := by kernel_rfl
theorem cells_str : Tryz.prog.cellsOf 9 = 1 := by kernel_rfl
theorem cells_es : Tryz.prog.cellsOf 196 = 1 := by kernel_rfl
theorem star : "*" ++ "errors.errorString" = "*errors.errorString" := by decide
theorem row_es (u : TypeId) (h : Tryz.prog.typeName? 3 u = some "*errors.errorString") : u = 194 :=
  typeName_ptr_named (nm := "errors.errorString") (by rw [star]; kernel_rfl) (by kernel_rfl) (by decide) u (by rw [star]; exact h)

theorem gLast : Tryz.prog.globalNamed "math/bits.deBruijn64tab" = some 7 := by kernel_rfl
theorem var_lt {P : Program} {W : World} {n : String} {g : Nat} {cs : Array Value} (hg : P.globalNamed n = some g) (h : W.var? P n = some cs) : g < W.heap.size := by
  simp only [World.var?, hg, Option.bind_some] at h
  rcases Nat.lt_or_ge g W.heap.size with h' | h'
  · exact h'
  · simp [Array.getElem?_eq_none h'] at h

theorem env_of {W : World} (hL : laidMetH Tryz.prog laidList W) (hsh : W.ShapedOpen Tryz.prog) : Env W := by
  rw [MakeChecks.laidMetH_plain _ _ _ (by kernel_rfl)] at hL
  have hb : 8 ≤ W.heap.size := by
    obtain ⟨ps, ⟨g', t', cs, fuel, p, q, hg', _, hvar, _⟩, _⟩ := hL.tail
    obtain rfl := Option.some.inj (gLast.symm.trans hg')
    exact var_lt gLast hvar
  have h2 := hL.tail.tail
  have h4 := h2.tail.tail
  have h5 := h4.tail
  obtain ⟨a1, s1, e1, -, -, -⟩ := laid_sentinel h4 gRng tRng Tryz.underlying98 row_es Tryz.underlying194 Tryz.underlying196 rfl rfl Tryz.underlying9 cells_es cells_str
  obtain ⟨a2, s2, e2, -, -, -⟩ := laid_sentinel h5 gSyn tSyn Tryz.underlying98 row_es Tryz.underlying194 Tryz.underlying196 rfl rfl Tryz.underlying9 cells_es cells_str
  exact ⟨Tryz.laysM146.s1_3 W hsh, Lib.tabIs_of_head gPow tPow Tryz.underlying198 Tryz.underlying169 cells_u64 cells_tab h2, ⟨_, _, e2⟩, ⟨_, _, e1⟩, hb⟩

/-- the numbers of a listed table as a variable holds them -/
def numsOf {H : Type} : DataW H → Array Value
  | .agg ds => (ds.map fun | .lit (.int k n) => Value.int k n | _ => Value.nilIface).toArray
  | _ => #[]
/-- A WORLD FOR THE WITNESS: what the door's run leaves, the pinned table laid besides. -/
noncomputable def laidWorld (os : Os) : World :=
  { World.doorLaid Tryz.prog 72 os with heap := (World.doorLaid Tryz.prog 72 os).heap.modify 4 fun
      | .cells _ t frozen => .cells (numsOf Go.Pinned.utf8First) t frozen
      | o => o }
theorem laid_met (os : Os) (args : Array Value) : laidMetH Tryz.prog laidList ((laidWorld os).forCall (fun _ _ => 0) ⟨#[], args, []⟩).memory :=
  laidMetH_of_parts3 (fuel := 8) (laidMet_of_run' 8 (by kernel_rfl) (by kernel_rfl)) (by kernel_rfl) (by kernel_rfl)

end Vs
end Go.Proofs.YtflhmoelenmomaaGreatDoor
