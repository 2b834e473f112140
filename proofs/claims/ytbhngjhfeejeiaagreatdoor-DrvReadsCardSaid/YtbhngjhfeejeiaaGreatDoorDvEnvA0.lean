/-
  The variables' small facts, and a world for the witness.
-/
import Derived.Test.YtbhngjhfeejeiaaGreatDoorCodeFin
import Derived.Test.YtbhngjhfeejeiaaGreatDoorVs
import Derived.Test.YtbhngjhfeejeiaaGreatDoorSxG
namespace Go.Proofs.YtbhngjhfeejeiaaGreatDoor
open Go.RowKit Go.WideShapes Go.ChangeShapes
namespace Dv

theorem tPow : (Tryz.prog.globals[3]?).map (·.type) = some 134 := by kernel_rfl
theorem tSyn : (Tryz.prog.globals[0]?).map (·.type) = some 64 := by kernel_rfl
theorem tRng : (Tryz.prog.globals[1]?).map (·.type) = some 64 := by kernel_rfl
theorem cells_tab : Tryz.prog.cellsOf 134 = 20 := by kernel_rfl
theorem cells_u64 : Tryz.prog.cellsOf 69 = 1 := by kernel_rfl
theorem cells_str : Tryz.prog.cellsOf 9 = 1 := by kernel_rfl
theorem cells_es : Tryz.prog.cellsOf 132 = 1 := by kernel_rfl
theorem star : "*" ++ "errors.errorString" = "*errors.errorString" := by decide
theorem row_es (u : TypeId) (h : Tryz.prog.typeName? 3 u = some "*errors.errorString") : u = 130 :=
  typeName_ptr_named (nm := "errors.errorString") (by rw [star]; kernel_rfl) (by kernel_rfl) (by decide) u (by rw [star]; exact h)
theorem gLast : Tryz.prog.globalNamed "math/bits.deBruijn64tab" = some 7 := by kernel_rfl
theorem var_lt {P : Program} {W : World} {n : String} {g : Nat} {cs : Array Value} (hg : P.globalNamed n = some g) (h : W.var? P n = some cs) : g < W.heap.size := by
  simp only [World.var?, hg, Option.bind_some] at h
  rcases Nat.lt_or_ge g W.heap.size with h' | h'
  · exact h'
  · simp [Array.getElem?_eq_none h'] at h
theorem maxOf {W : World} (h : W.ShapedOpen Tryz.prog) : ∃ m : Int, W.cell? ⟨2, 0, none⟩ = some (.int .i64 m) :=
  Go.Proofs.cell_of_shapedOpen_int (zero := #[.int .i64 0]) (t := 3) h (of_decide_eq_true (by kernel_rfl)) (by kernel_rfl) rfl (by kernel_rfl) (by kernel_rfl) Tryz.underlying3
/-- the numbers of a listed table as a variable holds them -/
def numsOf {H : Type} : DataW H → Array Value
  | .agg ds => (ds.map fun | .lit (.int k n) => Value.int k n | _ => Value.nilIface).toArray
  | _ => #[]
noncomputable def laidWorldF (os : Os) : World :=
  { World.doorLaid Tryz.prog 72 os with heap := (World.doorLaid Tryz.prog 72 os).heap.modify 4 fun
      | .cells _ t frozen => .cells (numsOf Go.Pinned.utf8First) t frozen
      | o => o }
end Dv
end Go.Proofs.YtbhngjhfeejeiaaGreatDoor
