/-
  The variables' small facts, and a world for the witness.
-/
import Derived.Test.YtbhngjhfeejeiaaDoorCodeFin
import Derived.Test.YtbhngjhfeejeiaaDoorVs
import Derived.Test.YtbhngjhfeejeiaaDoorSxG
namespace Go.Proofs.YtbhngjhfeejeiaaDoor
open Go.RowKit Go.WideShapes Go.ChangeShapes
namespace Dv

theorem tPow : (Tryd.prog.globals[3]?).map (·.type) = some 136 := by kernel_rfl
theorem tSyn : (Tryd.prog.globals[1]?).map (·.type) = some 90 := by kernel_rfl
theorem tRng : (Tryd.prog.globals[2]?).map (·.type) = some 90 := by kernel_rfl
theorem cells_tab : Tryd.prog.cellsOf 136 = 20 := by kernel_rfl
theorem cells_u64 : Tryd.prog.cellsOf 50 = 1 := by kernel_rfl
theorem cells_str : Tryd.prog.cellsOf 9 = 1 := by kernel_rfl
theorem cells_es : Tryd.prog.cellsOf 144 = 1 := by kernel_rfl
theorem star : "*" ++ "errors.errorString" = "*errors.errorString" := by decide
theorem row_es (u : TypeId) (h : Tryd.prog.typeName? 3 u = some "*errors.errorString") : u = 142 :=
  typeName_ptr_named (nm := "errors.errorString") (by rw [star]; kernel_rfl) (by kernel_rfl) (by decide) u (by rw [star]; exact h)
theorem gLast : Tryd.prog.globalNamed "math/bits.deBruijn64tab" = some 7 := by kernel_rfl
theorem var_lt {P : Program} {W : World} {n : String} {g : Nat} {cs : Array Value} (hg : P.globalNamed n = some g) (h : W.var? P n = some cs) : g < W.heap.size := by
  simp only [World.var?, hg, Option.bind_some] at h
  rcases Nat.lt_or_ge g W.heap.size with h' | h'
  · exact h'
  · simp [Array.getElem?_eq_none h'] at h
theorem maxOf {W : World} (h : W.ShapedOpen Tryd.prog) : ∃ m : Int, W.cell? ⟨0, 0, none⟩ = some (.int .i64 m) :=
  Go.Proofs.cell_of_shapedOpen_int (zero := #[.int .i64 0]) (t := 3) h (of_decide_eq_true (by kernel_rfl)) (by kernel_rfl) rfl (by kernel_rfl) (by kernel_rfl) Tryd.underlying3
/-- the numbers of a listed table as a variable holds them -/
def numsOf {H : Type} : DataW H → Array Value
  | .agg ds => (ds.map fun | .lit (.int k n) => Value.int k n | _ => Value.nilIface).toArray
  | _ => #[]
noncomputable def laidWorldF (os : Os) : World :=
  { World.doorLaid Tryd.prog 72 os with heap := (World.doorLaid Tryd.prog 72 os).heap.modify 4 fun
      | .cells _ t frozen => .cells (numsOf Go.Pinned.utf8First) t frozen
      | o => o }
end Dv
end Go.Proofs.YtbhngjhfeejeiaaDoor
