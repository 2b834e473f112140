/-
  saplinglaw06.alive answers true in every world in which the library's variables lie; VersionNumbers answers true.
-/
import Derived.Test.YtbhngjhfeejeiaaDoorVsB
import Derived.ChangeKeysEq
namespace Go.Proofs.YtbhngjhfeejeiaaDoor
open Go.RowKit
namespace Vs

theorem info_int : (Tryd.prog.info? 3).map (fun i => (i.zero, i.size, i.bytes)) = some (some (.int .i64 0), 1, 8) := by kernel_rfl
theorem size_int : Tryd.prog.cellsOf 3 = 1 := by kernel_rfl
theorem eqV (a b c x y z : Int) (w : World) : (Op.equalIn 10000 23 (V a b c) (V x y z)).run Tryd.prog w = .ok (a == x && (b == y && c == z)) w := by
  obtain ⟨i, hi, -⟩ := info_parts info_int
  rw [show (10000 : Nat) = 9999 + 1 from rfl, run_equalIn_array w 9999 _ _ Tryd.underlying23 hi, size_int]
  simp only [List.range, List.range.loop, Op.eqItems]
  by_cases h1 : a = x <;> by_cases h2 : b = y <;> by_cases h3 : c = z <;> simp [go_sem, part, Tryd.isAgg3, h1, h2, h3]

attribute [local go_sem] eqV

end Vs
end Go.Proofs.YtbhngjhfeejeiaaDoor
