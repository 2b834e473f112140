/-
  saplinglaw06.alive answers true in every world in which the library's variables lie; VersionNumbers answers true.
-/
import Derived.Test.YtlmmhhkhoaoheaaGreatDoorVersionB
import Derived.ChangeKeysEq
namespace Go.Proofs.YtlmmhhkhoaoheaaGreatDoor
open Go.RowKit
namespace Vs

theorem info_int : (Tryz.prog.info? 3).map (fun i => (i.zero, i.size, i.bytes)) = some (some (.int .i64 0), 1, 8) := by kernel_rfl
theorem size_int : Tryz.prog.cellsOf 3 = 1 := by kernel_rfl
theorem eqV (a b c x y z : Int) (w : World) : (Op.equalIn 10000 31 (V a b c) (V x y z)).run Tryz.prog w = .ok (a == x && (b == y && c == z)) w := by
  obtain ⟨i, hi, -⟩ := info_parts info_int
  rw [show (10000 : Nat) = 9999 + 1 from rfl, run_equalIn_array w 9999 _ _ Tryz.underlying31 hi, size_int]
  simp only [List.range, List.range.loop, Op.eqItems]
  by_cases h1 : a = x <;> by_cases h2 : b = y <;> by_cases h3 : c = z <;> simp [go_sem, part, Tryz.isAgg3, h1, h2, h3]

attribute [local go_sem] eqV

theorem parse_a : parseL [49, 46, 50, 48, 46, 51] = some (1, 20, 3) := by decide +kernel
theorem parse_b : parseL [48, 49, 46, 50, 46, 51] = none := by decide +kernel

theorem of_num_tt {a b c : Int} (h : goodB a b c = true) : OfV (num a b c) = .tuple #[V a b c, .bool true] := by
  obtain ⟨a0, a1, b0, b1, c0, c1⟩ := of_good h
  have e : num a b c = (a * 1000 + b) * 1000 + c := by simp [num, h]
  rw [e, of_tt (by omega) (by omega), show ((a * 1000 + b) * 1000 + c) / 1000000 = a by omega, show ((a * 1000 + b) * 1000 + c) / 1000 % 1000 = b by omega, show ((a * 1000 + b) * 1000 + c) % 1000 = c by omega]
theorem of_num_ff {a b c : Int} (h : goodB a b c = false) : OfV (num a b c) = .tuple #[V 0 0 0, .bool false] := by
  have e : num a b c = -1 := by simp [num, h]
  rw [e, of_ff (by omega)]
theorem num_of {n : Int} (h0 : 0 ≤ n) (h1 : n < 1000000000) : num (n / 1000000) (n / 1000 % 1000) (n % 1000) = n := by
  have h : goodB (n / 1000000) (n / 1000 % 1000) (n % 1000) = true := good_tt (by omega) (by omega) (by omega)
  simp only [num, h, if_true]; omega

end Vs
end Go.Proofs.YtlmmhhkhoaoheaaGreatDoor
