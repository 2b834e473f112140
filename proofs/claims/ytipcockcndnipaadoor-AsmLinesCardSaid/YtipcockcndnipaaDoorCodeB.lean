/-
  Walks: Op of both texts.
-/
import Derived.Test.YtipcockcndnipaaDoorCodeA
namespace Go.Proofs.YtipcockcndnipaaDoor
open Go.RowKit
namespace Cd

set_option maxHeartbeats 400000 in
theorem index_any (s : ByteArray) (w : World) (hT : Tab w) : Calls Tryd.prog 66 #[.slice (some ⟨0, 0, none⟩) 31 31, .string s] w fun e w' => ∃ i : Int, e = .returned (.int .i64 i) ∧ max i 0 = (opN s.data.toList : Int) ∧ Below w.heap.size w w' := by
  go_enter Tryd.func66, Tryd.ntmps66
  go_wp2_with fail
  go_loop [8] (fun i => ∃ k : Nat, k ≤ 31 ∧ i = .int .i64 k ∧ (∀ j, j < k → wb j ≠ s)) (fun i => 31 - (intOf i).toNat)
  case atStart => exact ⟨0, Nat.zero_le _, rfl, by omega⟩
  case round =>
    obtain ⟨k, hk, rfl, hn⟩ := hrel
    by_cases hlt : k < 31
    · have hc := hT.words k hlt
      by_cases he : wb k = s
      · have hx := Lib.hid (show max (k : Int) 0 = (opN s.data.toList : Int) by rw [op_hit hlt he]; omega)
        have he1 := seq_tt he.symm
        clear hn he
        go_wp2
        go_ret
        exact ⟨_, rfl, hx.out, Below.refl _ _⟩
      · have he1 := seq_ff (Ne.symm he)
        go_wp2
        go_round
        case rel => exact ⟨k + 1, by omega, by go_num, fun j h2 => by
          by_cases h : j < k
          · exact hn j h
          · obtain rfl : j = k := by omega
            exact he⟩
        case measure => simp [intOf]; omega
    · have hx := Lib.hid (op_miss (s := s) (fun j _ hj => hn j (by omega)))
      clear hn
      go_wp2
      go_ret
      exact ⟨_, rfl, by rw [hx.out]; rfl, Below.refl _ _⟩

set_option maxHeartbeats 400000 in
theorem op_any (s : ByteArray) (w : World) (hT : Tab w) : Calls Tryd.prog 49 #[.string s] w fun e w' => e = .returned (.int .i64 (opN s.data.toList)) ∧ Below w.heap.size w w' := by
  go_enter Tryd.func49, Tryd.ntmps49
  go_wp2_with fail
  refine (index_any s _ hT).mono ?_
  rintro e w1 ⟨i, rfl, hi, hb1⟩
  go_wp2
  all_goals
    go_ret
    exact ⟨ret_int (by omega), hb1⟩

end Cd
end Go.Proofs.YtipcockcndnipaaDoor
