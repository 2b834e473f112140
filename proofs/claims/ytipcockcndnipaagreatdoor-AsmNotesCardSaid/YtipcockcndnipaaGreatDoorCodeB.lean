/-
  Walks: Op of both texts.
-/
import Derived.Test.YtipcockcndnipaaGreatDoorCodeA
namespace Go.Proofs.YtipcockcndnipaaGreatDoor
open Go.RowKit
namespace Cd

set_option maxHeartbeats 400000 in
theorem index_any (s : ByteArray) (w : World) (hT : Tab w) : Calls Tryz.prog 83 #[.slice (some ⟨0, 0, none⟩) 31 31, .string s] w fun e w' => ∃ i : Int, e = .returned (.int .i64 i) ∧ max i 0 = (opN s.data.toList : Int) ∧ Below w.heap.size w w' := by
  go_enter Tryz.func83, Tryz.ntmps83
  go_wp2_with fail
  go_loop [8] (fun i => ∃ k : Nat, k ≤ 31 ∧ i = .int .i64 k ∧ (∀ j, j < k → wb j ≠ s)) (fun i => 31 - (intOf i).toNat)
  case atStart => exact ⟨0, Nat.zero_le _, rfl, by omega⟩
  case round =>
    obtain ⟨k, hk, rfl, hn⟩ := hrel
    by_cases hlt : k < 31
    · have hc := hT.words k hlt
      by_cases he : wb k = s
      · have hx := Lib.hid (show max (k : Int) 0 = (opN s.data.toList : Int) by rw [op_hit hlt he]; omega)
        have he1 := seq_tt he.symm
        clear hn he
        go_wp2
        go_ret
        exact ⟨_, rfl, hx.out, Below.refl _ _⟩
      · have he1 := seq_ff (Ne.symm he)
        go_wp2
        go_round
        case rel => exact ⟨k + 1, by omega, by go_num, fun j h2 => by
          by_cases h : j < k
          · exact hn j h
          · obtain rfl : j = k := by omega
            exact he⟩
        case measure => simp [intOf]; omega
    · have hx := Lib.hid (op_miss (s := s) (fun j _ hj => hn j (by omega)))
      clear hn
      go_wp2
      go_ret
      exact ⟨_, rfl, by rw [hx.out]; rfl, Below.refl _ _⟩

set_option maxHeartbeats 400000 in
theorem op_any (s : ByteArray) (w : World) (hT : Tab w) : Calls Tryz.prog 63 #[.string s] w fun e w' => e = .returned (.int .i64 (opN s.data.toList)) ∧ Below w.heap.size w w' := by
  go_enter Tryz.func63, Tryz.ntmps63
  go_wp2_with fail
  refine (index_any s _ hT).mono ?_
  rintro e w1 ⟨i, rfl, hi, hb1⟩
  go_wp2
  all_goals
    go_ret
    exact ⟨ret_int (by omega), hb1⟩

set_option maxHeartbeats 400000 in
theorem opr_any (s : ByteArray) (w : World) : Calls Tryz.prog 46 #[.string s] w fun e w' => e = .returned (.int .i64 (opN s.data.toList)) ∧ Below w.heap.size w w' := by
  go_enter Tryz.func46, Tryz.ntmps46
  go_wp2_with fail
  refine (words_any _).mono ?_
  rintro e w1 ⟨rfl, hW, hb1⟩
  go_wp2_with fail
  go_loop [7] (fun i => ∃ k : Nat, k ≤ 30 ∧ i = .int .i64 k ∧ (∀ j, 1 ≤ j → j ≤ k → wb j ≠ s)) (fun i => 30 - (intOf i).toNat)
  case atStart => exact ⟨0, Nat.zero_le _, rfl, by omega⟩
  case round =>
    obtain ⟨k, hk, rfl, hn⟩ := hrel
    by_cases hlt : k < 30
    · have hc := hW.words k hlt
      by_cases he : wb (k + 1) = s
      · have hx := Lib.hid (op_hit (by omega) he)
        have he1 := seq_tt he
        clear hn he
        go_wp2
        go_ret
        exact ⟨ret_int (by rw [hx.out]; omega), hb1⟩
      · have he1 := seq_ff he
        go_wp2
        go_round
        case rel => exact ⟨k + 1, by omega, by go_num, fun j h1 h2 => by
          by_cases h : j ≤ k
          · exact hn j h1 h
          · obtain rfl : j = k + 1 := by omega
            exact he⟩
        case measure => simp [intOf]; omega
    · have hx := Lib.hid (op_miss (s := s) (fun j h1 hj => hn j h1 (by omega)))
      clear hn
      go_wp2
      go_ret
      exact ⟨ret_int (by rw [hx.out]; rfl), hb1⟩
end Cd
end Go.Proofs.YtipcockcndnipaaGreatDoor
