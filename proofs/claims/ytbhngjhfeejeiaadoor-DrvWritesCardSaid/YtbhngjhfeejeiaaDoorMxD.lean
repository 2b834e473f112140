/-
  Walk: the reference's reading of a key (layer 2).
-/
import Derived.Test.YtbhngjhfeejeiaaDoorMxC
namespace Go.Proofs.YtbhngjhfeejeiaaDoor
open Go.RowKit
namespace Mx

def BB : Nat → Nat
  | 0 => 1
  | i + 1 => 16 * 32 ^ i
theorem BB_succ {m d i : Nat} (h : m < BB i) (hd : d ≤ 31) (h0 : i = 0 → d ≤ 15) : m * 32 + d < BB (i + 1) := by
  cases i with
  | zero =>
    simp only [BB] at h ⊢
    have := h0 rfl
    omega
  | succ i =>
    simp only [BB] at h ⊢
    rw [Nat.pow_succ]
    omega
theorem BB_le : ∀ i : Fin 14, BB i.1 ≤ 18446744073709551616 := by decide +kernel
set_option maxHeartbeats 1000000 in
theorem parser_any (s : ByteArray) (w : World) (hs : s.size ≤ 9223372036854775807) :
    Calls Tryd.prog 51 #[.string s] w fun e w' => e = .returned (KV s.data.toList) ∧ w' = w := by
  go_enter Tryd.func51, Tryd.ntmps51
  go_wp2_with fail
  go_loop [4, 5] (fun x i => ∃ (k m : Nat), k ≤ 13 ∧ k ≤ s.size ∧ i = .int .i64 k ∧ x = .int .u64 m ∧ m = kv (s.data.toList.take k) ∧ m < BB k ∧ (∀ (j : Nat) (hj : j < s.size), j < k → dg s[j] ≤ 31 ∧ (j = 0 → dg s[j] ≤ 15))) (fun _ i => 13 - (intOf i).toNat)
  case atStart => exact ⟨0, 0, by omega, by omega, rfl, rfl, rfl, by decide, by omega⟩
  case round =>
    obtain ⟨k, m, hk, hks, rfl, rfl, hm, hb, hall⟩ := hrel
    have HM := Lib.hid hm
    have HALL := Lib.hid hall
    clear hm hall
    by_cases hlt : k < s.size
    · by_cases h13 : k < 13
      · have hdle := dg_le s[k]
        have HB := Lib.hid hb
        have hbd := BB_le ⟨k + 1, by omega⟩
        by_cases hd : 31 < dg s[k]
        · have hx := Lib.hid (show KV s.data.toList = .tuple #[.int .u64 0, .bool false] by unfold KV; rw [kok_bad hlt hd]; rfl)
          have hd' : (31 : Int) < (dg s[k] : Int) := by omega
          clear hb hbd
          go_wp2_with (go_at_call 65; refine (digit_any _ _).mono ?_; rintro e w' ⟨rfl, rfl⟩)
          go_ret2
          exact ⟨Eq.trans (by rfl) (congrArg Ending.returned hx.out).symm, rfl⟩
        · have hd' : ¬ (31 : Int) < (dg s[k] : Int) := by omega
          by_cases hz : k = 0 ∧ 15 < dg s[k]
          · obtain ⟨rfl, h15⟩ := hz
            have hx := Lib.hid (show KV s.data.toList = .tuple #[.int .u64 0, .bool false] by unfold KV; rw [kok_head hlt h15]; rfl)
            have h15' : (15 : Int) < (dg s[0] : Int) := by omega
            clear hb hbd
            go_wp2_with (go_at_call 65; refine (digit_any _ _).mono ?_; rintro e w' ⟨rfl, rfl⟩)
            go_ret2
            exact ⟨Eq.trans (by rfl) (congrArg Ending.returned hx.out).symm, rfl⟩
          · have hn := BB_succ (m := m) (d := dg s[k]) (i := k) hb (by omega) (fun h0 => by omega)
            have HN := Lib.hid hn
            have hn2 : m * 32 + dg s[k] < 18446744073709551616 := Nat.lt_of_lt_of_le hn hbd
            have HT := Lib.hid (kv_take hlt)
            have k1 : IntKind.u64.wrap ((m : Int) * 32) = (m : Int) * 32 := by
              show ((m : Int) * 32) % 18446744073709551616 = _
              omega
            have k2 : IntKind.u64.wrap ((m : Int) * 32 + (dg s[k] : Int)) = ((m * 32 + dg s[k] : Nat) : Int) := by
              show ((m : Int) * 32 + (dg s[k] : Int)) % 18446744073709551616 = _
              omega
            have HA := Lib.hid (show ∀ (j : Nat) (hj : j < s.size), j < k + 1 → dg s[j] ≤ 31 ∧ (j = 0 → dg s[j] ≤ 15) from fun j hj hjk => by
              by_cases h : j < k
              · exact HALL.out j hj h
              · obtain rfl : j = k := by omega
                exact ⟨by omega, fun h0 => by omega⟩)
            have hcs : ((k : Int) == 0) = false ∨ (((k : Int) == 0) = true ∧ ¬ (15 : Int) < (dg s[k] : Int)) := by
              by_cases h0 : k = 0
              · exact .inr ⟨by simp [h0], by omega⟩
              · exact .inl (by rw [beq_eq_false_iff_ne]; omega)
            clear hb hbd hn hn2 hz hd hdle
            rcases hcs with hcs | ⟨hcs, hcs2⟩
            all_goals
              go_wp2_with (go_at_call 65; refine (digit_any _ _).mono ?_; rintro e w' ⟨rfl, rfl⟩)
              go_round
              case rel => exact ⟨k + 1, m * 32 + dg s[k], by omega, by omega, by go_num, by go_num, by rw [HT.out, HM.out], HN.out, HA.out⟩
              case measure => simp [intOf]; omega
      · have hne : s.size ≠ 13 := by omega
        have hx := Lib.hid (show KV s.data.toList = .tuple #[.int .u64 0, .bool false] by unfold KV; rw [kok_len (by rw [← Lib.size_eq]; exact hne)]; rfl)
        have j1 : ((s.size : Int) == 13) = false := by rw [beq_eq_false_iff_ne]; omega
        clear hb
        go_wp2_with fail
        go_ret2
        exact ⟨Eq.trans (by rfl) (congrArg Ending.returned hx.out).symm, rfl⟩
    · by_cases hne : s.size = 13
      · have hx := Lib.hid (show KV s.data.toList = .tuple #[.int .u64 m, .bool true] by
          unfold KV
          rw [kok_good hne (fun j hj => (HALL.out j hj (by omega)).1) (fun h0 => (HALL.out 0 h0 (by omega)).2 rfl)]
          have := HM.out
          rw [List.take_of_length_le (by rw [← Lib.size_eq]; omega)] at this
          rw [this]
          rfl)
        have j1 : ((s.size : Int) == 13) = true := by rw [beq_iff_eq]; omega
        clear hb hne
        go_wp2_with fail
        go_ret2
        exact ⟨Eq.trans (by rfl) (congrArg Ending.returned hx.out).symm, rfl⟩
      · have hx := Lib.hid (show KV s.data.toList = .tuple #[.int .u64 0, .bool false] by unfold KV; rw [kok_len (by rw [← Lib.size_eq]; exact hne)]; rfl)
        have j1 : ((s.size : Int) == 13) = false := by rw [beq_eq_false_iff_ne]; omega
        clear hb
        go_wp2_with fail
        go_ret2
        exact ⟨Eq.trans (by rfl) (congrArg Ending.returned hx.out).symm, rfl⟩
end Mx
end Go.Proofs.YtbhngjhfeejeiaaDoor
