/-
  Walks: a number's lowest bits, of both texts (layer 2).
-/
import Derived.Test.YtbhngjhfeejeiaaDoorMxA
import Derived.Laws.BitsAllLaws
namespace Go.Proofs.YtbhngjhfeejeiaaDoor
open Go.RowKit
namespace Mx

def nar (h : Nat) (w : Int) : Nat := if 64 ≤ w then h else h % 2 ^ w.toNat
theorem nar_big {h : Nat} {w : Int} (hw : 64 ≤ w) : nar h w = h := by unfold nar; rw [if_pos hw]
theorem nar_neg {h : Nat} {w : Int} (hw : w ≤ 0) : nar h w = 0 := by
  unfold nar
  rw [if_neg (by omega), show w.toNat = 0 by omega]
  simp [Nat.mod_one]
theorem nar_in {h k : Nat} (hk : k < 64) : nar h k = h % 2 ^ k := by unfold nar; rw [if_neg (by omega)]; simp
set_option maxHeartbeats 400000 in
theorem narrow_any (h : Nat) (k : Int) (w : World) (hh : h < 18446744073709551616) : Calls Tryd.prog 22 #[.int .u64 h, .int .i64 k] w fun e w' => e = .returned (.int .u64 (nar h k : Nat)) ∧ w' = w := by
  by_cases hk : 64 ≤ k
  · have hx := Lib.hid (nar_big (h := h) hk)
    go_enter Tryd.func22, Tryd.ntmps22
    go_wp2
    go_ret
    exact ⟨Sx.ret_int (by rw [hx.out]), rfl⟩
  · by_cases h0 : k ≤ 0
    · have hx := Lib.hid (nar_neg (h := h) h0)
      have hm : max k 0 = 0 := by omega
      go_enter Tryd.func22, Tryd.ntmps22
      go_wp2
      go_ret
      refine ⟨Sx.ret_int ?_, rfl⟩
      rw [hx.out]
      have := u64_and_nat h 0 hh (by decide)
      simpa using this
    · obtain ⟨n, rfl⟩ : ∃ n : Nat, k = n := ⟨k.toNat, by omega⟩
      have hx := Lib.hid (nar_in (h := h) (k := n) (by omega))
      have hm : max (n : Int) 0 = n := by omega
      have hp : 2 ^ n < 18446744073709551616 := by
        have : 2 ^ n ≤ 2 ^ 63 := Nat.pow_le_pow_right (by decide) (by omega)
        omega
      have hp1 : 1 ≤ 2 ^ n := Nat.one_le_two_pow
      obtain ⟨P, hP⟩ : ∃ P : Nat, P = 2 ^ n := ⟨_, rfl⟩
      obtain ⟨R, hR⟩ : ∃ R : Nat, R = 2 ^ n - 1 := ⟨_, rfl⟩
      have e1 : IntKind.u64.wrap ((2 : Int) ^ n) = (P : Int) := by
        have e : ((2 : Int) ^ n) = ((2 ^ n : Nat) : Int) := by simp
        rw [e, hP]
        show ((2 ^ n : Nat) : Int) % 18446744073709551616 = _
        omega
      have e2 : IntKind.u64.wrap ((P : Int) - 1) = (R : Int) := by
        rw [hP, hR]
        show (((2 ^ n : Nat) : Int) - 1) % 18446744073709551616 = _
        omega
      have HA := Lib.hid (show bits .and .u64 (h : Int) (R : Int) = ((h % 2 ^ n : Nat) : Int) by rw [u64_and_nat h _ hh (by omega), hR, Nat.and_two_pow_sub_one_eq_mod])
      clear hp hp1 hP hR
      go_enter Tryd.func22, Tryd.ntmps22
      go_wp2
      go_ret
      exact ⟨Sx.ret_int (by rw [hx.out, HA.out]), rfl⟩
theorem nar_succ (h i : Nat) : h % 2 ^ i + h / 2 ^ i % 2 * 2 ^ i = h % 2 ^ (i + 1) := by
  rw [Nat.pow_succ, Nat.mod_mul, Nat.mul_comm]
theorem div_succ (h i : Nat) : h / 2 ^ i / 2 = h / 2 ^ (i + 1) := by rw [Nat.pow_succ, Nat.div_div_eq_div_mul]
theorem mod_all {h : Nat} (hh : h < 18446744073709551616) : h % 2 ^ 64 = h := Nat.mod_eq_of_lt (by omega)
set_option maxHeartbeats 1000000 in
theorem narrowr_any (h : Nat) (k : Int) (w : World) (hh : h < 18446744073709551616) : Calls Tryd.prog 25 #[.int .u64 h, .int .i64 k] w fun e w' => e = .returned (.int .u64 (nar h k : Nat)) ∧ w' = w := by
  go_enter Tryd.func25, Tryd.ntmps25
  go_wp2_with fail
  go_loop [0, 5, 6, 7] (fun x o b i => ∃ (n : Nat) (m q : Nat), n ≤ 64 ∧ ((n : Int) ≤ k ∨ n = 0) ∧ i = .int .i64 n ∧ x = .int .u64 m ∧ m = h / 2 ^ n ∧ o = .int .u64 q ∧ q = h % 2 ^ n ∧ ∃ c : Nat, b = .int .u64 c ∧ (n < 64 → c = 2 ^ n)) (fun _ _ _ i => 64 - (intOf i).toNat)
  case atStart => exact ⟨0, h, 0, by omega, .inr rfl, rfl, rfl, by simp, rfl, by simp [Nat.mod_one], 1, rfl, fun _ => rfl⟩
  case round =>
    obtain ⟨n, m, q, hn, hnk, rfl, rfl, hm, rfl, hq, c, rfl, hc⟩ := hrel
    by_cases hlt : (n : Int) < k ∧ n < 64
    · obtain ⟨h1, h2⟩ := hlt
      have hc' := hc h2
      have hs := nar_succ h n
      have hd := div_succ h n
      have hmod : h % 2 ^ (n + 1) ≤ h := Nat.mod_le _ _
      have hml : m ≤ h := by rw [hm]; exact Nat.div_le_self _ _
      have hql : q ≤ h := by rw [hq]; exact Nat.mod_le _ _
      have hcl : c < 18446744073709551616 := by
        rw [hc']
        have : 2 ^ n ≤ 2 ^ 63 := Nat.pow_le_pow_right (by decide) (by omega)
        omega
      have hmc : m % 2 * c ≤ h := by
        rw [hm, hc']
        omega
      have hsum : q + m % 2 * c = h % 2 ^ (n + 1) := by rw [hq, hm, hc', hs]
      have HS := Lib.hid hsum
      have HD := Lib.hid (show m / 2 = h / 2 ^ (n + 1) by rw [hm, hd])
      have HC := Lib.hid hc'
      have q1 : ((m : Int)).tmod 2 = ((m % 2 : Nat) : Int) := by rw [Int.tmod_eq_emod_of_nonneg (by omega)]; omega
      have q2 : IntKind.u64.wrap ((m : Int) % 2 * (c : Int)) = ((m % 2 * c : Nat) : Int) := by
        have e : ((m : Int) % 2 * (c : Int)) = ((m % 2 * c : Nat) : Int) := by simp
        rw [e]
        show ((m % 2 * c : Nat) : Int) % 18446744073709551616 = _
        omega
      have Q4 := Lib.hid (show IntKind.u64.wrap ((q : Int) + (m : Int) % 2 * (c : Int)) = ((q + m % 2 * c : Nat) : Int) by
        have e : ((m : Int) % 2 * (c : Int)) = ((m % 2 * c : Nat) : Int) := by simp
        rw [e]
        show ((q : Int) + ((m % 2 * c : Nat) : Int)) % 18446744073709551616 = _
        omega)
      have q3 : IntKind.u64.wrap ((c : Int) * 2) = ((if n + 1 < 64 then 2 ^ (n + 1) else 0 : Nat) : Int) := by
        show ((c : Int) * 2) % 18446744073709551616 = _
        rw [hc']
        by_cases h4 : n + 1 < 64
        · rw [if_pos h4]
          have h5 : 2 ^ (n + 1) ≤ 2 ^ 63 := Nat.pow_le_pow_right (by decide) (by omega)
          have h6 : 2 ^ (n + 1) = 2 ^ n * 2 := Nat.pow_succ 2 n
          omega
        · rw [if_neg h4]
          obtain rfl : n = 63 := by omega
          decide
      have HZ := Lib.hid (show n + 1 < 64 → (if n + 1 < 64 then 2 ^ (n + 1) else 0 : Nat) = 2 ^ (n + 1) from fun h4 => if_pos h4)
      generalize (if n + 1 < 64 then 2 ^ (n + 1) else 0 : Nat) = z at *
      clear hc hc' hs hd hm hq hsum hnk
      go_wp2_with fail
      go_round
      case rel => exact ⟨n + 1, m / 2, h % 2 ^ (n + 1), by omega, by omega, by go_num, by go_num, HD.out, by rw [← HS.out, ← Q4.out], rfl, _, rfl, fun h4 => HZ.out h4⟩
      case measure => simp [intOf]; omega
    · go_wp2_with fail
      all_goals
        go_ret
        refine ⟨Sx.ret_int ?_, rfl⟩
        have hf : (nar h k : Nat) = h % 2 ^ n := by
          rcases hnk with hnk | hnk
          · by_cases hk64 : 64 ≤ k
            · have h64 : n = 64 := by omega
              rw [nar_big hk64, h64, mod_all hh]
            · have e : k = (n : Int) := by omega
              rw [e, nar_in (by omega)]
          · by_cases hk64 : 64 ≤ k
            · omega
            · rw [nar_neg (by omega), hnk]
              simp [Nat.mod_one]
        rw [hf]
        simp
end Mx
end Go.Proofs.YtbhngjhfeejeiaaDoor
