/-
  Walks: the number of bytes, of both texts (layer 2).
  Walks: a number's lowest bits, of both texts (layer 2).
  Walks: a key's letters, the reference's reading of a key (layer 2).
  Walk: the reference's reading of a key (layer 2).
  Walk: the reading of a key (layer 2).
  Walk: the reference's text of a key (layer 2).
  Walk: mix.Text.
-/
import Derived.Test.YtbhngjhfeejeiaaDoorSxG
import Derived.Laws.Closers25b
import Derived.IntWalk
import Derived.Laws.BitsAllLaws
import Derived.Test.YtbhngjhfeejeiaaDoorShelfI
namespace Go.Proofs.YtbhngjhfeejeiaaDoor
open Go.RowKit
namespace Mx

/-- one byte more -/
def st (h c : Int) : Int :=
  let a := bits .xor .u64 h c
  let b := bits .xor .u64 a (IntKind.u64.wrap (a * 8192))
  let d := bits .xor .u64 b (b / 128)
  let e := bits .xor .u64 d (IntKind.u64.wrap (d * 131072))
  IntKind.u64.wrap (e + 15111065706836454659)
def mixL (h : Int) (l : List UInt8) : Int := l.foldl (fun h c => st h (c.toNat : Int)) h
theorem mix_snoc (h : Int) (s : ByteArray) (k : Nat) (hk : k < s.size) : mixL h (s.data.toList.take (k + 1)) = st (mixL h (s.data.toList.take k)) (s[k].toNat : Int) := by
  have e : s.data.toList.take (k + 1) = s.data.toList.take k ++ [s[k]] := by
    rw [List.take_succ_eq_append_getElem (by have := Lib.size_eq s; omega)]
    rfl
  rw [e]
  simp [mixL]

set_option maxHeartbeats 1000000 in
theorem add_any (h : Int) (s : ByteArray) (w : World) (hs : s.size ≤ 9223372036854775807) :
    Calls Tryd.prog 42 #[.int .u64 h, .string s] w fun e w' => e = .returned (.int .u64 (mixL h s.data.toList)) ∧ w' = w := by
  go_enter Tryd.func42, Tryd.ntmps42
  go_wp2_with fail
  go_loop [0, 8] (fun x i => ∃ k : Nat, k ≤ s.size ∧ i = .int .i64 k ∧ x = .int .u64 (mixL h (s.data.toList.take k))) (fun _ i => s.size - (intOf i).toNat)
  case atStart => exact ⟨0, Nat.zero_le _, rfl, rfl⟩
  case round =>
    obtain ⟨k, hk, rfl, rfl⟩ := hrel
    by_cases hlt : k < s.size
    · have HS := Lib.hid (mix_snoc h s k hlt)
      obtain ⟨m, hm⟩ : ∃ m, m = mixL h (s.data.toList.take k) := ⟨_, rfl⟩
      rw [← hm] at HS ⊢
      clear hm
      have k1 : IntKind.u64.wrap (s[k].toNat : Int) = (s[k].toNat : Int) := by
        have := s[k].toNat_lt
        show (s[k].toNat : Int) % 18446744073709551616 = _
        omega
      go_wp2
      go_round
      case rel => exact ⟨k + 1, by omega, by go_num, by rw [HS.out]; rfl⟩
      case measure => simp [intOf]; omega
    · go_wp2
      go_ret
      exact ⟨Sx.ret_int (by rw [List.take_of_length_le (by have := Lib.size_eq s; omega)]), rfl⟩

theorem xor_in (x y : Int) : 0 ≤ bits .xor .u64 x y ∧ bits .xor .u64 x y < 18446744073709551616 := by
  have h := bits_within .xor .u64 x y
  exact ⟨h.1, by have := h.2; simp [IntKind.max, IntKind.bits, IntKind.signed] at this; omega⟩
set_option maxHeartbeats 1000000 in
theorem addr_any (h : Int) (s : ByteArray) (w : World) (hs : s.size ≤ 9223372036854775807) :
    Calls Tryd.prog 44 #[.int .u64 h, .string s] w fun e w' => e = .returned (.int .u64 (mixL h s.data.toList)) ∧ w' = w := by
  have hq : ∀ x y, (bits .xor .u64 x y).tdiv 128 = bits .xor .u64 x y / 128 := fun x y => Int.tdiv_eq_ediv_of_nonneg (xor_in x y).1
  have hq2 : ∀ x y, IntKind.u64.wrap (bits .xor .u64 x y / 128) = bits .xor .u64 x y / 128 := fun x y => by
    have := xor_in x y
    show (bits .xor .u64 x y / 128) % 18446744073709551616 = _
    omega
  go_enter Tryd.func44, Tryd.ntmps44
  go_wp2_with fail
  go_loop [0, 5] (fun x i => ∃ k : Nat, k ≤ s.size ∧ i = .int .i64 k ∧ x = .int .u64 (mixL h (s.data.toList.take k))) (fun _ i => s.size - (intOf i).toNat)
  case atStart => exact ⟨0, Nat.zero_le _, rfl, rfl⟩
  case round =>
    obtain ⟨k, hk, rfl, rfl⟩ := hrel
    by_cases hlt : k < s.size
    · have HS := Lib.hid (mix_snoc h s k hlt)
      obtain ⟨m, hm⟩ : ∃ m, m = mixL h (s.data.toList.take k) := ⟨_, rfl⟩
      rw [← hm] at HS ⊢
      clear hm
      have k1 : IntKind.u64.wrap (s[k].toNat : Int) = (s[k].toNat : Int) := by
        have := s[k].toNat_lt
        show (s[k].toNat : Int) % 18446744073709551616 = _
        omega
      go_wp2
      go_round
      case rel => exact ⟨k + 1, by omega, by go_num, by rw [HS.out]; rfl⟩
      case measure => simp [intOf]; omega
    · go_wp2
      go_ret
      exact ⟨Sx.ret_int (by rw [List.take_of_length_le (by have := Lib.size_eq s; omega)]), rfl⟩
/-- the number of bytes -/
def ofL (l : List UInt8) : Int := mixL (bits .xor .u64 (IntKind.u64.wrap (l.length : Int)) 11400714819323198485) l
set_option maxHeartbeats 400000 in
theorem start_any (h : Int) (w : World) : Calls Tryd.prog 43 #[.int .u64 h] w fun e w' => e = .returned (.int .u64 (bits .xor .u64 h 11400714819323198485)) ∧ w' = w := by
  go_enter Tryd.func43, Tryd.ntmps43
  go_wp2
  go_ret
  exact ⟨rfl, rfl⟩
set_option maxHeartbeats 400000 in
theorem startr_any (h : Int) (w : World) : Calls Tryd.prog 45 #[.int .u64 h] w fun e w' => e = .returned (.int .u64 (bits .xor .u64 h 11400714819323198485)) ∧ w' = w := by
  go_enter Tryd.func45, Tryd.ntmps45
  go_wp2
  go_ret
  exact ⟨rfl, rfl⟩
set_option maxHeartbeats 400000 in
theorem of_any (s : ByteArray) (w : World) (hs : s.size ≤ 9223372036854775807) : Calls Tryd.prog 23 #[.string s] w fun e w' => e = .returned (.int .u64 (ofL s.data.toList)) ∧ w' = w := by
  have he : ofL s.data.toList = mixL (bits .xor .u64 (IntKind.u64.wrap (s.size : Int)) 11400714819323198485) s.data.toList := by unfold ofL; rw [← Lib.size_eq]
  have k1 : IntKind.u64.wrap (s.size : Int) = (s.size : Int) := by
    show (s.size : Int) % 18446744073709551616 = _
    omega
  rw [k1] at he
  have HE := Lib.hid he
  clear he
  go_enter Tryd.func23, Tryd.ntmps23
  go_wp2_with (first
    | (go_at_call 43; refine (start_any _ _).mono ?_; rintro e w' ⟨rfl, rfl⟩)
    | (go_at_call 42; refine (add_any _ _ _ hs).mono ?_; rintro e w' ⟨rfl, rfl⟩))
  go_ret
  exact ⟨Sx.ret_int HE.out.symm, rfl⟩
set_option maxHeartbeats 400000 in
theorem ofr_any (s : ByteArray) (w : World) (hs : s.size ≤ 9223372036854775807) : Calls Tryd.prog 26 #[.string s] w fun e w' => e = .returned (.int .u64 (ofL s.data.toList)) ∧ w' = w := by
  have he : ofL s.data.toList = mixL (bits .xor .u64 (IntKind.u64.wrap (s.size : Int)) 11400714819323198485) s.data.toList := by unfold ofL; rw [← Lib.size_eq]
  have k1 : IntKind.u64.wrap (s.size : Int) = (s.size : Int) := by
    show (s.size : Int) % 18446744073709551616 = _
    omega
  rw [k1] at he
  have HE := Lib.hid he
  clear he
  go_enter Tryd.func26, Tryd.ntmps26
  go_wp2_with (first
    | (go_at_call 45; refine (startr_any _ _).mono ?_; rintro e w' ⟨rfl, rfl⟩)
    | (go_at_call 44; refine (addr_any _ _ _ hs).mono ?_; rintro e w' ⟨rfl, rfl⟩))
  go_ret
  exact ⟨Sx.ret_int HE.out.symm, rfl⟩
end Mx
end Go.Proofs.YtbhngjhfeejeiaaDoor
namespace Go.Proofs.YtbhngjhfeejeiaaDoor
open Go.RowKit
namespace Mx

def nar (h : Nat) (w : Int) : Nat := if 64 ≤ w then h else h % 2 ^ w.toNat
theorem nar_big {h : Nat} {w : Int} (hw : 64 ≤ w) : nar h w = h := by unfold nar; rw [if_pos hw]
theorem nar_neg {h : Nat} {w : Int} (hw : w ≤ 0) : nar h w = 0 := by
  unfold nar
  rw [if_neg (by omega), show w.toNat = 0 by omega]
  simp [Nat.mod_one]
theorem nar_in {h k : Nat} (hk : k < 64) : nar h k = h % 2 ^ k := by unfold nar; rw [if_neg (by omega)]; simp
set_option maxHeartbeats 400000 in
theorem narrow_any (h : Nat) (k : Int) (w : World) (hh : h < 18446744073709551616) : Calls Tryd.prog 22 #[.int .u64 h, .int .i64 k] w fun e w' => e = .returned (.int .u64 (nar h k : Nat)) ∧ w' = w := by
  by_cases hk : 64 ≤ k
  · have hx := Lib.hid (nar_big (h := h) hk)
    go_enter Tryd.func22, Tryd.ntmps22
    go_wp2
    go_ret
    exact ⟨Sx.ret_int (by rw [hx.out]), rfl⟩
  · by_cases h0 : k ≤ 0
    · have hx := Lib.hid (nar_neg (h := h) h0)
      have hm : max k 0 = 0 := by omega
      go_enter Tryd.func22, Tryd.ntmps22
      go_wp2
      go_ret
      refine ⟨Sx.ret_int ?_, rfl⟩
      rw [hx.out]
      have := u64_and_nat h 0 hh (by decide)
      simpa using this
    · obtain ⟨n, rfl⟩ : ∃ n : Nat, k = n := ⟨k.toNat, by omega⟩
      have hx := Lib.hid (nar_in (h := h) (k := n) (by omega))
      have hm : max (n : Int) 0 = n := by omega
      have hp : 2 ^ n < 18446744073709551616 := by
        have : 2 ^ n ≤ 2 ^ 63 := Nat.pow_le_pow_right (by decide) (by omega)
        omega
      have hp1 : 1 ≤ 2 ^ n := Nat.one_le_two_pow
      obtain ⟨P, hP⟩ : ∃ P : Nat, P = 2 ^ n := ⟨_, rfl⟩
      obtain ⟨R, hR⟩ : ∃ R : Nat, R = 2 ^ n - 1 := ⟨_, rfl⟩
      have e1 : IntKind.u64.wrap ((2 : Int) ^ n) = (P : Int) := by
        have e : ((2 : Int) ^ n) = ((2 ^ n : Nat) : Int) := by simp
        rw [e, hP]
        show ((2 ^ n : Nat) : Int) % 18446744073709551616 = _
        omega
      have e2 : IntKind.u64.wrap ((P : Int) - 1) = (R : Int) := by
        rw [hP, hR]
        show (((2 ^ n : Nat) : Int) - 1) % 18446744073709551616 = _
        omega
      have HA := Lib.hid (show bits .and .u64 (h : Int) (R : Int) = ((h % 2 ^ n : Nat) : Int) by rw [u64_and_nat h _ hh (by omega), hR, Nat.and_two_pow_sub_one_eq_mod])
      clear hp hp1 hP hR
      go_enter Tryd.func22, Tryd.ntmps22
      go_wp2
      go_ret
      exact ⟨Sx.ret_int (by rw [hx.out, HA.out]), rfl⟩
theorem nar_succ (h i : Nat) : h % 2 ^ i + h / 2 ^ i % 2 * 2 ^ i = h % 2 ^ (i + 1) := by
  rw [Nat.pow_succ, Nat.mod_mul, Nat.mul_comm]
theorem div_succ (h i : Nat) : h / 2 ^ i / 2 = h / 2 ^ (i + 1) := by rw [Nat.pow_succ, Nat.div_div_eq_div_mul]
theorem mod_all {h : Nat} (hh : h < 18446744073709551616) : h % 2 ^ 64 = h := Nat.mod_eq_of_lt (by omega)
set_option maxHeartbeats 1000000 in
theorem narrowr_any (h : Nat) (k : Int) (w : World) (hh : h < 18446744073709551616) : Calls Tryd.prog 25 #[.int .u64 h, .int .i64 k] w fun e w' => e = .returned (.int .u64 (nar h k : Nat)) ∧ w' = w := by
  go_enter Tryd.func25, Tryd.ntmps25
  go_wp2_with fail
  go_loop [0, 5, 6, 7] (fun x o b i => ∃ (n : Nat) (m q : Nat), n ≤ 64 ∧ ((n : Int) ≤ k ∨ n = 0) ∧ i = .int .i64 n ∧ x = .int .u64 m ∧ m = h / 2 ^ n ∧ o = .int .u64 q ∧ q = h % 2 ^ n ∧ ∃ c : Nat, b = .int .u64 c ∧ (n < 64 → c = 2 ^ n)) (fun _ _ _ i => 64 - (intOf i).toNat)
  case atStart => exact ⟨0, h, 0, by omega, .inr rfl, rfl, rfl, by simp, rfl, by simp [Nat.mod_one], 1, rfl, fun _ => rfl⟩
  case round =>
    obtain ⟨n, m, q, hn, hnk, rfl, rfl, hm, rfl, hq, c, rfl, hc⟩ := hrel
    by_cases hlt : (n : Int) < k ∧ n < 64
    · obtain ⟨h1, h2⟩ := hlt
      have hc' := hc h2
      have hs := nar_succ h n
      have hd := div_succ h n
      have hmod : h % 2 ^ (n + 1) ≤ h := Nat.mod_le _ _
      have hml : m ≤ h := by rw [hm]; exact Nat.div_le_self _ _
      have hql : q ≤ h := by rw [hq]; exact Nat.mod_le _ _
      have hcl : c < 18446744073709551616 := by
        rw [hc']
        have : 2 ^ n ≤ 2 ^ 63 := Nat.pow_le_pow_right (by decide) (by omega)
        omega
      have hmc : m % 2 * c ≤ h := by
        rw [hm, hc']
        omega
      have hsum : q + m % 2 * c = h % 2 ^ (n + 1) := by rw [hq, hm, hc', hs]
      have HS := Lib.hid hsum
      have HD := Lib.hid (show m / 2 = h / 2 ^ (n + 1) by rw [hm, hd])
      have HC := Lib.hid hc'
      have q1 : ((m : Int)).tmod 2 = ((m % 2 : Nat) : Int) := by rw [Int.tmod_eq_emod_of_nonneg (by omega)]; omega
      have q2 : IntKind.u64.wrap ((m : Int) % 2 * (c : Int)) = ((m % 2 * c : Nat) : Int) := by
        have e : ((m : Int) % 2 * (c : Int)) = ((m % 2 * c : Nat) : Int) := by simp
        rw [e]
        show ((m % 2 * c : Nat) : Int) % 18446744073709551616 = _
        omega
      have Q4 := Lib.hid (show IntKind.u64.wrap ((q : Int) + (m : Int) % 2 * (c : Int)) = ((q + m % 2 * c : Nat) : Int) by
        have e : ((m : Int) % 2 * (c : Int)) = ((m % 2 * c : Nat) : Int) := by simp
        rw [e]
        show ((q : Int) + ((m % 2 * c : Nat) : Int)) % 18446744073709551616 = _
        omega)
      have q3 : IntKind.u64.wrap ((c : Int) * 2) = ((if n + 1 < 64 then 2 ^ (n + 1) else 0 : Nat) : Int) := by
        show ((c : Int) * 2) % 18446744073709551616 = _
        rw [hc']
        by_cases h4 : n + 1 < 64
        · rw [if_pos h4]
          have h5 : 2 ^ (n + 1) ≤ 2 ^ 63 := Nat.pow_le_pow_right (by decide) (by omega)
          have h6 : 2 ^ (n + 1) = 2 ^ n * 2 := Nat.pow_succ 2 n
          omega
        · rw [if_neg h4]
          obtain rfl : n = 63 := by omega
          decide
      have HZ := Lib.hid (show n + 1 < 64 → (if n + 1 < 64 then 2 ^ (n + 1) else 0 : Nat) = 2 ^ (n + 1) from fun h4 => if_pos h4)
      generalize (if n + 1 < 64 then 2 ^ (n + 1) else 0 : Nat) = z at *
      clear hc hc' hs hd hm hq hsum hnk
      go_wp2_with fail
      go_round
      case rel => exact ⟨n + 1, m / 2, h % 2 ^ (n + 1), by omega, by omega, by go_num, by go_num, HD.out, by rw [← HS.out, ← Q4.out], rfl, _, rfl, fun h4 => HZ.out h4⟩
      case measure => simp [intOf]; omega
    · go_wp2_with fail
      all_goals
        go_ret
        refine ⟨Sx.ret_int ?_, rfl⟩
        have hf : (nar h k : Nat) = h % 2 ^ n := by
          rcases hnk with hnk | hnk
          · by_cases hk64 : 64 ≤ k
            · have h64 : n = 64 := by omega
              rw [nar_big hk64, h64, mod_all hh]
            · have e : k = (n : Int) := by omega
              rw [e, nar_in (by omega)]
          · by_cases hk64 : 64 ≤ k
            · omega
            · rw [nar_neg (by omega), hnk]
              simp [Nat.mod_one]
        rw [hf]
        simp
end Mx
end Go.Proofs.YtbhngjhfeejeiaaDoor
namespace Go.Proofs.YtbhngjhfeejeiaaDoor
open Go.RowKit
namespace Mx

def dg (c : UInt8) : Nat := if 97 ≤ c.toNat ∧ c.toNat ≤ 122 then c.toNat - 97 else if 50 ≤ c.toNat ∧ c.toNat ≤ 55 then c.toNat - 24 else 32
theorem dg_le (c : UInt8) : dg c ≤ 32 := by
  unfold dg
  split
  · omega
  · split <;> omega
set_option maxHeartbeats 400000 in
theorem digit_any (c : UInt8) (w : World) : Calls Tryd.prog 65 #[.int .u8 (c.toNat : Int)] w fun e w' => e = .returned (.int .u64 (dg c : Nat)) ∧ w' = w := by
  have hc := c.toNat_lt
  have hw : ∀ n : Int, 0 ≤ n → n < 256 → IntKind.u8.wrap n = n := fun n h0 h1 => by
    show n % 256 = n
    omega
  have hw2 : ∀ n : Int, 0 ≤ n → n < 256 → IntKind.u64.wrap n = n := fun n h0 h1 => by
    show n % 18446744073709551616 = n
    omega
  by_cases h1 : 97 ≤ c.toNat ∧ c.toNat ≤ 122
  · have hx := Lib.hid (show dg c = c.toNat - 97 by unfold dg; rw [if_pos h1])
    have k1 : IntKind.u8.wrap ((c.toNat : Int) - 97) = (c.toNat : Int) - 97 := hw _ (by omega) (by omega)
    have k2 : IntKind.u64.wrap ((c.toNat : Int) - 97) = (c.toNat : Int) - 97 := hw2 _ (by omega) (by omega)
    obtain ⟨a1, a2⟩ := h1
    clear hw hw2
    go_enter Tryd.func65, Tryd.ntmps65
    go_wp2
    go_ret
    exact ⟨Sx.ret_int (by rw [hx.out]; omega), rfl⟩
  · by_cases h2 : 50 ≤ c.toNat ∧ c.toNat ≤ 55
    · have hx := Lib.hid (show dg c = c.toNat - 24 by unfold dg; rw [if_neg h1, if_pos h2])
      have k1 : IntKind.u8.wrap ((c.toNat : Int) - 50) = (c.toNat : Int) - 50 := hw _ (by omega) (by omega)
      have k2 : IntKind.u64.wrap ((c.toNat : Int) - 50) = (c.toNat : Int) - 50 := hw2 _ (by omega) (by omega)
      have k3 : IntKind.u64.wrap ((c.toNat : Int) - 50 + 26) = (c.toNat : Int) - 50 + 26 := hw2 _ (by omega) (by omega)
      obtain ⟨a1, a2⟩ := h2
      have h1' : ¬ (97 : Int) ≤ c.toNat := by omega
      clear hw hw2 h1
      go_enter Tryd.func65, Tryd.ntmps65
      go_wp2
      go_ret
      exact ⟨Sx.ret_int (by rw [hx.out]; omega), rfl⟩
    · have hx := Lib.hid (show dg c = 32 by unfold dg; rw [if_neg h1, if_neg h2])
      have h1 : ¬ (97 : Int) ≤ c.toNat ∨ ¬ (c.toNat : Int) ≤ 122 := by omega
      have h2 : ¬ (50 : Int) ≤ c.toNat ∨ ¬ (c.toNat : Int) ≤ 55 := by omega
      clear hw hw2
      rcases h1 with h1 | h1 <;> rcases h2 with h2 | h2
      all_goals
        go_enter Tryd.func65, Tryd.ntmps65
        go_wp2
        all_goals first
          | (exfalso; omega)
          | (go_ret; exact ⟨Sx.ret_int (by rw [hx.out]; rfl), rfl⟩)

/-- a key's number -/
def kv (l : List UInt8) : Nat := l.foldl (fun h c => h * 32 + dg c) 0
def kok (l : List UInt8) : Bool := decide (l.length = 13) && l.all (fun c => decide (dg c ≤ 31)) && (match l with
  | [] => true
  | c :: _ => decide (dg c ≤ 15))
def KV (l : List UInt8) : Value := if kok l = true then .tuple #[.int .u64 (kv l : Nat), .bool true] else .tuple #[.int .u64 0, .bool false]
theorem kv_snoc (l : List UInt8) (c : UInt8) : kv (l ++ [c]) = kv l * 32 + dg c := by simp [kv]
theorem kv_take {s : ByteArray} {k : Nat} (h : k < s.size) : kv (s.data.toList.take (k + 1)) = kv (s.data.toList.take k) * 32 + dg s[k] := by
  have e : s.data.toList.take (k + 1) = s.data.toList.take k ++ [s[k]] := by
    rw [List.take_succ_eq_append_getElem (by have := Lib.size_eq s; omega)]
    rfl
  rw [e, kv_snoc]
theorem k_at {s : ByteArray} {k : Nat} (h : k < s.size) : s.data.toList[k]? = some s[k] := by
  rw [List.getElem?_eq_getElem (by have := Lib.size_eq s; omega)]
  rfl
theorem kok_len {l : List UInt8} (h : l.length ≠ 13) : kok l = false := by simp [kok, h]
theorem kok_bad {s : ByteArray} {k : Nat} (h : k < s.size) (hd : 31 < dg s[k]) : kok s.data.toList = false := by
  have hm : s[k] ∈ s.data.toList := List.mem_of_getElem? (k_at h)
  have : s.data.toList.all (fun c => decide (dg c ≤ 31)) = false := by
    rw [List.all_eq_false]
    exact ⟨_, hm, by simp; omega⟩
  simp [kok, this]
theorem kok_head {s : ByteArray} (h : 0 < s.size) (hd : 15 < dg s[0]) : kok s.data.toList = false := by
  have h0 := k_at h
  cases hl : s.data.toList with
  | nil => rw [hl] at h0; simp at h0
  | cons c r =>
    rw [hl] at h0
    simp at h0
    rw [← h0] at hd
    simp only [kok]
    rw [decide_eq_false (show ¬ dg c ≤ 15 by omega), Bool.and_false]
theorem kok_good {s : ByteArray} (h : s.size = 13) (hd : ∀ k (hk : k < s.size), dg s[k] ≤ 31) (h0 : ∀ hk : 0 < s.size, dg s[0] ≤ 15) : kok s.data.toList = true := by
  have hl : s.data.toList.length = 13 := by rw [← Lib.size_eq]; exact h
  have ha : s.data.toList.all (fun c => decide (dg c ≤ 31)) = true := by
    rw [List.all_eq_true]
    intro c hc
    obtain ⟨k, hk⟩ := List.mem_iff_getElem?.1 hc
    have hkl := (List.getElem?_eq_some_iff.1 hk).1
    have hks : k < s.size := by omega
    rw [k_at hks] at hk
    cases hk
    exact decide_eq_true (hd k hks)
  have hh := k_at (s := s) (k := 0) (by omega)
  have h15 := h0 (by omega)
  cases hc : s.data.toList with
  | nil => rw [hc] at hl; cases hl
  | cons c r =>
    rw [hc] at hl ha hh
    simp at hh
    rw [← hh] at h15
    simp only [kok, hl, ha, h15]
    decide
end Mx
end Go.Proofs.YtbhngjhfeejeiaaDoor
namespace Go.Proofs.YtbhngjhfeejeiaaDoor
open Go.RowKit
namespace Mx

def BB : Nat → Nat
  | 0 => 1
  | i + 1 => 16 * 32 ^ i
theorem BB_succ {m d i : Nat} (h : m < BB i) (hd : d ≤ 31) (h0 : i = 0 → d ≤ 15) : m * 32 + d < BB (i + 1) := by
  cases i with
  | zero =>
    simp only [BB] at h ⊢
    have := h0 rfl
    omega
  | succ i =>
    simp only [BB] at h ⊢
    rw [Nat.pow_succ]
    omega
theorem BB_le : ∀ i : Fin 14, BB i.1 ≤ 18446744073709551616 := by decide +kernel
set_option maxHeartbeats 1000000 in
theorem parser_any (s : ByteArray) (w : World) (hs : s.size ≤ 9223372036854775807) :
    Calls Tryd.prog 51 #[.string s] w fun e w' => e = .returned (KV s.data.toList) ∧ w' = w := by
  go_enter Tryd.func51, Tryd.ntmps51
  go_wp2_with fail
  go_loop [4, 5] (fun x i => ∃ (k m : Nat), k ≤ 13 ∧ k ≤ s.size ∧ i = .int .i64 k ∧ x = .int .u64 m ∧ m = kv (s.data.toList.take k) ∧ m < BB k ∧ (∀ (j : Nat) (hj : j < s.size), j < k → dg s[j] ≤ 31 ∧ (j = 0 → dg s[j] ≤ 15))) (fun _ i => 13 - (intOf i).toNat)
  case atStart => exact ⟨0, 0, by omega, by omega, rfl, rfl, rfl, by decide, by omega⟩
  case round =>
    obtain ⟨k, m, hk, hks, rfl, rfl, hm, hb, hall⟩ := hrel
    have HM := Lib.hid hm
    have HALL := Lib.hid hall
    clear hm hall
    by_cases hlt : k < s.size
    · by_cases h13 : k < 13
      · have hdle := dg_le s[k]
        have HB := Lib.hid hb
        have hbd := BB_le ⟨k + 1, by omega⟩
        by_cases hd : 31 < dg s[k]
        · have hx := Lib.hid (show KV s.data.toList = .tuple #[.int .u64 0, .bool false] by unfold KV; rw [kok_bad hlt hd]; rfl)
          have hd' : (31 : Int) < (dg s[k] : Int) := by omega
          clear hb hbd
          go_wp2_with (go_at_call 65; refine (digit_any _ _).mono ?_; rintro e w' ⟨rfl, rfl⟩)
          go_ret2
          exact ⟨Eq.trans (by rfl) (congrArg Ending.returned hx.out).symm, rfl⟩
        · have hd' : ¬ (31 : Int) < (dg s[k] : Int) := by omega
          by_cases hz : k = 0 ∧ 15 < dg s[k]
          · obtain ⟨rfl, h15⟩ := hz
            have hx := Lib.hid (show KV s.data.toList = .tuple #[.int .u64 0, .bool false] by unfold KV; rw [kok_head hlt h15]; rfl)
            have h15' : (15 : Int) < (dg s[0] : Int) := by omega
            clear hb hbd
            go_wp2_with (go_at_call 65; refine (digit_any _ _).mono ?_; rintro e w' ⟨rfl, rfl⟩)
            go_ret2
            exact ⟨Eq.trans (by rfl) (congrArg Ending.returned hx.out).symm, rfl⟩
          · have hn := BB_succ (m := m) (d := dg s[k]) (i := k) hb (by omega) (fun h0 => by omega)
            have HN := Lib.hid hn
            have hn2 : m * 32 + dg s[k] < 18446744073709551616 := Nat.lt_of_lt_of_le hn hbd
            have HT := Lib.hid (kv_take hlt)
            have k1 : IntKind.u64.wrap ((m : Int) * 32) = (m : Int) * 32 := by
              show ((m : Int) * 32) % 18446744073709551616 = _
              omega
            have k2 : IntKind.u64.wrap ((m : Int) * 32 + (dg s[k] : Int)) = ((m * 32 + dg s[k] : Nat) : Int) := by
              show ((m : Int) * 32 + (dg s[k] : Int)) % 18446744073709551616 = _
              omega
            have HA := Lib.hid (show ∀ (j : Nat) (hj : j < s.size), j < k + 1 → dg s[j] ≤ 31 ∧ (j = 0 → dg s[j] ≤ 15) from fun j hj hjk => by
              by_cases h : j < k
              · exact HALL.out j hj h
              · obtain rfl : j = k := by omega
                exact ⟨by omega, fun h0 => by omega⟩)
            have hcs : ((k : Int) == 0) = false ∨ (((k : Int) == 0) = true ∧ ¬ (15 : Int) < (dg s[k] : Int)) := by
              by_cases h0 : k = 0
              · exact .inr ⟨by simp [h0], by omega⟩
              · exact .inl (by rw [beq_eq_false_iff_ne]; omega)
            clear hb hbd hn hn2 hz hd hdle
            rcases hcs with hcs | ⟨hcs, hcs2⟩
            all_goals
              go_wp2_with (go_at_call 65; refine (digit_any _ _).mono ?_; rintro e w' ⟨rfl, rfl⟩)
              go_round
              case rel => exact ⟨k + 1, m * 32 + dg s[k], by omega, by omega, by go_num, by go_num, by rw [HT.out, HM.out], HN.out, HA.out⟩
              case measure => simp [intOf]; omega
      · have hne : s.size ≠ 13 := by omega
        have hx := Lib.hid (show KV s.data.toList = .tuple #[.int .u64 0, .bool false] by unfold KV; rw [kok_len (by rw [← Lib.size_eq]; exact hne)]; rfl)
        have j1 : ((s.size : Int) == 13) = false := by rw [beq_eq_false_iff_ne]; omega
        clear hb
        go_wp2_with fail
        go_ret2
        exact ⟨Eq.trans (by rfl) (congrArg Ending.returned hx.out).symm, rfl⟩
    · by_cases hne : s.size = 13
      · have hx := Lib.hid (show KV s.data.toList = .tuple #[.int .u64 m, .bool true] by
          unfold KV
          rw [kok_good hne (fun j hj => (HALL.out j hj (by omega)).1) (fun h0 => (HALL.out 0 h0 (by omega)).2 rfl)]
          have := HM.out
          rw [List.take_of_length_le (by rw [← Lib.size_eq]; omega)] at this
          rw [this]
          rfl)
        have j1 : ((s.size : Int) == 13) = true := by rw [beq_iff_eq]; omega
        clear hb hne
        go_wp2_with fail
        go_ret2
        exact ⟨Eq.trans (by rfl) (congrArg Ending.returned hx.out).symm, rfl⟩
      · have hx := Lib.hid (show KV s.data.toList = .tuple #[.int .u64 0, .bool false] by unfold KV; rw [kok_len (by rw [← Lib.size_eq]; exact hne)]; rfl)
        have j1 : ((s.size : Int) == 13) = false := by rw [beq_eq_false_iff_ne]; omega
        clear hb
        go_wp2_with fail
        go_ret2
        exact ⟨Eq.trans (by rfl) (congrArg Ending.returned hx.out).symm, rfl⟩
end Mx
end Go.Proofs.YtbhngjhfeejeiaaDoor
namespace Go.Proofs.YtbhngjhfeejeiaaDoor
open Go.RowKit
namespace Mx

def letters : ByteArray := ⟨#[97, 98, 99, 100, 101, 102, 103, 104, 105, 106, 107, 108, 109, 110, 111, 112, 113, 114, 115, 116, 117, 118, 119, 120, 121, 122, 50, 51, 52, 53, 54, 55]⟩
def ix (c : UInt8) : Int := if dg c ≤ 31 then (dg c : Int) else -1
theorem ix_all : ∀ n : Fin 256, Lib.indexByte letters.data.toList (UInt8.ofNat n.1) = ix (UInt8.ofNat n.1) := by decide +kernel
theorem ix_eq (c : UInt8) : Lib.indexByte letters.data.toList c = ix c := by
  have h := ix_all ⟨c.toNat, c.toNat_lt⟩
  simpa using h
theorem index_any (c : UInt8) (w : World) : Calls Tryd.prog 46 #[.string ⟨#[97, 98, 99, 100, 101, 102, 103, 104, 105, 106, 107, 108, 109, 110, 111, 112, 113, 114, 115, 116, 117, 118, 119, 120, 121, 122, 50, 51, 52, 53, 54, 55]⟩, .int .u8 (c.toNat : Int)] w fun e w' => e = .returned (.int .i64 (ix c)) ∧ w' = w := by
  refine (Tryd.strings_IndexByte letters (c.toNat : Int) w).mono ?_
  rintro e w' ⟨rfl, rfl⟩
  have e1 : ((c.toNat : Int)).toNat.toUInt8 = c := by simp
  rw [e1, ix_eq]
  exact ⟨rfl, rfl⟩
theorem or_shift {m d : Nat} (hd : d ≤ 31) (h : m * 32 + d < 18446744073709551616) : bits .or .u64 ((m * 32 : Nat) : Int) (d : Int) = ((m * 32 + d : Nat) : Int) := by
  rw [u64_or_nat _ _ (by omega) (by omega)]
  have e := Nat.shiftLeft_add_eq_or_of_lt (a := m) (b := d) (i := 5) (by omega)
  rw [Nat.shiftLeft_eq] at e
  rw [← e]
set_option maxHeartbeats 1000000 in
theorem parse_any (s : ByteArray) (w : World) :
    Calls Tryd.prog 27 #[.string s] w fun e w' => e = .returned (KV s.data.toList) ∧ w' = w := by
  by_cases hne : s.size = 13
  · have j0 : ((s.size : Int) == 13) = true := by rw [beq_iff_eq]; omega
    have j1 : ((s.size : Int) != 13) = false := by rw [bne, j0]; rfl
    have HNE := Lib.hid hne
    have hs13 : s.size ≤ 13 := by omega
    clear hne
    go_enter Tryd.func27, Tryd.ntmps27
    go_wp2_with fail
    go_loop [4, 12] (fun x i => ∃ (k m : Nat), k ≤ s.size ∧ i = .int .i64 k ∧ x = .int .u64 m ∧ m = kv (s.data.toList.take k) ∧ m < BB k ∧ (∀ (j : Nat) (hj : j < s.size), j < k → dg s[j] ≤ 31 ∧ (j = 0 → dg s[j] ≤ 15))) (fun _ i => s.size - (intOf i).toNat)
    case atStart => exact ⟨0, 0, by omega, rfl, rfl, rfl, by decide, by omega⟩
    case round =>
      obtain ⟨k, m, hks, rfl, rfl, hm, hb, hall⟩ := hrel
      have HM := Lib.hid hm
      have HALL := Lib.hid hall
      clear hm hall
      by_cases hlt : k < s.size
      · have hdle := dg_le s[k]
        have hbd := BB_le ⟨k + 1, by omega⟩
        by_cases hd : 31 < dg s[k]
        · have hx := Lib.hid (show KV s.data.toList = .tuple #[.int .u64 0, .bool false] by unfold KV; rw [kok_bad hlt hd]; rfl)
          have hi : ix s[k] = -1 := by unfold ix; rw [if_neg (by omega)]
          have hcall := index_any s[k] w
          rw [hi] at hcall
          clear hb hbd hd hdle hi
          go_wp2_with (go_at_call 46; refine hcall.mono ?_; rintro e w' ⟨rfl, rfl⟩)
          go_ret2
          exact ⟨Eq.trans (by rfl) (congrArg Ending.returned hx.out).symm, rfl⟩
        · have hi : ix s[k] = (dg s[k] : Int) := by unfold ix; rw [if_pos (by omega)]
          have hcall := index_any s[k] w
          rw [hi] at hcall
          have hd' : ¬ (dg s[k] : Int) < 0 := by omega
          by_cases hz : k = 0 ∧ 15 < dg s[k]
          · obtain ⟨rfl, h15⟩ := hz
            have hx := Lib.hid (show KV s.data.toList = .tuple #[.int .u64 0, .bool false] by unfold KV; rw [kok_head hlt h15]; rfl)
            have h15' : (15 : Int) < (dg s[0] : Int) := by omega
            clear hb hbd hi
            go_wp2_with (go_at_call 46; refine hcall.mono ?_; rintro e w' ⟨rfl, rfl⟩)
            go_ret2
            exact ⟨Eq.trans (by rfl) (congrArg Ending.returned hx.out).symm, rfl⟩
          · have hn := BB_succ (m := m) (d := dg s[k]) (i := k) hb (by omega) (fun h0 => by omega)
            have HN := Lib.hid hn
            have hn2 : m * 32 + dg s[k] < 18446744073709551616 := Nat.lt_of_lt_of_le hn hbd
            have HT := Lib.hid (kv_take hlt)
            have k1 : IntKind.u64.wrap ((m : Int) * 32) = ((m * 32 : Nat) : Int) := by
              show ((m : Int) * 32) % 18446744073709551616 = _
              omega
            have k2 : IntKind.u64.wrap (dg s[k] : Int) = (dg s[k] : Int) := by
              show (dg s[k] : Int) % 18446744073709551616 = _
              omega
            have HO := Lib.hid (or_shift (show dg s[k] ≤ 31 by omega) hn2)
            have HA := Lib.hid (show ∀ (j : Nat) (hj : j < s.size), j < k + 1 → dg s[j] ≤ 31 ∧ (j = 0 → dg s[j] ≤ 15) from fun j hj hjk => by
              by_cases h : j < k
              · exact HALL.out j hj h
              · obtain rfl : j = k := by omega
                exact ⟨by omega, fun h0 => by omega⟩)
            have hcs : ((k : Int) == 0) = false ∨ (((k : Int) == 0) = true ∧ ¬ (15 : Int) < (dg s[k] : Int)) := by
              by_cases h0 : k = 0
              · exact .inr ⟨by simp [h0], by omega⟩
              · exact .inl (by rw [beq_eq_false_iff_ne]; omega)
            clear hb hbd hn hn2 hz hd hdle hi
            rcases hcs with hcs | ⟨hcs, hcs2⟩
            all_goals
              go_wp2_with (go_at_call 46; refine hcall.mono ?_; rintro e w' ⟨rfl, rfl⟩)
              go_round
              case rel => exact ⟨k + 1, m * 32 + dg s[k], by omega, by go_num, by rw [← HO.out]; simp, by rw [HT.out, HM.out], HN.out, HA.out⟩
              case measure => simp [intOf]; omega
      · have hx := Lib.hid (show KV s.data.toList = .tuple #[.int .u64 m, .bool true] by
          unfold KV
          rw [kok_good HNE.out (fun j hj => (HALL.out j hj (by omega)).1) (fun h0 => (HALL.out 0 h0 (by omega)).2 rfl)]
          have := HM.out
          rw [List.take_of_length_le (by rw [← Lib.size_eq]; omega)] at this
          rw [this]
          rfl)
        clear hb
        go_wp2_with fail
        go_ret2
        exact ⟨Eq.trans (by rfl) (congrArg Ending.returned hx.out).symm, rfl⟩
  · have hx := Lib.hid (show KV s.data.toList = .tuple #[.int .u64 0, .bool false] by unfold KV; rw [kok_len (by rw [← Lib.size_eq]; exact hne)]; rfl)
    have j0 : ((s.size : Int) == 13) = false := by rw [beq_eq_false_iff_ne]; omega
    have j1 : ((s.size : Int) != 13) = true := by rw [bne, j0]; rfl
    go_enter Tryd.func27, Tryd.ntmps27
    go_wp2_with fail
    go_ret2
    exact ⟨Eq.trans (by rfl) (congrArg Ending.returned hx.out).symm, rfl⟩
end Mx
end Go.Proofs.YtbhngjhfeejeiaaDoor
namespace Go.Proofs.YtbhngjhfeejeiaaDoor
open Go.RowKit
namespace Mx

def lett (n : Nat) : UInt8 := if 25 < n then UInt8.ofNat (n + 24) else UInt8.ofNat (n + 97)
/-- the lowest letters of a number, the highest of them ahead -/
def tls (h : Nat) : Nat → List UInt8
  | 0 => []
  | i + 1 => lett (h / 32 ^ i % 32) :: tls h i
theorem tls_len (h : Nat) : ∀ i, (tls h i).length = i
  | 0 => rfl
  | i + 1 => by simp [tls, tls_len h i]
theorem lett_lo {n : Nat} (h : ¬ 25 < n) : ((lett n).toNat : Int) = n + 97 := by
  unfold lett
  rw [if_neg h, UInt8.toNat_ofNat_of_lt' (by show n + 97 < 256; omega)]
  simp
theorem lett_hi {n : Nat} (h : 25 < n) (h2 : n < 32) : ((lett n).toNat : Int) = n + 24 := by
  unfold lett
  rw [if_pos h, UInt8.toNat_ofNat_of_lt' (by show n + 24 < 256; omega)]
  simp
theorem conv1 (W : World) (n : Int) (c : UInt8) (h : n = (c.toNat : Int)) : (convert 66 9 (.slice (some ⟨W.heap.size, 0, none⟩) 1 1)).run Tryd.prog (W.alloc (.cells #[.int .u8 n] 5)) = .ok (.string ⟨#[c]⟩) (W.alloc (.cells #[.int .u8 n] 5)) := by
  subst h
  refine run_convert_bytes_back _ 66 9 5 ⟨W.heap.size, 0, none⟩ 1 [c] Tryd.underlying66 Tryd.underlying5 Tryd.underlying9 (fun j hj => ?_)
  obtain rfl : j = 0 := by simpa using hj
  simp [Addr.add]
theorem tls_next {h k m : Nat} {t : ByteArray} (hm : m = h / 32 ^ k) (ht : t = ⟨(tls h k).toArray⟩) : (⟨#[lett (m % 32)]⟩ ++ t : ByteArray) = ⟨(tls h (k + 1)).toArray⟩ := by
  subst hm ht
  apply ByteArray.ext
  apply Array.toList_inj.1
  simp [tls, ByteArray.data_append]
theorem div_next {h k m : Nat} (hm : m = h / 32 ^ k) : m / 32 = h / 32 ^ (k + 1) := by rw [hm, Nat.pow_succ, Nat.div_div_eq_div_mul]
set_option maxHeartbeats 2000000 in
set_option maxRecDepth 100000 in
theorem textr_any (h : Nat) (w : World) (hh : h < 18446744073709551616) :
    Calls Tryd.prog 24 #[.int .u64 h] w fun e w' => e = .returned (.string ⟨(tls h 13).toArray⟩) ∧ Below w.heap.size w w' := by
  have HH := Lib.hid hh
  clear hh
  go_enter Tryd.func24, Tryd.ntmps24
  go_wp2_with fail
  go_loopw [0, 3, 4] (fun x o i wr => ∃ (k m : Nat) (t : ByteArray), k ≤ 13 ∧ i = .int .i64 k ∧ x = .int .u64 m ∧ m = h / 32 ^ k ∧ o = .string t ∧ t = ⟨(tls h k).toArray⟩ ∧ Below w.heap.size w wr) (fun _ _ i _ => 13 - (intOf i).toNat)
  case atStart => exact ⟨0, h, _, by omega, rfl, rfl, by simp, rfl, rfl, Below.refl _ _⟩
  case round =>
    obtain ⟨k, m, t, hk, rfl, rfl, hm, rfl, ht, hb⟩ := hrel
    have HT := Lib.hid ht
    have HM := Lib.hid hm
    have hts : t.size = k := by rw [ht, Lib.size_eq]; exact tls_len h k
    have hts2 : t.size ≤ 13 := by omega
    clear hm ht hts
    by_cases hlt : k < 13
    · have hm32 : m % 32 < 32 := Nat.mod_lt _ (by decide)
      have q1 : IntKind.u64.wrap ((m : Int) / 32) = (m : Int) / 32 := by
        have h1 := HH.out
        have h2 : m ≤ h := by rw [HM.out]; exact Nat.div_le_self _ _
        show ((m : Int) / 32) % 18446744073709551616 = _
        omega
      have q2 : ((m : Int)).tdiv 32 = (m : Int) / 32 := Int.tdiv_eq_ediv_of_nonneg (by omega)
      by_cases hd : 25 < m % 32
      · have hl := lett_hi hd hm32
        have hd' : (25 : Int) < (m : Int) % 32 := by omega
        have hcv := fun W => conv1 W ((m : Int) % 32 - 26 + 50) (lett (m % 32)) (by rw [hl]; omega)
        have hadd : ∀ W, (Op.stringOp .add ⟨#[lett (m % 32)]⟩ t).run Tryd.prog W = .ok (.string (⟨#[lett (m % 32)]⟩ ++ t)) W := fun W => run_string_add_sum _ _ _ (by show 1 + _ ≤ _; omega)
        have HN := Lib.hid (tls_next HM.out HT.out)
        have HD := Lib.hid (div_next HM.out)
        have HB := Lib.hid (hb.alloc hb.size (.cells #[.int .u8 ((m : Int) % 32 - 26 + 50)] 5))
        clear hd hl
        go_wp2_with fail
        go_roundw
        case rel => exact ⟨k + 1, m / 32, _, by omega, by go_num, by go_num, HD.out, rfl, HN.out, HB.out⟩
        case measure => simp [intOf]; omega
      · have hl := lett_lo hd
        have hd' : ¬ (25 : Int) < (m : Int) % 32 := by omega
        have hcv := fun W => conv1 W ((m : Int) % 32 + 97) (lett (m % 32)) (by rw [hl]; omega)
        have hadd : ∀ W, (Op.stringOp .add ⟨#[lett (m % 32)]⟩ t).run Tryd.prog W = .ok (.string (⟨#[lett (m % 32)]⟩ ++ t)) W := fun W => run_string_add_sum _ _ _ (by show 1 + _ ≤ _; omega)
        have HN := Lib.hid (tls_next HM.out HT.out)
        have HD := Lib.hid (div_next HM.out)
        have HB := Lib.hid (hb.alloc hb.size (.cells #[.int .u8 ((m : Int) % 32 + 97)] 5))
        clear hd hl
        go_wp2_with fail
        go_roundw
        case rel => exact ⟨k + 1, m / 32, _, by omega, by go_num, by go_num, HD.out, rfl, HN.out, HB.out⟩
        case measure => simp [intOf]; omega
    · obtain rfl : k = 13 := by omega
      have HT2 := HT
      go_wp2_with fail
      go_ret
      exact ⟨Sx.ret_str HT.out, hb⟩
end Mx
end Go.Proofs.YtbhngjhfeejeiaaDoor
namespace Go.Proofs.YtbhngjhfeejeiaaDoor
open Go.RowKit
namespace Mx

/-- thirteen bytes, of which the last k are the letters -/
def b13 (h k : Nat) : List Value := (List.replicate (13 - k) (Value.int .u8 0)) ++ (tls h k).map fun c => Value.int .u8 (c.toNat : Int)
theorem b13_len (h k : Nat) (hk : k ≤ 13) : (b13 h k).length = 13 := by simp [b13, tls_len]; omega
theorem b13_next (h k : Nat) (hk : k < 13) : (b13 h k).set (12 - k) (.int .u8 ((lett (h / 32 ^ k % 32)).toNat : Int)) = b13 h (k + 1) := by
  unfold b13
  have e : 13 - k = 12 - k + 1 := by omega
  rw [e, List.replicate_succ', List.append_assoc, List.set_append_right _ _ (by simp), show 13 - (k + 1) = 12 - k by omega]
  simp [tls]
/-- block b holds the thirteen bytes -/
structure B13 (W : World) (b : Nat) (xs : List Value) : Prop where
  lt : b < W.heap.size
  len : xs.length = 13
  cell : ∀ j v, xs[j]? = some v → W.cell? ⟨b, j, none⟩ = some v
  fz : ∀ j, W.frozen? ⟨b, j, none⟩ = false
theorem B13.set {W : World} {b : Nat} {xs : List Value} (h : B13 W b xs) (j : Nat) (u : Value) : B13 (W.setCell ⟨b, j, none⟩ u) b (xs.set j u) := by
  refine ⟨by simpa [World.setCell] using h.lt, by simpa using h.len, fun i v hi => ?_, fun i => by rw [World.frozen?_setCell]; exact h.fz i⟩
  rw [List.getElem?_set] at hi
  by_cases e : j = i
  · subst e
    rw [if_pos rfl] at hi
    split at hi
    · rename_i hl
      cases hi
      exact World.cell?_setCell_same _ _ _ (h.cell j xs[j] (List.getElem?_eq_getElem hl))
    · cases hi
  · rw [if_neg e] at hi
    have hne : (⟨b, i, none⟩ : Addr) ≠ ⟨b, j, none⟩ := by intro hh; cases hh; exact e rfl
    rw [World.cell?_setCell_other _ _ _ _ (by first | exact hne | exact hne.symm)]
    exact h.cell i v hi
theorem let_all : ∀ n : Fin 32, letters.data.toList[n.1]? = some (lett n.1) := by decide +kernel
theorem lett_ix {n : Nat} (h : n < 32) : ∃ hn : n < letters.size, letters[n]'hn = lett n := by
  have hl : letters.size = 32 := by decide +kernel
  refine ⟨by omega, ?_⟩
  have := let_all ⟨n, h⟩
  rw [List.getElem?_eq_getElem (by rw [← Lib.size_eq]; omega)] at this
  exact Option.some.inj this
theorem B13.new (W : World) (h : Nat) : B13 (W.alloc (.cells (Array.replicate 13 (.int .u8 0)) 75)) W.heap.size (b13 h 0) := by
  refine ⟨by simp, by simp [b13, tls], fun j v hj => ?_, fun j => by go_simp⟩
  have e : b13 h 0 = List.replicate 13 (.int .u8 0) := by simp [b13, tls]
  rw [e] at hj
  have hl := (List.getElem?_eq_some_iff.1 hj).1
  simp at hl
  rw [List.getElem?_replicate, if_pos hl] at hj
  cases hj
  simp [World.cell?_alloc_new, hl]
set_option maxHeartbeats 2000000 in
set_option maxRecDepth 100000 in
theorem text_any (h : Nat) (w : World) (hh : h < 18446744073709551616) :
    Calls Tryd.prog 21 #[.int .u64 h] w fun e w' => e = .returned (.string ⟨(tls h 13).toArray⟩) ∧ Below w.heap.size w w' := by
  have HH := Lib.hid hh
  clear hh
  go_enter Tryd.func21, Tryd.ntmps21
  go_wp2_with fail
  have hB0 := (Below.refl w.heap.size w).alloc (Nat.le_refl _) (.cells #[.int .u8 0, .int .u8 0, .int .u8 0, .int .u8 0, .int .u8 0, .int .u8 0, .int .u8 0, .int .u8 0, .int .u8 0, .int .u8 0, .int .u8 0, .int .u8 0, .int .u8 0] 75)
  have hN0 : B13 (w.alloc (.cells #[.int .u8 0, .int .u8 0, .int .u8 0, .int .u8 0, .int .u8 0, .int .u8 0, .int .u8 0, .int .u8 0, .int .u8 0, .int .u8 0, .int .u8 0, .int .u8 0, .int .u8 0] 75)) w.heap.size (b13 h 0) := B13.new w h
  go_loopw [0, 4, 5] (fun x _ i wr => ∃ (k m : Nat), k ≤ 13 ∧ i = .int .i64 k ∧ x = .int .u64 m ∧ m = h / 32 ^ k ∧ B13 wr w.heap.size (b13 h k) ∧ Below w.heap.size w wr) (fun _ _ i _ => 13 - (intOf i).toNat)
  case atStart => exact ⟨0, h, by omega, rfl, rfl, by simp, hN0, hB0⟩
  case round =>
    obtain ⟨k, m, hk, rfl, rfl, hm, hB, hb⟩ := hrel
    clear hB0 hN0
    have HM := Lib.hid hm
    have hml : m < 18446744073709551616 := by have := HH.out; have h2 : m ≤ h := by rw [hm]; exact Nat.div_le_self _ _
                                              omega
    clear hm
    have hB' := hB
    obtain ⟨blt, blen, bcell, bfz⟩ := hB'
    by_cases hlt : k < 13
    · obtain ⟨j, hj⟩ : ∃ j, j + k = 12 := ⟨12 - k, by omega⟩
      have q1 : (12 : Int) - (k : Int) = (j : Int) := by omega
      have hj13 : j < 13 := by omega
      have hm32 : m % 32 < 32 := Nat.mod_lt _ (by decide)
      have kand : bits .and .u64 (m : Int) 31 = (m : Int) % 32 := by
        have := u64_and_nat m 31 hml (by decide)
        rw [show ((31 : Nat) : Int) = 31 from rfl] at this
        rw [this, show (31 : Nat) = 2 ^ 5 - 1 from rfl, Nat.and_two_pow_sub_one_eq_mod]
        omega
      have hidx : ∀ W : World, (Instr.index 9 (.string ⟨#[97, 98, 99, 100, 101, 102, 103, 104, 105, 106, 107, 108, 109, 110, 111, 112, 113, 114, 115, 116, 117, 118, 119, 120, 121, 122, 50, 51, 52, 53, 54, 55]⟩) (.int .u64 ((m : Int) % 32))).run Tryd.prog W = .ok (.int .u8 ((lett (m % 32)).toNat : Int)) W := fun W => by
        obtain ⟨hn, he⟩ := lett_ix hm32
        have e1 : ((m : Int) % 32) = ((m % 32 : Nat) : Int) := by omega
        rw [e1, ← he]
        have := run_index_string (P := Tryd.prog) (w := W) 9 letters .u64 ((m % 32 : Nat) : Int) Tryd.underlying9
        rw [dif_pos ⟨by omega, by omega⟩] at this
        simp only [Int.toNat_natCast] at this
        exact this
      have hcl : wr.cell? ⟨w.heap.size, j, none⟩ = some (.int .u8 0) := bcell j _ (by
        unfold b13
        rw [List.getElem?_append_left (by simp; omega), List.getElem?_replicate, if_pos (by omega)])
      have HS := Lib.hid (show B13 (wr.setCell ⟨w.heap.size, j, none⟩ (.int .u8 ((lett (m % 32)).toNat : Int))) w.heap.size (b13 h (k + 1)) by
        have := hB.set j (.int .u8 ((lett (m % 32)).toNat : Int))
        rw [← b13_next h k hlt, show 12 - k = j by omega, ← HM.out]
        exact this)
      have HD := Lib.hid (div_next HM.out)
      have HB := Lib.hid (hb.setCell (p := ⟨w.heap.size, j, none⟩) (Nat.le_refl _) (.int .u8 ((lett (m % 32)).toNat : Int)))
      have q2 : IntKind.u64.wrap ((m : Int) / 32) = (m : Int) / 32 := by
        show ((m : Int) / 32) % 18446744073709551616 = _
        omega
      clear hB bcell blen hj hm32
      go_wp2_with fail
      go_roundw
      case rel => exact ⟨k + 1, m / 32, by omega, by go_num, by go_num, HD.out, HS.out, HB.out⟩
      case measure => simp [intOf]; omega
    · obtain rfl : k = 13 := by omega
      have hcv : (convert 66 9 (.slice (some ⟨w.heap.size, 0, none⟩) 13 13)).run Tryd.prog wr = .ok (.string ⟨(tls h 13).toArray⟩) wr := by
        have := run_convert_bytes_back wr 66 9 5 ⟨w.heap.size, 0, none⟩ 13 (tls h 13) Tryd.underlying66 Tryd.underlying5 Tryd.underlying9 (fun j hj => by
          rw [tls_len] at hj
          have hx : (b13 h 13)[j]? = some (.int .u8 ((tls h 13)[j]'(by rw [tls_len]; exact hj)).toNat) := by
            unfold b13
            rw [Nat.sub_self, List.replicate_zero, List.nil_append, List.getElem?_map, List.getElem?_eq_getElem (by rw [tls_len]; exact hj)]
            rfl
          have := bcell j _ hx
          have ea : (⟨w.heap.size, 0, none⟩ : Addr).add j = ⟨w.heap.size, j, none⟩ := by unfold Addr.add; split <;> simp_all
          rw [ea, this])
        rw [tls_len] at this
        exact this
      clear hB bcell blen
      go_wp2_with fail
      go_ret
      exact ⟨rfl, hb⟩
end Mx
end Go.Proofs.YtbhngjhfeejeiaaDoor
