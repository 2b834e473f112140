/-
  Walks: the number of bytes, of both texts (layer 2).
-/
import Derived.Test.YtbhngjhfeejeiaaDoorSxG
import Derived.Laws.Closers25b
import Derived.IntWalk
namespace Go.Proofs.YtbhngjhfeejeiaaDoor
open Go.RowKit
namespace Mx

/-- one byte more -/
def st (h c : Int) : Int :=
  let a := bits .xor .u64 h c
  let b := bits .xor .u64 a (IntKind.u64.wrap (a * 8192))
  let d := bits .xor .u64 b (b / 128)
  let e := bits .xor .u64 d (IntKind.u64.wrap (d * 131072))
  IntKind.u64.wrap (e + 15111065706836454659)
def mixL (h : Int) (l : List UInt8) : Int := l.foldl (fun h c => st h (c.toNat : Int)) h
theorem mix_snoc (h : Int) (s : ByteArray) (k : Nat) (hk : k < s.size) : mixL h (s.data.toList.take (k + 1)) = st (mixL h (s.data.toList.take k)) (s[k].toNat : Int) := by
  have e : s.data.toList.take (k + 1) = s.data.toList.take k ++ [s[k]] := by
    rw [List.take_succ_eq_append_getElem (by have := Lib.size_eq s; omega)]
    rfl
  rw [e]
  simp [mixL]

set_option maxHeartbeats 1000000 in
theorem add_any (h : Int) (s : ByteArray) (w : World) (hs : s.size ≤ 9223372036854775807) :
    Calls Tryd.prog 42 #[.int .u64 h, .string s] w fun e w' => e = .returned (.int .u64 (mixL h s.data.toList)) ∧ w' = w := by
  go_enter Tryd.func42, Tryd.ntmps42
  go_wp2_with fail
  go_loop [0, 8] (fun x i => ∃ k : Nat, k ≤ s.size ∧ i = .int .i64 k ∧ x = .int .u64 (mixL h (s.data.toList.take k))) (fun _ i => s.size - (intOf i).toNat)
  case atStart => exact ⟨0, Nat.zero_le _, rfl, rfl⟩
  case round =>
    obtain ⟨k, hk, rfl, rfl⟩ := hrel
    by_cases hlt : k < s.size
    · have HS := Lib.hid (mix_snoc h s k hlt)
      obtain ⟨m, hm⟩ : ∃ m, m = mixL h (s.data.toList.take k) := ⟨_, rfl⟩
      rw [← hm] at HS ⊢
      clear hm
      have k1 : IntKind.u64.wrap (s[k].toNat : Int) = (s[k].toNat : Int) := by
        have := s[k].toNat_lt
        show (s[k].toNat : Int) % 18446744073709551616 = _
        omega
      go_wp2
      go_round
      case rel => exact ⟨k + 1, by omega, by go_num, by rw [HS.out]; rfl⟩
      case measure => simp [intOf]; omega
    · go_wp2
      go_ret
      exact ⟨Sx.ret_int (by rw [List.take_of_length_le (by have := Lib.size_eq s; omega)]), rfl⟩

theorem xor_in (x y : Int) : 0 ≤ bits .xor .u64 x y ∧ bits .xor .u64 x y < 18446744073709551616 := by
  have h := bits_within .xor .u64 x y
  exact ⟨h.1, by have := h.2; simp [IntKind.max, IntKind.bits, IntKind.signed] at this; omega⟩
set_option maxHeartbeats 1000000 in
theorem addr_any (h : Int) (s : ByteArray) (w : World) (hs : s.size ≤ 9223372036854775807) :
    Calls Tryd.prog 44 #[.int .u64 h, .string s] w fun e w' => e = .returned (.int .u64 (mixL h s.data.toList)) ∧ w' = w := by
  have hq : ∀ x y, (bits .xor .u64 x y).tdiv 128 = bits .xor .u64 x y / 128 := fun x y => Int.tdiv_eq_ediv_of_nonneg (xor_in x y).1
  have hq2 : ∀ x y, IntKind.u64.wrap (bits .xor .u64 x y / 128) = bits .xor .u64 x y / 128 := fun x y => by
    have := xor_in x y
    show (bits .xor .u64 x y / 128) % 18446744073709551616 = _
    omega
  go_enter Tryd.func44, Tryd.ntmps44
  go_wp2_with fail
  go_loop [0, 5] (fun x i => ∃ k : Nat, k ≤ s.size ∧ i = .int .i64 k ∧ x = .int .u64 (mixL h (s.data.toList.take k))) (fun _ i => s.size - (intOf i).toNat)
  case atStart => exact ⟨0, Nat.zero_le _, rfl, rfl⟩
  case round =>
    obtain ⟨k, hk, rfl, rfl⟩ := hrel
    by_cases hlt : k < s.size
    · have HS := Lib.hid (mix_snoc h s k hlt)
      obtain ⟨m, hm⟩ : ∃ m, m = mixL h (s.data.toList.take k) := ⟨_, rfl⟩
      rw [← hm] at HS ⊢
      clear hm
      have k1 : IntKind.u64.wrap (s[k].toNat : Int) = (s[k].toNat : Int) := by
        have := s[k].toNat_lt
        show (s[k].toNat : Int) % 18446744073709551616 = _
        omega
      go_wp2
      go_round
      case rel => exact ⟨k + 1, by omega, by go_num, by rw [HS.out]; rfl⟩
      case measure => simp [intOf]; omega
    · go_wp2
      go_ret
      exact ⟨Sx.ret_int (by rw [List.take_of_length_le (by have := Lib.size_eq s; omega)]), rfl⟩
/-- the number of bytes -/
def ofL (l : List UInt8) : Int := mixL (bits .xor .u64 (IntKind.u64.wrap (l.length : Int)) 11400714819323198485) l
set_option maxHeartbeats 400000 in
theorem start_any (h : Int) (w : World) : Calls Tryd.prog 43 #[.int .u64 h] w fun e w' => e = .returned (.int .u64 (bits .xor .u64 h 11400714819323198485)) ∧ w' = w := by
  go_enter Tryd.func43, Tryd.ntmps43
  go_wp2
  go_ret
  exact ⟨rfl, rfl⟩
set_option maxHeartbeats 400000 in
theorem startr_any (h : Int) (w : World) : Calls Tryd.prog 45 #[.int .u64 h] w fun e w' => e = .returned (.int .u64 (bits .xor .u64 h 11400714819323198485)) ∧ w' = w := by
  go_enter Tryd.func45, Tryd.ntmps45
  go_wp2
  go_ret
  exact ⟨rfl, rfl⟩
set_option maxHeartbeats 400000 in
theorem of_any (s : ByteArray) (w : World) (hs : s.size ≤ 9223372036854775807) : Calls Tryd.prog 23 #[.string s] w fun e w' => e = .returned (.int .u64 (ofL s.data.toList)) ∧ w' = w := by
  have he : ofL s.data.toList = mixL (bits .xor .u64 (IntKind.u64.wrap (s.size : Int)) 11400714819323198485) s.data.toList := by unfold ofL; rw [← Lib.size_eq]
  have k1 : IntKind.u64.wrap (s.size : Int) = (s.size : Int) := by
    show (s.size : Int) % 18446744073709551616 = _
    omega
  rw [k1] at he
  have HE := Lib.hid he
  clear he
  go_enter Tryd.func23, Tryd.ntmps23
  go_wp2_with (first
    | (go_at_call 43; refine (start_any _ _).mono ?_; rintro e w' ⟨rfl, rfl⟩)
    | (go_at_call 42; refine (add_any _ _ _ hs).mono ?_; rintro e w' ⟨rfl, rfl⟩))
  go_ret
  exact ⟨Sx.ret_int HE.out.symm, rfl⟩
set_option maxHeartbeats 400000 in
theorem ofr_any (s : ByteArray) (w : World) (hs : s.size ≤ 9223372036854775807) : Calls Tryd.prog 26 #[.string s] w fun e w' => e = .returned (.int .u64 (ofL s.data.toList)) ∧ w' = w := by
  have he : ofL s.data.toList = mixL (bits .xor .u64 (IntKind.u64.wrap (s.size : Int)) 11400714819323198485) s.data.toList := by unfold ofL; rw [← Lib.size_eq]
  have k1 : IntKind.u64.wrap (s.size : Int) = (s.size : Int) := by
    show (s.size : Int) % 18446744073709551616 = _
    omega
  rw [k1] at he
  have HE := Lib.hid he
  clear he
  go_enter Tryd.func26, Tryd.ntmps26
  go_wp2_with (first
    | (go_at_call 45; refine (startr_any _ _).mono ?_; rintro e w' ⟨rfl, rfl⟩)
    | (go_at_call 44; refine (addr_any _ _ _ hs).mono ?_; rintro e w' ⟨rfl, rfl⟩))
  go_ret
  exact ⟨Sx.ret_int HE.out.symm, rfl⟩
end Mx
end Go.Proofs.YtbhngjhfeejeiaaDoor
