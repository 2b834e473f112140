/-
  Walks of the reference: hex, letter, Keyword, Name.
-/
import Derived.Test.YtcigggffaofkhaaRcM
namespace Go.Proofs.Ytcigggffaofkhaa
open Go.RowKit
namespace Rc

set_option maxHeartbeats 1000000 in
theorem rletter_any (c : UInt8) (w : World) : Calls Try.prog 26 #[.int .u8 (c.toNat : Int)] w fun e w' => e = .returned (.bool (letter c)) ∧ w' = w := by
  rw [letter_R]
  generalize c.toNat = x
  have cases : (97 ≤ x ∧ x ≤ 122) ∨ (48 ≤ x ∧ x ≤ 57) ∨ x = 95 ∨ x < 48 ∨ (58 ≤ x ∧ x ≤ 96 ∧ x ≠ 95) ∨ 123 ≤ x := by omega
  rcases cases with ⟨a, b⟩ | ⟨a, b⟩ | h | a | ⟨a, b, c⟩ | a
  · have hx := Lib.hid (show letR x = true by simp only [letR, Bool.or_eq_true, Bool.and_eq_true, decide_eq_true_eq]; omega)
    have t1 : decide ((97 : Int) ≤ x) = true := by simp; omega
    have t2 : decide ((x : Int) ≤ 122) = true := by simp; omega
    go_enter Try.func26, Try.ntmps26
    go_wp2
    go_ret
    exact ⟨Sx.ret_bool hx.out.symm, rfl⟩
  · have hx := Lib.hid (show letR x = true by simp only [letR, Bool.or_eq_true, Bool.and_eq_true, decide_eq_true_eq]; omega)
    have t1 : decide ((97 : Int) ≤ x) = false := by simp; omega
    have t3 : decide ((48 : Int) ≤ x) = true := by simp; omega
    have t4 : decide ((x : Int) ≤ 57) = true := by simp; omega
    go_enter Try.func26, Try.ntmps26
    go_wp2
    go_ret
    exact ⟨Sx.ret_bool hx.out.symm, rfl⟩
  · subst h
    go_enter Try.func26, Try.ntmps26
    go_wp2
    go_ret
    exact ⟨rfl, rfl⟩
  all_goals
    have hx := Lib.hid (show letR x = false by simp only [letR, Bool.or_eq_false_iff, Bool.and_eq_false_iff, decide_eq_false_iff_not]; omega)
    have e2 : ((x : Int) == 95) = false := by rw [beq_eq_false_iff_ne]; omega
  · have t1 : decide ((97 : Int) ≤ x) = false := by simp; omega
    have t3 : decide ((48 : Int) ≤ x) = false := by simp; omega
    go_enter Try.func26, Try.ntmps26
    go_wp2
    go_ret
    exact ⟨Sx.ret_bool hx.out.symm, rfl⟩
  · have t1 : decide ((97 : Int) ≤ x) = false := by simp; omega
    have t3 : decide ((48 : Int) ≤ x) = true := by simp; omega
    have t4 : decide ((x : Int) ≤ 57) = false := by simp; omega
    go_enter Try.func26, Try.ntmps26
    go_wp2
    go_ret
    exact ⟨Sx.ret_bool hx.out.symm, rfl⟩
  · have t1 : decide ((97 : Int) ≤ x) = true := by simp; omega
    have t2 : decide ((x : Int) ≤ 122) = false := by simp; omega
    have t3 : decide ((48 : Int) ≤ x) = true := by simp; omega
    have t4 : decide ((x : Int) ≤ 57) = false := by simp; omega
    go_enter Try.func26, Try.ntmps26
    go_wp2
    go_ret
    exact ⟨Sx.ret_bool hx.out.symm, rfl⟩
set_option maxHeartbeats 1000000 in
theorem rhex_any (c : UInt8) (w : World) : Calls Try.prog 51 #[.int .u8 (c.toNat : Int)] w fun e w' => e = .returned (.int .i64 (hexv c : Int)) ∧ w' = w := by
  have hlt := c.toNat_lt
  unfold hexv
  generalize c.toNat = x at *
  have cases : x < 48 ∨ (48 ≤ x ∧ x ≤ 57) ∨ (58 ≤ x ∧ x < 97) ∨ (97 ≤ x ∧ x ≤ 102) ∨ 103 ≤ x := by omega
  rcases cases with a | ⟨a, b⟩ | ⟨a, b⟩ | ⟨a, b⟩ | a
  · rw [if_neg (by omega), if_neg (by omega)]
    have t1 : decide ((48 : Int) ≤ x) = false := by simp; omega
    have t2 : decide ((97 : Int) ≤ x) = false := by simp; omega
    go_enter Try.func51, Try.ntmps51
    go_wp2
    go_ret
    exact ⟨rfl, rfl⟩
  · rw [if_pos (by omega)]
    have t1 : decide ((48 : Int) ≤ x) = true := by simp; omega
    have t2 : decide ((x : Int) ≤ 57) = true := by simp; omega
    have q2 : IntKind.u8.wrap ((x : Int) - 48) = (x : Int) - 48 := by
      show ((x : Int) - 48) % 256 = _
      omega
    have q3 : IntKind.i64.wrap ((x : Int) - 48) = (x : Int) - 48 := IntWalk.i64_in _ (by omega)
    have HZ := Lib.hid (show ((x - 48 : Nat) : Int) = (x : Int) - 48 by omega)
    go_enter Try.func51, Try.ntmps51
    go_wp2
    go_ret
    rw [HZ.out]
    exact ⟨rfl, rfl⟩
  · rw [if_neg (by omega), if_neg (by omega)]
    have t1 : decide ((48 : Int) ≤ x) = true := by simp; omega
    have t3 : decide ((x : Int) ≤ 57) = false := by simp; omega
    have t2 : decide ((97 : Int) ≤ x) = false := by simp; omega
    go_enter Try.func51, Try.ntmps51
    go_wp2
    go_ret
    exact ⟨rfl, rfl⟩
  · rw [if_neg (by omega), if_pos (by omega)]
    have t1 : decide ((48 : Int) ≤ x) = true := by simp; omega
    have t3 : decide ((x : Int) ≤ 57) = false := by simp; omega
    have t2 : decide ((97 : Int) ≤ x) = true := by simp; omega
    have t4 : decide ((x : Int) ≤ 102) = true := by simp; omega
    have q2 : IntKind.u8.wrap ((x : Int) - 97) = (x : Int) - 97 := by
      show ((x : Int) - 97) % 256 = _
      omega
    have q3 : IntKind.i64.wrap ((x : Int) - 97) = (x : Int) - 97 := IntWalk.i64_in _ (by omega)
    have q4 : IntKind.i64.wrap ((x : Int) - 97 + 10) = (x : Int) - 87 := by rw [IntWalk.i64_in _ (by omega)]; omega
    have HZ := Lib.hid (show ((x - 87 : Nat) : Int) = (x : Int) - 87 by omega)
    go_enter Try.func51, Try.ntmps51
    go_wp2
    go_ret
    rw [HZ.out]
    exact ⟨rfl, rfl⟩
  · rw [if_neg (by omega), if_neg (by omega)]
    have t1 : decide ((48 : Int) ≤ x) = true := by simp; omega
    have t3 : decide ((x : Int) ≤ 57) = false := by simp; omega
    have t2 : decide ((97 : Int) ≤ x) = true := by simp; omega
    have t4 : decide ((x : Int) ≤ 102) = false := by simp; omega
    go_enter Try.func51, Try.ntmps51
    go_wp2
    go_ret
    exact ⟨rfl, rfl⟩
set_option maxHeartbeats 1000000 in
theorem rkey_any (s : ByteArray) (w : World) : Calls Try.prog 27 #[.string s] w fun e w' => e = .returned (.bool (keyW.contains s.data.toList)) ∧ Below w.heap.size w w' := by
  have hb := (Below.refl w.heap.size w).alloc (Nat.le_refl _) (.cells (keyW.map fun x => Value.string ⟨x.toArray⟩).toArray 9)
  obtain ⟨b, cap, he, hlt, hc⟩ := ss_lit w keyW
  obtain ⟨hb0, -⟩ : b = w.heap.size ∧ cap = keyW.length := by simpa [eq_comm] using he
  subst hb0
  have HC := Lib.hid hc
  have hb : Below w.heap.size w (w.alloc (.cells #[.string ⟨#[112, 97, 99, 107, 97, 103, 101]⟩, .string ⟨#[118, 101, 114, 115, 105, 111, 110]⟩, .string ⟨#[116, 111, 111, 108]⟩, .string ⟨#[98, 117, 105, 108, 100]⟩, .string ⟨#[114, 117, 110]⟩, .string ⟨#[108, 101, 116]⟩, .string ⟨#[105, 110]⟩, .string ⟨#[105, 102]⟩, .string ⟨#[116, 104, 101, 110]⟩, .string ⟨#[101, 108, 115, 101]⟩] 9)) := hb
  have HB := Lib.hid hb
  have HC := Lib.hid (show ∀ (i : Nat) (x : List UInt8), keyW[i]? = some x → (w.alloc (.cells #[.string ⟨#[112, 97, 99, 107, 97, 103, 101]⟩, .string ⟨#[118, 101, 114, 115, 105, 111, 110]⟩, .string ⟨#[116, 111, 111, 108]⟩, .string ⟨#[98, 117, 105, 108, 100]⟩, .string ⟨#[114, 117, 110]⟩, .string ⟨#[108, 101, 116]⟩, .string ⟨#[105, 110]⟩, .string ⟨#[105, 102]⟩, .string ⟨#[116, 104, 101, 110]⟩, .string ⟨#[101, 108, 115, 101]⟩] 9)).cell? ⟨w.heap.size, i, none⟩ = some (.string ⟨x.toArray⟩) from hc)
  clear hc he hlt hb
  go_enter Try.func27, Try.ntmps27
  go_wp2
  generalize (w.alloc (.cells #[.string ⟨#[112, 97, 99, 107, 97, 103, 101]⟩, .string ⟨#[118, 101, 114, 115, 105, 111, 110]⟩, .string ⟨#[116, 111, 111, 108]⟩, .string ⟨#[98, 117, 105, 108, 100]⟩, .string ⟨#[114, 117, 110]⟩, .string ⟨#[108, 101, 116]⟩, .string ⟨#[105, 110]⟩, .string ⟨#[105, 102]⟩, .string ⟨#[116, 104, 101, 110]⟩, .string ⟨#[101, 108, 115, 101]⟩] 9)) = w1 at *
  go_loopw [4, 7] (fun _ i wr => ∃ k : Nat, k ≤ 10 ∧ i = .int .i64 k ∧ (∀ (j : Nat) (y : List UInt8), j < k → keyW[j]? = some y → s.data.toList ≠ y) ∧ wr = w1) (fun _ i _ => 10 - (intOf i).toNat)
  case atStart => exact ⟨0, Nat.zero_le _, rfl, by omega, rfl⟩
  case round =>
    obtain ⟨k, hk, rfl, hn, rfl⟩ := hrel
    have HN := Lib.hid hn
    clear hn
    by_cases hk2 : k < 10
    · obtain ⟨x, hx⟩ : ∃ x, keyW[k]? = some x := ⟨keyW[k], List.getElem?_eq_getElem hk2⟩
      have hcell := HC.out k x hx
      have HX := Lib.hid hx
      obtain ⟨xb, hxb⟩ : ∃ xb : ByteArray, xb = ⟨x.toArray⟩ := ⟨_, rfl⟩
      rw [← hxb] at hcell
      clear hx
      by_cases he : s.data.toList = x
      · have hr := Lib.hid (show keyW.contains s.data.toList = true by rw [List.contains_iff_mem, he]; exact List.mem_of_getElem? HX.out)
        have i1 := Sx.seq_tt (show s = xb by rw [hxb]; exact ba_eq he)
        clear he hxb
        go_wp2_with fail
        go_ret
        exact ⟨Sx.ret_bool hr.out.symm, HB.out⟩
      · have i1 := Sx.seq_ff (show s ≠ xb by rw [hxb]; exact ba_ne he)
        clear hxb
        have HNN := Lib.hid (show ∀ (j : Nat) (y : List UInt8), j < k + 1 → keyW[j]? = some y → s.data.toList ≠ y from fun j y hj hy => by
          by_cases h : j < k
          · exact HN.out j y h hy
          · obtain rfl : j = k := by omega
            rw [HX.out] at hy
            rw [← Option.some.inj hy]
            exact he)
        clear he
        go_wp2_with fail
        go_roundw
        case rel => exact ⟨k + 1, by omega, by go_num, HNN.out, by trivial⟩
        case measure => simp [intOf]; omega
    · have hr := Lib.hid (show keyW.contains s.data.toList = false by
        cases hc : keyW.contains s.data.toList
        · rfl
        · rw [List.contains_iff_mem] at hc
          obtain ⟨j, hj⟩ := List.mem_iff_getElem?.1 hc
          exact absurd rfl (HN.out j _ (by have := (List.getElem?_eq_some_iff.1 hj).1; have : keyW.length = 10 := rfl; omega) hj))
      go_wp2_with fail
      go_ret
      exact ⟨Sx.ret_bool hr.out.symm, HB.out⟩
end Rc
end Go.Proofs.Ytcigggffaofkhaa
