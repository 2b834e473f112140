/-
  Walk of the reference: Name.
-/
import Derived.Test.YtcigggffaofkhaaRrA
namespace Go.Proofs.Ytcigggffaofkhaa
open Go.RowKit
namespace Rc

theorem all_pref {s : ByteArray} (h : ∀ (i : Nat) (hi : i < s.size), letter s[i] = true) : s.data.toList.all letter = true := by
  rw [all_get]
  intro i hi
  rw [← letter_R]
  exact h i hi
theorem all_not {s : ByteArray} {i : Nat} (hi : i < s.size) (h : letter s[i] = false) : s.data.toList.all letter = false := by
  cases hc : s.data.toList.all letter
  · rfl
  · rw [all_get] at hc
    have := hc i hi
    rw [← letter_R, h] at this
    cases this
set_option maxHeartbeats 2000000 in
theorem rname0_any (s : ByteArray) (w : World) (hs : s.size ≤ 10000) : Calls Try.prog 11 #[.string s] w fun e w' => e = .returned (.bool (nameL s.data.toList)) ∧ Below w.heap.size w w' := by
  have hz := Lib.hid (Lib.size_eq s)
  have hlet := rletter_any
  have hB := Below.refl w.heap.size w
  go_enter Try.func11, Try.ntmps11
  go_wp2_with fail
  go_loop [3] (fun i => ∃ k : Nat, k ≤ s.size ∧ i = .int .i64 k ∧ ∀ (i : Nat) (hi : i < s.size), i < k → letter s[i] = true) (fun i => s.size - (intOf i).toNat)
  case atStart => exact ⟨0, Nat.zero_le _, rfl, by omega⟩
  case round =>
    obtain ⟨k, hk, rfl, hn⟩ := hrel
    have HN := Lib.hid hn
    clear hn
    have hk1 : IntKind.i64.wrap ((k : Int) + 1) = (k : Int) + 1 := IntWalk.i64_in _ (by omega)
    by_cases hk2 : k < s.size
    · have k2 : decide ((k : Int) < s.size) = true := by simp; omega
      cases hl : letter s[k]
      · have hx := Lib.hid (nameL_no4 (all_not hk2 hl))
        have hlk := hlet s[k]
        rw [hl] at hlk
        clear hl hlet
        go_wp2_with (go_at_call 26; refine (hlk _).mono ?_; rintro e w' ⟨rfl, rfl⟩)
        go_ret
        exact ⟨Sx.ret_bool hx.out.symm, hB⟩
      · have hlk := hlet s[k]
        rw [hl] at hlk
        have HNN := Lib.hid (show ∀ (i : Nat) (hi : i < s.size), i < k + 1 → letter s[i] = true from fun i hi hik => by
          by_cases h : i < k
          · exact HN.out i hi h
          · obtain rfl : i = k := by omega
            exact hl)
        clear hl hlet
        go_wp2_with (go_at_call 26; refine (hlk _).mono ?_; rintro e w' ⟨rfl, rfl⟩)
        go_round
        case rel => exact ⟨k + 1, by omega, by go_num, HNN.out⟩
        case measure => simp [intOf]; omega
    · have k2 : decide ((k : Int) < s.size) = false := by simp; omega
      have hall := Lib.hid (all_pref (s := s) fun i hi => HN.out i hi (by omega))
      clear hlet
      by_cases h0 : s.size = 0
      · have hx := Lib.hid (nameL_no1 (l := s.data.toList) (List.eq_nil_of_length_eq_zero (by rw [← hz.out]; exact h0)))
        have j1 : decide ((1 : Int) ≤ s.size) = false := by simp; omega
        clear h0
        go_wp2_with fail
        go_ret
        exact ⟨Sx.ret_bool hx.out.symm, hB⟩
      have j1 : decide ((1 : Int) ≤ s.size) = true := by simp; omega
      have hpos : 0 < s.size := by omega
      have hhd := Lib.hid (head_get hpos)
      by_cases h32 : s.size ≤ 32
      rotate_left
      · have hx := Lib.hid (nameL_no2 (l := s.data.toList) (by rw [← hz.out]; omega))
        have t1 : decide ((s.size : Int) ≤ 32) = false := by simp; omega
        clear h0
        go_wp2_with fail
        go_ret
        exact ⟨Sx.ret_bool hx.out.symm, hB⟩
      have t1 : decide ((s.size : Int) ≤ 32) = true := by simp; omega
      by_cases ha : 97 ≤ s[0].toNat
      rotate_left
      · have hx := Lib.hid (nameL_no3 hhd.out (by omega))
        have t2 : decide ((97 : Int) ≤ (s[0].toNat : Int)) = false := by simp; omega
        clear h0 ha
        go_wp2_with fail
        go_ret
        exact ⟨Sx.ret_bool hx.out.symm, hB⟩
      have t2 : decide ((97 : Int) ≤ (s[0].toNat : Int)) = true := by simp; omega
      by_cases hb : s[0].toNat ≤ 122
      rotate_left
      · have hx := Lib.hid (nameL_no3 hhd.out (by omega))
        have t3 : decide ((s[0].toNat : Int) ≤ 122) = false := by simp; omega
        clear h0 ha hb
        go_wp2_with fail
        go_ret
        exact ⟨Sx.ret_bool hx.out.symm, hB⟩
      have t3 : decide ((s[0].toNat : Int) ≤ 122) = true := by simp; omega
      have hx := Lib.hid (nameL_yes (by rw [← hz.out]; omega) (by rw [← hz.out]; omega) hhd.out ha hb hall.out)
      have hkey := rkey_any s w
      generalize keyW.contains s.data.toList = q at *
      clear h0 ha hb
      go_wp2_with fail
      refine hkey.mono ?_
      rintro e w1 ⟨rfl, hb1⟩
      go_wp2_with fail
      go_ret
      exact ⟨Sx.ret_bool hx.out.symm, hb1⟩
end Rc
end Go.Proofs.Ytcigggffaofkhaa
