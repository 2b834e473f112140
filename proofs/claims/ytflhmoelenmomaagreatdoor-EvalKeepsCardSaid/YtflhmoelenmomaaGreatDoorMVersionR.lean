/-
  The reference's part and its Parse, for every text of at most 2^20 bytes.
-/
import Derived.Test.YtflhmoelenmomaaGreatDoorMVersionC
namespace Go.Proofs.YtflhmoelenmomaaGreatDoor
open Go.RowKit
namespace Vs
attribute [local go_sem] eqV

theorem value_snoc (l : List UInt8) (c : UInt8) : value (l ++ [c]) = value l * 10 + ((c.toNat : Int) - 48) := by simp [value]
theorem digits_snoc (l : List UInt8) (c : UInt8) : digits (l ++ [c]) = (digits l && (decide (48 ≤ c.toNat) && decide (c.toNat ≤ 57))) := by simp [digits]
theorem take_snoc (s : ByteArray) (k : Nat) (h : k < s.size) : s.data.toList.take (k + 1) = s.data.toList.take k ++ [s[k]] := by
  rw [List.take_succ_eq_append_getElem (by simpa using h)]; rfl
theorem value_take (s : ByteArray) : ∀ k, k ≤ s.size → digits (s.data.toList.take k) = true → 0 ≤ value (s.data.toList.take k) ∧ value (s.data.toList.take k) < 10 ^ k
  | 0, _, _ => by simp [value]
  | k + 1, hk, hd => by
    rw [take_snoc s k (by omega), digits_snoc, Bool.and_eq_true, Bool.and_eq_true, decide_eq_true_eq, decide_eq_true_eq] at hd
    have := value_take s k (by omega) hd.1
    rw [take_snoc s k (by omega), value_snoc, Int.pow_succ]
    omega
theorem digits_get {s : ByteArray} (h : digits s.data.toList = true) (k : Nat) (hk : k < s.size) : 48 ≤ s[k].toNat ∧ s[k].toNat ≤ 57 := by
  have hm : s[k] ∈ s.data.toList := by
    have : s[k] = s.data[k] := rfl
    rw [this]
    exact Array.mem_toList_iff.2 (Array.getElem_mem _)
  have := List.all_eq_true.1 h _ hm
  simpa using this
theorem head_get (s : ByteArray) (h : 0 < s.size) : s.data.toList.head? = some s[0] := by
  rw [List.head?_eq_getElem?, List.getElem?_eq_getElem (by rw [← Lib.size_eq]; exact h)]
  rfl
theorem partR_loop {s : ByteArray} (h0 : 0 < s.size) (h3 : s.size ≤ 3) (hz : ¬ (s[0].toNat = 48 ∧ 1 < s.size)) : partR s.data.toList = if digits s.data.toList = true then value s.data.toList else -1 := by
  unfold partR
  rw [if_neg]
  have hl := Lib.size_eq s
  rintro (h | h | ⟨h, h'⟩)
  · rw [h, List.length_nil] at hl; omega
  · rw [← Lib.size_eq] at h; omega
  · rw [head_get s h0] at h
    simp only [Option.some.injEq] at h
    exact hz ⟨by rw [h]; rfl, by rw [Lib.size_eq]; exact h'⟩

set_option maxHeartbeats 1000000 in
set_option maxRecDepth 100000 in
theorem part_any (s : ByteArray) (w : World) (hs : s.size ≤ 1048576) : Calls Tryz.prog 56 #[.string s] w fun e w' => e = .returned (.int .i64 (partR s.data.toList)) ∧ w = w' := by
  have hl := Lib.size_eq s
  by_cases h0 : s.size = 0
  · have hr := Lib.hid (show partR s.data.toList = -1 by unfold partR; rw [if_pos (Or.inl (List.length_eq_zero_iff.1 (hl.symm.trans h0)))])
    have he : s.toList = [] := by rw [btl]; exact List.length_eq_zero_iff.1 (hl.symm.trans h0)
    clear hl h0
    go_enter Tryz.func56, Tryz.ntmps56
    go_wp2
    go_ret
    exact ⟨ret_int hr.out.symm, rfl⟩
  · have he : s.toList.isEmpty = false := by
      rw [btl]
      cases h : s.data.toList with
      | nil => rw [h, List.length_nil] at hl; omega
      | cons => rfl
    by_cases h3 : 3 < s.size
    · have hr := Lib.hid (show partR s.data.toList = -1 by unfold partR; rw [if_pos (Or.inr (Or.inl (by rw [← Lib.size_eq]; exact h3)))])
      clear hl
      go_enter Tryz.func56, Tryz.ntmps56
      go_wp2
      go_ret
      exact ⟨ret_int hr.out.symm, rfl⟩
    · have hp : 0 < s.size := by omega
      by_cases hz : s[0].toNat = 48 ∧ 1 < s.size
      · have hr := Lib.hid (show partR s.data.toList = -1 by unfold partR; rw [if_pos (Or.inr (Or.inr ⟨by rw [head_get s hp]; congr 1; exact UInt8.toNat_inj.1 hz.1, by rw [← Lib.size_eq]; exact hz.2⟩))])
        clear hl
        have hz1 : ((s[0].toNat : Int) == 48) = true := by simp [hz.1]
        have hz2 := hz.2
        clear hz
        go_enter Tryz.func56, Tryz.ntmps56
        go_wp2
        go_ret
        exact ⟨ret_int hr.out.symm, rfl⟩
      · have hr := Lib.hid (partR_loop hp (by omega) hz)
        have hnz := Lib.hid hz
        clear hz hl
        by_cases hz1 : s[0].toNat = 48
        · have hz2 : s.size = 1 := by
            have := hnz.out
            omega
          have hz3 : ((s[0].toNat : Int) == 48) = true := by simp [hz1]
          have hle : s.size ≤ 1 := by omega
          clear hz1 hz2
          go_enter Tryz.func56, Tryz.ntmps56
          go_wp2
          go_loop [3, 4] (fun n i => ∃ k : Nat, k ≤ s.size ∧ i = .int .i64 k ∧ n = .int .i64 (value (s.data.toList.take k)) ∧ digits (s.data.toList.take k) = true) (fun _ i => s.size - (intOf i).toNat)
          case atStart => exact ⟨0, Nat.zero_le _, rfl, rfl, rfl⟩
          case round =>
            obtain ⟨k, hk, rfl, rfl, hd⟩ := hrel
            obtain ⟨b0, b1⟩ := value_take s k hk hd
            have hp10 : (10 : Int) ^ k ≤ 1000 := by
              have hk5 : k = 0 ∨ k = 1 ∨ k = 2 ∨ k = 3 := by omega
              rcases hk5 with rfl | rfl | rfl | rfl <;> decide
            have b2 : value (s.data.toList.take k) < 1000 := by omega
            clear b1 hp10
            by_cases hlt : k < s.size
            · have ht := Lib.hid (take_snoc s k hlt)
              by_cases hc0 : 48 ≤ (s[k].toNat : Int)
              · by_cases hc1 : (s[k].toNat : Int) ≤ 57
                · have hD := Lib.hid (show digits (s.data.toList.take (k + 1)) = true by rw [ht.out, digits_snoc, hd]; simp; omega)
                  have HV := Lib.hid (show value (s.data.toList.take (k + 1)) = value (s.data.toList.take k) * 10 + ((s[k].toNat : Int) - 48) by rw [ht.out, value_snoc])
                  clear hd
                  go_wp2
                  go_round
                  case rel => exact ⟨k + 1, by omega, by go_num, by rw [HV.out], hD.out⟩
                  case measure => simp [intOf]; omega
                · have hn := Lib.hid (show digits s.data.toList = false by
                    cases h : digits s.data.toList with
                    | false => rfl
                    | true => have := digits_get h k hlt; omega)
                  clear hd
                  go_wp2
                  go_ret
                  exact ⟨ret_int (by rw [hr.out, hn.out]; rfl), rfl⟩
              · have hn := Lib.hid (show digits s.data.toList = false by
                  cases h : digits s.data.toList with
                  | false => rfl
                  | true => have := digits_get h k hlt; omega)
                clear hd
                go_wp2
                go_ret
                exact ⟨ret_int (by rw [hr.out, hn.out]; rfl), rfl⟩
            · obtain rfl : k = s.size := by omega
              have ht := Lib.hid (show s.data.toList.take s.size = s.data.toList from List.take_of_length_le (by rw [← Lib.size_eq]; exact Nat.le_refl _))
              rw [ht.out] at hd
              have HD := Lib.hid hd
              clear hd
              go_wp2
              go_ret
              exact ⟨ret_int (by rw [hr.out, HD.out, ht.out]; rfl), rfl⟩
        · have hz3 : ((s[0].toNat : Int) == 48) = false := by simp; omega
          clear hz1
          go_enter Tryz.func56, Tryz.ntmps56
          go_wp2
          go_loop [3, 4] (fun n i => ∃ k : Nat, k ≤ s.size ∧ i = .int .i64 k ∧ n = .int .i64 (value (s.data.toList.take k)) ∧ digits (s.data.toList.take k) = true) (fun _ i => s.size - (intOf i).toNat)
          case atStart => exact ⟨0, Nat.zero_le _, rfl, rfl, rfl⟩
          case round =>
            obtain ⟨k, hk, rfl, rfl, hd⟩ := hrel
            obtain ⟨b0, b1⟩ := value_take s k hk hd
            have hp10 : (10 : Int) ^ k ≤ 1000 := by
              have hk5 : k = 0 ∨ k = 1 ∨ k = 2 ∨ k = 3 := by omega
              rcases hk5 with rfl | rfl | rfl | rfl <;> decide
            have b2 : value (s.data.toList.take k) < 1000 := by omega
            clear b1 hp10
            by_cases hlt : k < s.size
            · have ht := Lib.hid (take_snoc s k hlt)
              by_cases hc0 : 48 ≤ (s[k].toNat : Int)
              · by_cases hc1 : (s[k].toNat : Int) ≤ 57
                · have hD := Lib.hid (show digits (s.data.toList.take (k + 1)) = true by rw [ht.out, digits_snoc, hd]; simp; omega)
                  have HV := Lib.hid (show value (s.data.toList.take (k + 1)) = value (s.data.toList.take k) * 10 + ((s[k].toNat : Int) - 48) by rw [ht.out, value_snoc])
                  clear hd
                  go_wp2
                  go_round
                  case rel => exact ⟨k + 1, by omega, by go_num, by rw [HV.out], hD.out⟩
                  case measure => simp [intOf]; omega
                · have hn := Lib.hid (show digits s.data.toList = false by
                    cases h : digits s.data.toList with
                    | false => rfl
                    | true => have := digits_get h k hlt; omega)
                  clear hd
                  go_wp2
                  go_ret
                  exact ⟨ret_int (by rw [hr.out, hn.out]; rfl), rfl⟩
              · have hn := Lib.hid (show digits s.data.toList = false by
                  cases h : digits s.data.toList with
                  | false => rfl
                  | true => have := digits_get h k hlt; omega)
                clear hd
                go_wp2
                go_ret
                exact ⟨ret_int (by rw [hr.out, hn.out]; rfl), rfl⟩
            · obtain rfl : k = s.size := by omega
              have ht := Lib.hid (show s.data.toList.take s.size = s.data.toList from List.take_of_length_le (by rw [← Lib.size_eq]; exact Nat.le_refl _))
              rw [ht.out] at hd
              have HD := Lib.hid hd
              clear hd
              go_wp2
              go_ret
              exact ⟨ret_int (by rw [hr.out, HD.out, ht.out]; rfl), rfl⟩

end Vs
end Go.Proofs.YtflhmoelenmomaaGreatDoor
