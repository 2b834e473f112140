/-
  Walk: the reading of a key (layer 2).
-/
import Derived.Test.YtbhngjhfeejeiaaDoorMxD
import Derived.Test.YtbhngjhfeejeiaaDoorShelfI
namespace Go.Proofs.YtbhngjhfeejeiaaDoor
open Go.RowKit
namespace Mx

def letters : ByteArray := ⟨#[97, 98, 99, 100, 101, 102, 103, 104, 105, 106, 107, 108, 109, 110, 111, 112, 113, 114, 115, 116, 117, 118, 119, 120, 121, 122, 50, 51, 52, 53, 54, 55]⟩
def ix (c : UInt8) : Int := if dg c ≤ 31 then (dg c : Int) else -1
theorem ix_all : ∀ n : Fin 256, Lib.indexByte letters.data.toList (UInt8.ofNat n.1) = ix (UInt8.ofNat n.1) := by decide +kernel
theorem ix_eq (c : UInt8) : Lib.indexByte letters.data.toList c = ix c := by
  have h := ix_all ⟨c.toNat, c.toNat_lt⟩
  simpa using h
theorem index_any (c : UInt8) (w : World) : Calls Tryd.prog 46 #[.string ⟨#[97, 98, 99, 100, 101, 102, 103, 104, 105, 106, 107, 108, 109, 110, 111, 112, 113, 114, 115, 116, 117, 118, 119, 120, 121, 122, 50, 51, 52, 53, 54, 55]⟩, .int .u8 (c.toNat : Int)] w fun e w' => e = .returned (.int .i64 (ix c)) ∧ w' = w := by
  refine (Tryd.strings_IndexByte letters (c.toNat : Int) w).mono ?_
  rintro e w' ⟨rfl, rfl⟩
  have e1 : ((c.toNat : Int)).toNat.toUInt8 = c := by simp
  rw [e1, ix_eq]
  exact ⟨rfl, rfl⟩
theorem or_shift {m d : Nat} (hd : d ≤ 31) (h : m * 32 + d < 18446744073709551616) : bits .or .u64 ((m * 32 : Nat) : Int) (d : Int) = ((m * 32 + d : Nat) : Int) := by
  rw [u64_or_nat _ _ (by omega) (by omega)]
  have e := Nat.shiftLeft_add_eq_or_of_lt (a := m) (b := d) (i := 5) (by omega)
  rw [Nat.shiftLeft_eq] at e
  rw [← e]
set_option maxHeartbeats 1000000 in
theorem parse_any (s : ByteArray) (w : World) :
    Calls Tryd.prog 27 #[.string s] w fun e w' => e = .returned (KV s.data.toList) ∧ w' = w := by
  by_cases hne : s.size = 13
  · have j0 : ((s.size : Int) == 13) = true := by rw [beq_iff_eq]; omega
    have j1 : ((s.size : Int) != 13) = false := by rw [bne, j0]; rfl
    have HNE := Lib.hid hne
    have hs13 : s.size ≤ 13 := by omega
    clear hne
    go_enter Tryd.func27, Tryd.ntmps27
    go_wp2_with fail
    go_loop [4, 12] (fun x i => ∃ (k m : Nat), k ≤ s.size ∧ i = .int .i64 k ∧ x = .int .u64 m ∧ m = kv (s.data.toList.take k) ∧ m < BB k ∧ (∀ (j : Nat) (hj : j < s.size), j < k → dg s[j] ≤ 31 ∧ (j = 0 → dg s[j] ≤ 15))) (fun _ i => s.size - (intOf i).toNat)
    case atStart => exact ⟨0, 0, by omega, rfl, rfl, rfl, by decide, by omega⟩
    case round =>
      obtain ⟨k, m, hks, rfl, rfl, hm, hb, hall⟩ := hrel
      have HM := Lib.hid hm
      have HALL := Lib.hid hall
      clear hm hall
      by_cases hlt : k < s.size
      · have hdle := dg_le s[k]
        have hbd := BB_le ⟨k + 1, by omega⟩
        by_cases hd : 31 < dg s[k]
        · have hx := Lib.hid (show KV s.data.toList = .tuple #[.int .u64 0, .bool false] by unfold KV; rw [kok_bad hlt hd]; rfl)
          have hi : ix s[k] = -1 := by unfold ix; rw [if_neg (by omega)]
          have hcall := index_any s[k] w
          rw [hi] at hcall
          clear hb hbd hd hdle hi
          go_wp2_with (go_at_call 46; refine hcall.mono ?_; rintro e w' ⟨rfl, rfl⟩)
          go_ret2
          exact ⟨Eq.trans (by rfl) (congrArg Ending.returned hx.out).symm, rfl⟩
        · have hi : ix s[k] = (dg s[k] : Int) := by unfold ix; rw [if_pos (by omega)]
          have hcall := index_any s[k] w
          rw [hi] at hcall
          have hd' : ¬ (dg s[k] : Int) < 0 := by omega
          by_cases hz : k = 0 ∧ 15 < dg s[k]
          · obtain ⟨rfl, h15⟩ := hz
            have hx := Lib.hid (show KV s.data.toList = .tuple #[.int .u64 0, .bool false] by unfold KV; rw [kok_head hlt h15]; rfl)
            have h15' : (15 : Int) < (dg s[0] : Int) := by omega
            clear hb hbd hi
            go_wp2_with (go_at_call 46; refine hcall.mono ?_; rintro e w' ⟨rfl, rfl⟩)
            go_ret2
            exact ⟨Eq.trans (by rfl) (congrArg Ending.returned hx.out).symm, rfl⟩
          · have hn := BB_succ (m := m) (d := dg s[k]) (i := k) hb (by omega) (fun h0 => by omega)
            have HN := Lib.hid hn
            have hn2 : m * 32 + dg s[k] < 18446744073709551616 := Nat.lt_of_lt_of_le hn hbd
            have HT := Lib.hid (kv_take hlt)
            have k1 : IntKind.u64.wrap ((m : Int) * 32) = ((m * 32 : Nat) : Int) := by
              show ((m : Int) * 32) % 18446744073709551616 = _
              omega
            have k2 : IntKind.u64.wrap (dg s[k] : Int) = (dg s[k] : Int) := by
              show (dg s[k] : Int) % 18446744073709551616 = _
              omega
            have HO := Lib.hid (or_shift (show dg s[k] ≤ 31 by omega) hn2)
            have HA := Lib.hid (show ∀ (j : Nat) (hj : j < s.size), j < k + 1 → dg s[j] ≤ 31 ∧ (j = 0 → dg s[j] ≤ 15) from fun j hj hjk => by
              by_cases h : j < k
              · exact HALL.out j hj h
              · obtain rfl : j = k := by omega
                exact ⟨by omega, fun h0 => by omega⟩)
            have hcs : ((k : Int) == 0) = false ∨ (((k : Int) == 0) = true ∧ ¬ (15 : Int) < (dg s[k] : Int)) := by
              by_cases h0 : k = 0
              · exact .inr ⟨by simp [h0], by omega⟩
              · exact .inl (by rw [beq_eq_false_iff_ne]; omega)
            clear hb hbd hn hn2 hz hd hdle hi
            rcases hcs with hcs | ⟨hcs, hcs2⟩
            all_goals
              go_wp2_with (go_at_call 46; refine hcall.mono ?_; rintro e w' ⟨rfl, rfl⟩)
              go_round
              case rel => exact ⟨k + 1, m * 32 + dg s[k], by omega, by go_num, by rw [← HO.out]; simp, by rw [HT.out, HM.out], HN.out, HA.out⟩
              case measure => simp [intOf]; omega
      · have hx := Lib.hid (show KV s.data.toList = .tuple #[.int .u64 m, .bool true] by
          unfold KV
          rw [kok_good HNE.out (fun j hj => (HALL.out j hj (by omega)).1) (fun h0 => (HALL.out 0 h0 (by omega)).2 rfl)]
          have := HM.out
          rw [List.take_of_length_le (by rw [← Lib.size_eq]; omega)] at this
          rw [this]
          rfl)
        clear hb
        go_wp2_with fail
        go_ret2
        exact ⟨Eq.trans (by rfl) (congrArg Ending.returned hx.out).symm, rfl⟩
  · have hx := Lib.hid (show KV s.data.toList = .tuple #[.int .u64 0, .bool false] by unfold KV; rw [kok_len (by rw [← Lib.size_eq]; exact hne)]; rfl)
    have j0 : ((s.size : Int) == 13) = false := by rw [beq_eq_false_iff_ne]; omega
    have j1 : ((s.size : Int) != 13) = true := by rw [bne, j0]; rfl
    go_enter Tryd.func27, Tryd.ntmps27
    go_wp2_with fail
    go_ret2
    exact ⟨Eq.trans (by rfl) (congrArg Ending.returned hx.out).symm, rfl⟩
end Mx
end Go.Proofs.YtbhngjhfeejeiaaDoor
