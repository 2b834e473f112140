/-
  Walk: the reference's Name (layer 4).
-/
import Derived.Test.YtbefgplaaghlbaaGreatDoorNmA
namespace Go.Proofs.YtbefgplaaghlbaaGreatDoor
open Go.RowKit
namespace Nm

def cls (x : Nat) : Nat := if 97 ≤ x ∧ x ≤ 122 then 0 else if 48 ≤ x ∧ x ≤ 57 then 1 else if x = 45 then 2 else if x = 95 then 3 else if x = 46 then 4 else 5
theorem cls_name (x : Nat) : nameR x = decide (cls x < 5) := by
  unfold cls nameR
  by_cases h0 : 97 ≤ x ∧ x ≤ 122
  · simp [h0]
  · by_cases h1 : 48 ≤ x ∧ x ≤ 57
    · rw [if_neg h0, if_pos h1]; simp [h1]
    · by_cases h2 : x = 45
      · subst h2; decide
      · by_cases h3 : x = 95
        · subst h3; decide
        · by_cases h4 : x = 46
          · subst h4; decide
          · rw [if_neg h0, if_neg h1, if_neg h2, if_neg h3, if_neg h4]
            simp [h2, h3, h4]
            omega
theorem nameL_bad {s : ByteArray} {k : Nat} (h : k < s.size) (hn : nameR s[k].toNat = false) : nameL s.data.toList = false := by
  have : s.data.toList.all (fun c => nameR c.toNat) = false := by
    cases ha : s.data.toList.all (fun c => nameR c.toNat)
    · rfl
    · have := all_get.1 ha k h
      rw [hn] at this
      cases this
  simp [nameL, this]
theorem nameL_dot' {s : ByteArray} (h : 0 < s.size) (hd : s[0].toNat = 46) : nameL s.data.toList = false := by
  have e : s[0] = 46 := UInt8.toNat_inj.1 (by rw [hd]; rfl)
  simp [nameL, head_get h, e]
theorem nameL_end {s : ByteArray} (ha : ∀ (i : Nat) (h : i < s.size), nameR s[i].toNat = true) (hd : ∀ h : 0 < s.size, s[0].toNat ≠ 46) : nameL s.data.toList = (decide (1 ≤ s.size) && decide (s.size ≤ 32)) := by
  have hz := Lib.size_eq s
  unfold nameL
  rw [all_get.2 ha, ← hz]
  by_cases h0 : 0 < s.size
  · rw [head_get h0]
    have : s[0] ≠ 46 := fun e => hd h0 (by rw [e]; rfl)
    simp [this]
  · have : s.size = 0 := by omega
    simp [this]
set_option maxHeartbeats 2000000 in
theorem namer_any (s : ByteArray) (w : World) (hs : s.size ≤ 9223372036854775807) : Calls Tryz.prog 85 #[.string s] w fun e w' => e = .returned (.bool (nameL s.data.toList)) ∧ w' = w := by
  go_enter Tryz.func85, Tryz.ntmps85
  go_wp2_with fail
  go_loop [3, 4, 5, 6] (fun i _ _ _ => ∃ k : Nat, k ≤ s.size ∧ i = .int .i64 k ∧ (∀ (j : Nat) (h : j < s.size), j < k → nameR s[j].toNat = true ∧ (j = 0 → s[j].toNat ≠ 46))) (fun i _ _ _ => s.size - (intOf i).toNat)
  case atStart => exact ⟨0, Nat.zero_le _, rfl, by omega⟩
  case round =>
    obtain ⟨k, hk, rfl, hall⟩ := hrel
    have HALL := Lib.hid hall
    clear hall
    by_cases hlt : k < s.size
    · have hc := s[k].toNat_lt
      have hnext : nameR s[k].toNat = true → (k = 0 → s[k].toNat ≠ 46) → ∀ (j : Nat) (h : j < s.size), j < k + 1 → nameR s[j].toNat = true ∧ (j = 0 → s[j].toNat ≠ 46) := fun h1 h2 j hj hjk => by
        by_cases e : j = k
        · subst e; exact ⟨h1, h2⟩
        · exact HALL.out j hj (by omega)
      by_cases h0 : 97 ≤ s[k].toNat ∧ s[k].toNat ≤ 122
      · have HN := Lib.hid (hnext (by rw [cls_name]; unfold cls; rw [if_pos h0]; rfl) (fun _ => by omega))
        obtain ⟨a1, a2⟩ := h0
        have t1 : decide ((97 : Int) ≤ s[k].toNat) = true := by simp; omega
        have t2 : decide ((s[k].toNat : Int) ≤ 122) = true := by simp; omega
        have t3 : decide ((48 : Int) ≤ s[k].toNat) = true := by simp; omega
        have t4 : decide ((s[k].toNat : Int) ≤ 57) = false := by simp; omega
        clear hnext hc
        go_wp2_with fail
        go_round
        case rel => exact ⟨k + 1, by omega, by go_num, HN.out⟩
        case measure => simp [intOf]; omega
      · by_cases h1 : 48 ≤ s[k].toNat ∧ s[k].toNat ≤ 57
        · have HN := Lib.hid (hnext (by rw [cls_name]; unfold cls; rw [if_neg h0, if_pos h1]; rfl) (fun _ => by omega))
          obtain ⟨a1, a2⟩ := h1
          have t1 : decide ((97 : Int) ≤ s[k].toNat) = false := by simp; omega
          have t3 : decide ((48 : Int) ≤ s[k].toNat) = true := by simp; omega
          have t4 : decide ((s[k].toNat : Int) ≤ 57) = true := by simp; omega
          clear hnext hc h0
          go_wp2_with fail
          go_round
          case rel => exact ⟨k + 1, by omega, by go_num, HN.out⟩
          case measure => simp [intOf]; omega
        · have t12 : decide ((97 : Int) ≤ s[k].toNat) = false ∨ (decide ((97 : Int) ≤ s[k].toNat) = true ∧ decide ((s[k].toNat : Int) ≤ 122) = false) := by
            by_cases h : 97 ≤ s[k].toNat
            · exact .inr ⟨by simp; omega, by simp; omega⟩
            · exact .inl (by simp; omega)
          have t34 : decide ((48 : Int) ≤ s[k].toNat) = false ∨ (decide ((48 : Int) ≤ s[k].toNat) = true ∧ decide ((s[k].toNat : Int) ≤ 57) = false) := by
            by_cases h : 48 ≤ s[k].toNat
            · exact .inr ⟨by simp; omega, by simp; omega⟩
            · exact .inl (by simp; omega)
          by_cases h2 : s[k].toNat = 45
          · have HN := Lib.hid (hnext (by rw [h2]; rfl) (fun _ => by omega))
            have e1 : ((s[k].toNat : Int) == 45) = true := by rw [h2]; rfl
            have e2 : ((s[k].toNat : Int) != 45) = false := by rw [bne, e1]; rfl
            clear hnext hc h0 h1 h2
            rcases t12 with t1 | ⟨t1, t2⟩ <;> rcases t34 with t3 | ⟨t3, t4⟩
            all_goals
              go_wp2_with fail
              go_round
              case rel => exact ⟨k + 1, by omega, by go_num, HN.out⟩
              case measure => simp [intOf]; omega
          · by_cases h3 : s[k].toNat = 95
            · have HN := Lib.hid (hnext (by rw [h3]; rfl) (fun _ => by omega))
              have e1 : ((s[k].toNat : Int) == 45) = false := by rw [h3]; rfl
              have e2 : ((s[k].toNat : Int) != 45) = true := by rw [bne, e1]; rfl
              have e3 : ((s[k].toNat : Int) == 95) = true := by rw [h3]; rfl
              have e4 : ((s[k].toNat : Int) != 95) = false := by rw [bne, e3]; rfl
              clear hnext hc h0 h1 h2 h3
              rcases t12 with t1 | ⟨t1, t2⟩ <;> rcases t34 with t3 | ⟨t3, t4⟩
              all_goals
                go_wp2_with fail
                go_round
                case rel => exact ⟨k + 1, by omega, by go_num, HN.out⟩
                case measure => simp [intOf]; omega
            · have e1 : ((s[k].toNat : Int) == 45) = false := by rw [beq_eq_false_iff_ne]; omega
              have e2 : ((s[k].toNat : Int) != 45) = true := by rw [bne, e1]; rfl
              have e3 : ((s[k].toNat : Int) == 95) = false := by rw [beq_eq_false_iff_ne]; omega
              have e4 : ((s[k].toNat : Int) != 95) = true := by rw [bne, e3]; rfl
              by_cases h4 : s[k].toNat = 46
              · have e5 : ((s[k].toNat : Int) == 46) = true := by rw [h4]; rfl
                have e6 : ((s[k].toNat : Int) != 46) = false := by rw [bne, e5]; rfl
                by_cases hk0 : k = 0
                · subst hk0
                  have hx := Lib.hid (nameL_dot' hlt h4)
                  clear hnext hc h0 h1 h2 h3 h4
                  rcases t12 with t1 | ⟨t1, t2⟩ <;> rcases t34 with t3 | ⟨t3, t4⟩
                  all_goals
                    go_wp2_with fail
                    go_ret
                    exact ⟨Sx.ret_bool hx.out.symm, rfl⟩
                · have HN := Lib.hid (hnext (by rw [h4]; rfl) (fun h => absurd h hk0))
                  have e7 : ((k : Int) == 0) = false := by rw [beq_eq_false_iff_ne]; omega
                  clear hnext hc h0 h1 h2 h3 h4 hk0
                  rcases t12 with t1 | ⟨t1, t2⟩ <;> rcases t34 with t3 | ⟨t3, t4⟩
                  all_goals
                    go_wp2_with fail
                    go_round
                    case rel => exact ⟨k + 1, by omega, by go_num, HN.out⟩
                    case measure => simp [intOf]; omega
              · have hx := Lib.hid (nameL_bad hlt (by rw [cls_name]; unfold cls; rw [if_neg h0, if_neg h1, if_neg h2, if_neg h3, if_neg h4]; rfl))
                have e5 : ((s[k].toNat : Int) == 46) = false := by rw [beq_eq_false_iff_ne]; omega
                have e6 : ((s[k].toNat : Int) != 46) = true := by rw [bne, e5]; rfl
                clear hnext hc h0 h1 h2 h3 h4
                rcases t12 with t1 | ⟨t1, t2⟩ <;> rcases t34 with t3 | ⟨t3, t4⟩
                all_goals
                  go_wp2_with fail
                  go_ret
                  exact ⟨Sx.ret_bool hx.out.symm, rfl⟩
    · have hx := Lib.hid (nameL_end (s := s) (fun i h => (HALL.out i h (by omega)).1) (fun h => (HALL.out 0 h (by omega)).2 rfl))
      by_cases h1 : 1 ≤ s.size
      · have t1 : decide ((1 : Int) ≤ s.size) = true := by simp; omega
        go_wp2_with fail
        go_ret
        exact ⟨Sx.ret_bool (by rw [hx.out]; by_cases h : s.size ≤ 32 <;> simp [h, h1] <;> omega), rfl⟩
      · have t1 : decide ((1 : Int) ≤ s.size) = false := by simp; omega
        go_wp2_with fail
        go_ret
        exact ⟨Sx.ret_bool (by rw [hx.out]; simp [h1]), rfl⟩
end Nm
end Go.Proofs.YtbefgplaaghlbaaGreatDoor
