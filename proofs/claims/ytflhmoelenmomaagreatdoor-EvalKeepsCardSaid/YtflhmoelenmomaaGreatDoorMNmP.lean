/-
  Plain: what a name is, over bytes and over runes (layer 4).
-/
import Derived.Test.YtflhmoelenmomaaGreatDoorMRcP
import Derived.Shelf.GgClosure.StringsIndexFuncTop
import Derived.Laws.RangeString
import Derived.Laws.RangeAny
import Derived.Test.YtflhmoelenmomaaGreatDoorShelf
import Derived.Laws.EntriesVeiled
import Derived.Outline
namespace Go.Proofs.YtflhmoelenmomaaGreatDoor
open Go.RowKit
namespace Nm

def nameR (r : Nat) : Bool := (decide (97 ≤ r) && decide (r ≤ 122)) || (decide (48 ≤ r) && decide (r ≤ 57)) || decide (r = 45) || decide (r = 95) || decide (r = 46)
theorem nameR_high {r : Nat} (h : 128 ≤ r) : nameR r = false := by
  simp only [nameR, Bool.or_eq_false_iff, Bool.and_eq_false_iff, decide_eq_false_iff_not]
  omega
/-- is it a name? -/
def nameL (l : List UInt8) : Bool := decide (1 ≤ l.length) && decide (l.length ≤ 32) && l.all (fun c => nameR c.toNat) && decide (l.head? ≠ some 46)
theorem idx_from (s : ByteArray) : ∀ (f pos : Nat), s.size ≤ pos + f → (Lib.idxFuncFrom (fun r => !nameR r) true s f pos = -1 ↔ ∀ (i : Nat) (h : i < s.size), pos ≤ i → nameR s[i].toNat = true)
  | 0, pos, hf => by
    rw [Lib.idxFuncFrom_end _ _ _ _ _ (by omega)]
    exact ⟨fun _ i h hp => by omega, fun _ => rfl⟩
  | f + 1, pos, hf => by
    by_cases hp : pos < s.size
    · unfold Lib.idxFuncFrom
      rw [if_pos hp]
      by_cases ha : s[pos].toNat < 128
      · rw [decode_ascii s pos hp ha]
        by_cases hn : nameR s[pos].toNat = true
        · dsimp only
          rw [hn, if_neg (by decide), idx_from s f (pos + 1) (by omega)]
          constructor
          · intro h i hi hpi
            by_cases e : i = pos
            · subst e; exact hn
            · exact h i hi (by omega)
          · exact fun h i hi hpi => h i hi (by omega)
        · have hn' : nameR s[pos].toNat = false := by simpa using hn
          dsimp only
          rw [hn', if_pos (by decide)]
          constructor
          · intro h; omega
          · intro h; exact absurd (h pos hp (Nat.le_refl _)) hn
      · have hd := (decode_high s pos hp (by omega)).1
        rw [nameR_high hd, if_pos (by decide)]
        constructor
        · intro h; omega
        · intro h
          have := h pos hp (Nat.le_refl _)
          rw [nameR_high (by omega)] at this
          cases this
    · rw [Lib.idxFuncFrom_end _ _ _ _ _ hp]
      exact ⟨fun _ i h hpi => by omega, fun _ => rfl⟩
theorem all_get {s : ByteArray} : s.data.toList.all (fun c => nameR c.toNat) = true ↔ ∀ (i : Nat) (h : i < s.size), nameR s[i].toNat = true := by
  rw [List.all_eq_true]
  have hz := Lib.size_eq s
  constructor
  · intro h i hi
    exact h _ (List.mem_of_getElem? (i := i) (by rw [List.getElem?_eq_getElem (by omega)]; rfl))
  · intro h c hc
    obtain ⟨k, hk⟩ := List.mem_iff_getElem?.1 hc
    have hkl := (List.getElem?_eq_some_iff.1 hk).1
    have := h k (by omega)
    rw [List.getElem?_eq_getElem hkl] at hk
    cases hk
    exact this
theorem idx_all (s : ByteArray) : decide (0 ≤ Lib.idxFunc (fun r => !nameR r) true s) = !(s.data.toList.all (fun c => nameR c.toNat)) := by
  have h1 := idx_from s s.size 0 (by omega)
  have h2 := Lib.idxFunc_range (fun r => !nameR r) true s
  have h3 := @all_get s
  change Lib.idxFunc _ _ _ = _ ↔ _ at h1
  cases ha : s.data.toList.all (fun c => nameR c.toNat)
  · have : ¬ Lib.idxFunc (fun r => !nameR r) true s = -1 := fun e => by
      have := h3.2 (fun i hi => h1.1 e i hi (Nat.zero_le _))
      rw [this] at ha
      cases ha
    simp only [Bool.not_false, decide_eq_true_eq]
    omega
  · have := h1.2 (fun i hi _ => h3.1 ha i hi)
    simp only [Bool.not_true, decide_eq_false_iff_not]
    omega
theorem head_get {s : ByteArray} (h : 0 < s.size) : s.data.toList.head? = some s[0] := by
  have hz := Lib.size_eq s
  rw [List.head?_eq_getElem?, List.getElem?_eq_getElem (by omega)]
  rfl
end Nm
end Go.Proofs.YtflhmoelenmomaaGreatDoor

/-
  Walks: a name, of both texts (layer 4): the closures of path.Name, the reference's Name.
-/
namespace Go.Proofs.YtflhmoelenmomaaGreatDoor
open Go.RowKit
namespace Nm

set_option maxHeartbeats 1000000 in
theorem ok_any (x : Nat) (w : World) : Calls Tryz.prog 65 #[.int .i32 (x : Int)] w fun e w' => e = .returned (.bool (nameR x)) ∧ w' = w := by
  have cases : (97 ≤ x ∧ x ≤ 122) ∨ (48 ≤ x ∧ x ≤ 57) ∨ x = 45 ∨ x = 95 ∨ x = 46 ∨ x = 47 ∨ x = 96 ∨ x < 45 ∨ (58 ≤ x ∧ x ≤ 94) ∨ 123 ≤ x := by omega
  rcases cases with ⟨a, b⟩ | ⟨a, b⟩ | h | h | h | h | h | a | ⟨a, b⟩ | a
  · have hx := Lib.hid (show nameR x = true by simp only [nameR, Bool.or_eq_true, Bool.and_eq_true, decide_eq_true_eq]; omega)
    have t1 : decide ((97 : Int) ≤ x) = true := by simp; omega
    have t2 : decide ((x : Int) ≤ 122) = true := by simp; omega
    go_enter Tryz.func65, Tryz.ntmps65
    go_wp2
    go_ret
    exact ⟨Sx.ret_bool hx.out.symm, rfl⟩
  · have hx := Lib.hid (show nameR x = true by simp only [nameR, Bool.or_eq_true, Bool.and_eq_true, decide_eq_true_eq]; omega)
    have t1 : decide ((97 : Int) ≤ x) = false := by simp; omega
    have t3 : decide ((48 : Int) ≤ x) = true := by simp; omega
    have t4 : decide ((x : Int) ≤ 57) = true := by simp; omega
    go_enter Tryz.func65, Tryz.ntmps65
    go_wp2
    go_ret
    exact ⟨Sx.ret_bool hx.out.symm, rfl⟩
  · subst h
    go_enter Tryz.func65, Tryz.ntmps65
    go_wp2
    go_ret
    exact ⟨rfl, rfl⟩
  · subst h
    go_enter Tryz.func65, Tryz.ntmps65
    go_wp2
    go_ret
    exact ⟨rfl, rfl⟩
  · subst h
    go_enter Tryz.func65, Tryz.ntmps65
    go_wp2
    go_ret
    exact ⟨rfl, rfl⟩
  · subst h
    go_enter Tryz.func65, Tryz.ntmps65
    go_wp2
    go_ret
    exact ⟨rfl, rfl⟩
  · subst h
    go_enter Tryz.func65, Tryz.ntmps65
    go_wp2
    go_ret
    exact ⟨rfl, rfl⟩
  all_goals
    have hx := Lib.hid (show nameR x = false by simp only [nameR, Bool.or_eq_false_iff, Bool.and_eq_false_iff, decide_eq_false_iff_not]; omega)
    have e1 : ((x : Int) == 45) = false := by rw [beq_eq_false_iff_ne]; omega
    have e2 : ((x : Int) == 95) = false := by rw [beq_eq_false_iff_ne]; omega
    have e3 : ((x : Int) == 46) = false := by rw [beq_eq_false_iff_ne]; omega
  · have t1 : decide ((97 : Int) ≤ x) = false := by simp; omega
    have t3 : decide ((48 : Int) ≤ x) = false := by simp; omega
    go_enter Tryz.func65, Tryz.ntmps65
    go_wp2
    go_ret
    exact ⟨Sx.ret_bool hx.out.symm, rfl⟩
  · have t1 : decide ((97 : Int) ≤ x) = false := by simp; omega
    have t3 : decide ((48 : Int) ≤ x) = true := by simp; omega
    have t4 : decide ((x : Int) ≤ 57) = false := by simp; omega
    go_enter Tryz.func65, Tryz.ntmps65
    go_wp2
    go_ret
    exact ⟨Sx.ret_bool hx.out.symm, rfl⟩
  · have t1 : decide ((97 : Int) ≤ x) = true := by simp; omega
    have t2 : decide ((x : Int) ≤ 122) = false := by simp; omega
    have t3 : decide ((48 : Int) ≤ x) = true := by simp; omega
    have t4 : decide ((x : Int) ≤ 57) = false := by simp; omega
    go_enter Tryz.func65, Tryz.ntmps65
    go_wp2
    go_ret
    exact ⟨Sx.ret_bool hx.out.symm, rfl⟩
set_option maxHeartbeats 1000000 in
theorem no_any (x : Nat) (b : Nat) (w : World) (h : w.cell? ⟨b, 0, none⟩ = some (.func (.func 65) #[] #[])) :
    Calls Tryz.prog 67 #[.int .i32 (x : Int), .pointer (some ⟨b, 0, none⟩)] w fun e w' => e = .returned (.bool (!nameR x)) ∧ w' = w := by
  go_enter Tryz.func67, Tryz.ntmps67
  go_wp2_with (go_at_call 65; refine (ok_any _ _).mono ?_; rintro e w' ⟨rfl, rfl⟩)
  go_ret
  exact ⟨rfl, rfl⟩
end Nm
end Go.Proofs.YtflhmoelenmomaaGreatDoor

/-
  Walk: the reference's Name (layer 4).
-/
namespace Go.Proofs.YtflhmoelenmomaaGreatDoor
open Go.RowKit
namespace Nm

def cls (x : Nat) : Nat := if 97 ≤ x ∧ x ≤ 122 then 0 else if 48 ≤ x ∧ x ≤ 57 then 1 else if x = 45 then 2 else if x = 95 then 3 else if x = 46 then 4 else 5
theorem cls_name (x : Nat) : nameR x = decide (cls x < 5) := by
  unfold cls nameR
  by_cases h0 : 97 ≤ x ∧ x ≤ 122
  · simp [h0]
  · by_cases h1 : 48 ≤ x ∧ x ≤ 57
    · rw [if_neg h0, if_pos h1]; simp [h1]
    · by_cases h2 : x = 45
      · subst h2; decide
      · by_cases h3 : x = 95
        · subst h3; decide
        · by_cases h4 : x = 46
          · subst h4; decide
          · rw [if_neg h0, if_neg h1, if_neg h2, if_neg h3, if_neg h4]
            simp [h2, h3, h4]
            omega
theorem nameL_bad {s : ByteArray} {k : Nat} (h : k < s.size) (hn : nameR s[k].toNat = false) : nameL s.data.toList = false := by
  have : s.data.toList.all (fun c => nameR c.toNat) = false := by
    cases ha : s.data.toList.all (fun c => nameR c.toNat)
    · rfl
    · have := all_get.1 ha k h
      rw [hn] at this
      cases this
  simp [nameL, this]
theorem nameL_dot' {s : ByteArray} (h : 0 < s.size) (hd : s[0].toNat = 46) : nameL s.data.toList = false := by
  have e : s[0] = 46 := UInt8.toNat_inj.1 (by rw [hd]; rfl)
  simp [nameL, head_get h, e]
theorem nameL_end {s : ByteArray} (ha : ∀ (i : Nat) (h : i < s.size), nameR s[i].toNat = true) (hd : ∀ h : 0 < s.size, s[0].toNat ≠ 46) : nameL s.data.toList = (decide (1 ≤ s.size) && decide (s.size ≤ 32)) := by
  have hz := Lib.size_eq s
  unfold nameL
  rw [all_get.2 ha, ← hz]
  by_cases h0 : 0 < s.size
  · rw [head_get h0]
    have : s[0] ≠ 46 := fun e => hd h0 (by rw [e]; rfl)
    simp [this]
  · have : s.size = 0 := by omega
    simp [this]
set_option maxHeartbeats 2000000 in
theorem namer_any (s : ByteArray) (w : World) (hs : s.size ≤ 9223372036854775807) : Calls Tryz.prog 54 #[.string s] w fun e w' => e = .returned (.bool (nameL s.data.toList)) ∧ w' = w := by
  go_enter Tryz.func54, Tryz.ntmps54
  go_wp2_with fail
  go_loop [3, 4, 5, 6] (fun i _ _ _ => ∃ k : Nat, k ≤ s.size ∧ i = .int .i64 k ∧ (∀ (j : Nat) (h : j < s.size), j < k → nameR s[j].toNat = true ∧ (j = 0 → s[j].toNat ≠ 46))) (fun i _ _ _ => s.size - (intOf i).toNat)
  case atStart => exact ⟨0, Nat.zero_le _, rfl, by omega⟩
  case round =>
    obtain ⟨k, hk, rfl, hall⟩ := hrel
    have HALL := Lib.hid hall
    clear hall
    by_cases hlt : k < s.size
    · have hc := s[k].toNat_lt
      have hnext : nameR s[k].toNat = true → (k = 0 → s[k].toNat ≠ 46) → ∀ (j : Nat) (h : j < s.size), j < k + 1 → nameR s[j].toNat = true ∧ (j = 0 → s[j].toNat ≠ 46) := fun h1 h2 j hj hjk => by
        by_cases e : j = k
        · subst e; exact ⟨h1, h2⟩
        · exact HALL.out j hj (by omega)
      by_cases h0 : 97 ≤ s[k].toNat ∧ s[k].toNat ≤ 122
      · have HN := Lib.hid (hnext (by rw [cls_name]; unfold cls; rw [if_pos h0]; rfl) (fun _ => by omega))
        obtain ⟨a1, a2⟩ := h0
        have t1 : decide ((97 : Int) ≤ s[k].toNat) = true := by simp; omega
        have t2 : decide ((s[k].toNat : Int) ≤ 122) = true := by simp; omega
        have t3 : decide ((48 : Int) ≤ s[k].toNat) = true := by simp; omega
        have t4 : decide ((s[k].toNat : Int) ≤ 57) = false := by simp; omega
        clear hnext hc
        go_wp2_with fail
        go_round
        case rel => exact ⟨k + 1, by omega, by go_num, HN.out⟩
        case measure => simp [intOf]; omega
      · by_cases h1 : 48 ≤ s[k].toNat ∧ s[k].toNat ≤ 57
        · have HN := Lib.hid (hnext (by rw [cls_name]; unfold cls; rw [if_neg h0, if_pos h1]; rfl) (fun _ => by omega))
          obtain ⟨a1, a2⟩ := h1
          have t1 : decide ((97 : Int) ≤ s[k].toNat) = false := by simp; omega
          have t3 : decide ((48 : Int) ≤ s[k].toNat) = true := by simp; omega
          have t4 : decide ((s[k].toNat : Int) ≤ 57) = true := by simp; omega
          clear hnext hc h0
          go_wp2_with fail
          go_round
          case rel => exact ⟨k + 1, by omega, by go_num, HN.out⟩
          case measure => simp [intOf]; omega
        · have t12 : decide ((97 : Int) ≤ s[k].toNat) = false ∨ (decide ((97 : Int) ≤ s[k].toNat) = true ∧ decide ((s[k].toNat : Int) ≤ 122) = false) := by
            by_cases h : 97 ≤ s[k].toNat
            · exact .inr ⟨by simp; omega, by simp; omega⟩
            · exact .inl (by simp; omega)
          have t34 : decide ((48 : Int) ≤ s[k].toNat) = false ∨ (decide ((48 : Int) ≤ s[k].toNat) = true ∧ decide ((s[k].toNat : Int) ≤ 57) = false) := by
            by_cases h : 48 ≤ s[k].toNat
            · exact .inr ⟨by simp; omega, by simp; omega⟩
            · exact .inl (by simp; omega)
          by_cases h2 : s[k].toNat = 45
          · have HN := Lib.hid (hnext (by rw [h2]; rfl) (fun _ => by omega))
            have e1 : ((s[k].toNat : Int) == 45) = true := by rw [h2]; rfl
            have e2 : ((s[k].toNat : Int) != 45) = false := by rw [bne, e1]; rfl
            clear hnext hc h0 h1 h2
            rcases t12 with t1 | ⟨t1, t2⟩ <;> rcases t34 with t3 | ⟨t3, t4⟩
            all_goals
              go_wp2_with fail
              go_round
              case rel => exact ⟨k + 1, by omega, by go_num, HN.out⟩
              case measure => simp [intOf]; omega
          · by_cases h3 : s[k].toNat = 95
            · have HN := Lib.hid (hnext (by rw [h3]; rfl) (fun _ => by omega))
              have e1 : ((s[k].toNat : Int) == 45) = false := by rw [h3]; rfl
              have e2 : ((s[k].toNat : Int) != 45) = true := by rw [bne, e1]; rfl
              have e3 : ((s[k].toNat : Int) == 95) = true := by rw [h3]; rfl
              have e4 : ((s[k].toNat : Int) != 95) = false := by rw [bne, e3]; rfl
              clear hnext hc h0 h1 h2 h3
              rcases t12 with t1 | ⟨t1, t2⟩ <;> rcases t34 with t3 | ⟨t3, t4⟩
              all_goals
                go_wp2_with fail
                go_round
                case rel => exact ⟨k + 1, by omega, by go_num, HN.out⟩
                case measure => simp [intOf]; omega
            · have e1 : ((s[k].toNat : Int) == 45) = false := by rw [beq_eq_false_iff_ne]; omega
              have e2 : ((s[k].toNat : Int) != 45) = true := by rw [bne, e1]; rfl
              have e3 : ((s[k].toNat : Int) == 95) = false := by rw [beq_eq_false_iff_ne]; omega
              have e4 : ((s[k].toNat : Int) != 95) = true := by rw [bne, e3]; rfl
              by_cases h4 : s[k].toNat = 46
              · have e5 : ((s[k].toNat : Int) == 46) = true := by rw [h4]; rfl
                have e6 : ((s[k].toNat : Int) != 46) = false := by rw [bne, e5]; rfl
                by_cases hk0 : k = 0
                · subst hk0
                  have hx := Lib.hid (nameL_dot' hlt h4)
                  clear hnext hc h0 h1 h2 h3 h4
                  rcases t12 with t1 | ⟨t1, t2⟩ <;> rcases t34 with t3 | ⟨t3, t4⟩
                  all_goals
                    go_wp2_with fail
                    go_ret
                    exact ⟨Sx.ret_bool hx.out.symm, rfl⟩
                · have HN := Lib.hid (hnext (by rw [h4]; rfl) (fun h => absurd h hk0))
                  have e7 : ((k : Int) == 0) = false := by rw [beq_eq_false_iff_ne]; omega
                  clear hnext hc h0 h1 h2 h3 h4 hk0
                  rcases t12 with t1 | ⟨t1, t2⟩ <;> rcases t34 with t3 | ⟨t3, t4⟩
                  all_goals
                    go_wp2_with fail
                    go_round
                    case rel => exact ⟨k + 1, by omega, by go_num, HN.out⟩
                    case measure => simp [intOf]; omega
              · have hx := Lib.hid (nameL_bad hlt (by rw [cls_name]; unfold cls; rw [if_neg h0, if_neg h1, if_neg h2, if_neg h3, if_neg h4]; rfl))
                have e5 : ((s[k].toNat : Int) == 46) = false := by rw [beq_eq_false_iff_ne]; omega
                have e6 : ((s[k].toNat : Int) != 46) = true := by rw [bne, e5]; rfl
                clear hnext hc h0 h1 h2 h3 h4
                rcases t12 with t1 | ⟨t1, t2⟩ <;> rcases t34 with t3 | ⟨t3, t4⟩
                all_goals
                  go_wp2_with fail
                  go_ret
                  exact ⟨Sx.ret_bool hx.out.symm, rfl⟩
    · have hx := Lib.hid (nameL_end (s := s) (fun i h => (HALL.out i h (by omega)).1) (fun h => (HALL.out 0 h (by omega)).2 rfl))
      by_cases h1 : 1 ≤ s.size
      · have t1 : decide ((1 : Int) ≤ s.size) = true := by simp; omega
        go_wp2_with fail
        go_ret
        exact ⟨Sx.ret_bool (by rw [hx.out]; by_cases h : s.size ≤ 32 <;> simp [h, h1] <;> omega), rfl⟩
      · have t1 : decide ((1 : Int) ≤ s.size) = false := by simp; omega
        go_wp2_with fail
        go_ret
        exact ⟨Sx.ret_bool (by rw [hx.out]; simp [h1]), rfl⟩
end Nm
end Go.Proofs.YtflhmoelenmomaaGreatDoor

/-
  Walk: path.Name.
-/
namespace Go.Proofs.YtflhmoelenmomaaGreatDoor
open Go.RowKit
namespace Nm

theorem no_enters : ∀ (args : Array Value) (w : World), (callFunc 67 args).run Tryz.prog w = .ok (.enter 67 args) w :=
  enters_of Tryz.func67 (by kernel_rfl) rfl
theorem contains_any (s : ByteArray) (b : Nat) (w : World) (h : w.cell? ⟨b, 0, none⟩ = some (.func (.func 65) #[] #[])) :
    Calls Tryz.prog 66 #[.string s, .func (.func 67) #[] #[.pointer (some ⟨b, 0, none⟩)]] w fun e w' => e = .returned (.bool (!(s.data.toList.all (fun c => nameR c.toNat)))) ∧ Below w.heap.size w w' := by
  have hc := Tryz.strings_ContainsFunc 67 #[.pointer (some ⟨b, 0, none⟩)] no_enters (fun r => !nameR r) s w (fun W x hb => by
    have hcell : W.cell? ⟨b, 0, none⟩ = some (.func (.func 65) #[] #[]) := (hb.cell (World.block_lt_of_cell? w _ h)).trans h
    exact (no_any x b W hcell).mono fun e w' ⟨he, hw⟩ => ⟨he, 0, hw⟩)
  rw [idx_all] at hc
  exact hc
theorem nameL_long {l : List UInt8} (h : 32 < l.length) : nameL l = false := by simp [nameL]; omega
theorem nameL_nil {l : List UInt8} (h : l.length = 0) : nameL l = false := by simp [nameL, h]
theorem nameL_dot {l : List UInt8} (h : l.head? = some 46) : nameL l = false := by simp [nameL, h]
theorem nameL_in {l : List UInt8} (h0 : 1 ≤ l.length) (h1 : l.length ≤ 32) (h2 : l.head? ≠ some 46) : nameL l = l.all (fun c => nameR c.toNat) := by simp [nameL, h0, h1, h2]
set_option maxHeartbeats 1000000 in
theorem name_any (s : ByteArray) (w : World) : Calls Tryz.prog 43 #[.string s] w fun e w' => e = .returned (.bool (nameL s.data.toList)) ∧ Below w.heap.size w w' := by
  have hz := Lib.size_eq s
  have hX := (Below.refl w.heap.size w).alloc (Nat.le_refl _) (.cells #[.func (.func 65) #[] #[]] 122)
  by_cases he : s = ⟨#[]⟩
  · have hx := Lib.hid (nameL_nil (l := s.data.toList) (by rw [he]; rfl))
    have h1 := Sx.emp_tt he
    clear hz he
    go_enter Tryz.func43, Tryz.ntmps43
    go_wp2
    go_ret
    exact ⟨Sx.ret_bool hx.out.symm, hX⟩
  · have h1 := Sx.emp_ff he
    have hpos : 0 < s.size := by
      rcases Nat.eq_zero_or_pos s.size with h0 | h0
      · exfalso
        apply he
        apply ByteArray.ext
        apply Array.toList_inj.1
        rw [h0] at hz
        exact List.length_eq_zero_iff.1 hz.symm
      · exact h0
    by_cases h32 : s.size ≤ 32
    · have t1 : decide ((s.size : Int) ≤ 32) = true := by simp; omega
      by_cases hd : s[0] = 46
      · have hx := Lib.hid (nameL_dot (l := s.data.toList) (by rw [head_get hpos, hd]))
        have d1 : ((s[0].toNat : Int) == 46) = true := by rw [hd]; rfl
        have d2 : ((s[0].toNat : Int) != 46) = false := by rw [bne, d1]; rfl
        clear hz he hd
        go_enter Tryz.func43, Tryz.ntmps43
        go_wp2
        go_ret
        exact ⟨Sx.ret_bool hx.out.symm, hX⟩
      · have hx := Lib.hid (nameL_in (l := s.data.toList) (by omega) (by omega) (by rw [head_get hpos]; intro e; exact hd (Option.some.inj e)))
        have d1 : ((s[0].toNat : Int) == 46) = false := by
          rw [beq_eq_false_iff_ne]
          intro e
          apply hd
          apply UInt8.toNat_inj.1
          show s[0].toNat = 46
          omega
        have d2 : ((s[0].toNat : Int) != 46) = true := by rw [bne, d1]; rfl
        clear hz he hd
        go_enter Tryz.func43, Tryz.ntmps43
        go_wp2_with (go_at_call 66; refine (contains_any s w.heap.size _ (by go_simp)).mono ?_; rintro e w' ⟨rfl, hb⟩)
        go_ret
        exact ⟨Sx.ret_bool (by rw [hx.out]; simp), hX.trans (hb.mono hX.size)⟩
    · have hx := Lib.hid (nameL_long (l := s.data.toList) (by omega))
      have t1 : decide ((s.size : Int) ≤ 32) = false := by simp; omega
      clear hz he
      go_enter Tryz.func43, Tryz.ntmps43
      go_wp2
      go_ret
      exact ⟨Sx.ret_bool hx.out.symm, hX⟩
end Nm
end Go.Proofs.YtflhmoelenmomaaGreatDoor
