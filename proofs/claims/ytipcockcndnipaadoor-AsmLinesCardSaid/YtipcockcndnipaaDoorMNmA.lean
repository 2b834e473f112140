/-
  Walks: a name, of both texts (layer 4): the closures of path.Name, the reference's Name.
-/
import Derived.Test.YtipcockcndnipaaDoorMNmP
import Derived.Test.YtipcockcndnipaaDoorShelf
import Derived.Laws.EntriesVeiled
import Derived.Outline
namespace Go.Proofs.YtipcockcndnipaaDoor
open Go.RowKit
namespace Nm

set_option maxHeartbeats 1000000 in
theorem ok_any (x : Nat) (w : World) : Calls Tryd.prog 44 #[.int .i32 (x : Int)] w fun e w' => e = .returned (.bool (nameR x)) ∧ w' = w := by
  have cases : (97 ≤ x ∧ x ≤ 122) ∨ (48 ≤ x ∧ x ≤ 57) ∨ x = 45 ∨ x = 95 ∨ x = 46 ∨ x = 47 ∨ x = 96 ∨ x < 45 ∨ (58 ≤ x ∧ x ≤ 94) ∨ 123 ≤ x := by omega
  rcases cases with ⟨a, b⟩ | ⟨a, b⟩ | h | h | h | h | h | a | ⟨a, b⟩ | a
  · have hx := Lib.hid (show nameR x = true by simp only [nameR, Bool.or_eq_true, Bool.and_eq_true, decide_eq_true_eq]; omega)
    have t1 : decide ((97 : Int) ≤ x) = true := by simp; omega
    have t2 : decide ((x : Int) ≤ 122) = true := by simp; omega
    go_enter Tryd.func44, Tryd.ntmps44
    go_wp2
    go_ret
    exact ⟨Sx.ret_bool hx.out.symm, rfl⟩
  · have hx := Lib.hid (show nameR x = true by simp only [nameR, Bool.or_eq_true, Bool.and_eq_true, decide_eq_true_eq]; omega)
    have t1 : decide ((97 : Int) ≤ x) = false := by simp; omega
    have t3 : decide ((48 : Int) ≤ x) = true := by simp; omega
    have t4 : decide ((x : Int) ≤ 57) = true := by simp; omega
    go_enter Tryd.func44, Tryd.ntmps44
    go_wp2
    go_ret
    exact ⟨Sx.ret_bool hx.out.symm, rfl⟩
  · subst h
    go_enter Tryd.func44, Tryd.ntmps44
    go_wp2
    go_ret
    exact ⟨rfl, rfl⟩
  · subst h
    go_enter Tryd.func44, Tryd.ntmps44
    go_wp2
    go_ret
    exact ⟨rfl, rfl⟩
  · subst h
    go_enter Tryd.func44, Tryd.ntmps44
    go_wp2
    go_ret
    exact ⟨rfl, rfl⟩
  · subst h
    go_enter Tryd.func44, Tryd.ntmps44
    go_wp2
    go_ret
    exact ⟨rfl, rfl⟩
  · subst h
    go_enter Tryd.func44, Tryd.ntmps44
    go_wp2
    go_ret
    exact ⟨rfl, rfl⟩
  all_goals
    have hx := Lib.hid (show nameR x = false by simp only [nameR, Bool.or_eq_false_iff, Bool.and_eq_false_iff, decide_eq_false_iff_not]; omega)
    have e1 : ((x : Int) == 45) = false := by rw [beq_eq_false_iff_ne]; omega
    have e2 : ((x : Int) == 95) = false := by rw [beq_eq_false_iff_ne]; omega
    have e3 : ((x : Int) == 46) = false := by rw [beq_eq_false_iff_ne]; omega
  · have t1 : decide ((97 : Int) ≤ x) = false := by simp; omega
    have t3 : decide ((48 : Int) ≤ x) = false := by simp; omega
    go_enter Tryd.func44, Tryd.ntmps44
    go_wp2
    go_ret
    exact ⟨Sx.ret_bool hx.out.symm, rfl⟩
  · have t1 : decide ((97 : Int) ≤ x) = false := by simp; omega
    have t3 : decide ((48 : Int) ≤ x) = true := by simp; omega
    have t4 : decide ((x : Int) ≤ 57) = false := by simp; omega
    go_enter Tryd.func44, Tryd.ntmps44
    go_wp2
    go_ret
    exact ⟨Sx.ret_bool hx.out.symm, rfl⟩
  · have t1 : decide ((97 : Int) ≤ x) = true := by simp; omega
    have t2 : decide ((x : Int) ≤ 122) = false := by simp; omega
    have t3 : decide ((48 : Int) ≤ x) = true := by simp; omega
    have t4 : decide ((x : Int) ≤ 57) = false := by simp; omega
    go_enter Tryd.func44, Tryd.ntmps44
    go_wp2
    go_ret
    exact ⟨Sx.ret_bool hx.out.symm, rfl⟩
set_option maxHeartbeats 1000000 in
theorem no_any (x : Nat) (b : Nat) (w : World) (h : w.cell? ⟨b, 0, none⟩ = some (.func (.func 44) #[] #[])) :
    Calls Tryd.prog 46 #[.int .i32 (x : Int), .pointer (some ⟨b, 0, none⟩)] w fun e w' => e = .returned (.bool (!nameR x)) ∧ w' = w := by
  go_enter Tryd.func46, Tryd.ntmps46
  go_wp2_with (go_at_call 44; refine (ok_any _ _).mono ?_; rintro e w' ⟨rfl, rfl⟩)
  go_ret
  exact ⟨rfl, rfl⟩
end Nm
end Go.Proofs.YtipcockcndnipaaDoor

/-
  Walk: path.Name.
-/
namespace Go.Proofs.YtipcockcndnipaaDoor
open Go.RowKit
namespace Nm

theorem no_enters : ∀ (args : Array Value) (w : World), (callFunc 46 args).run Tryd.prog w = .ok (.enter 46 args) w :=
  enters_of Tryd.func46 (by kernel_rfl) rfl
theorem contains_any (s : ByteArray) (b : Nat) (w : World) (h : w.cell? ⟨b, 0, none⟩ = some (.func (.func 44) #[] #[])) :
    Calls Tryd.prog 45 #[.string s, .func (.func 46) #[] #[.pointer (some ⟨b, 0, none⟩)]] w fun e w' => e = .returned (.bool (!(s.data.toList.all (fun c => nameR c.toNat)))) ∧ Below w.heap.size w w' := by
  have hc := Tryd.strings_ContainsFunc 46 #[.pointer (some ⟨b, 0, none⟩)] no_enters (fun r => !nameR r) s w (fun W x hb => by
    have hcell : W.cell? ⟨b, 0, none⟩ = some (.func (.func 44) #[] #[]) := (hb.cell (World.block_lt_of_cell? w _ h)).trans h
    exact (no_any x b W hcell).mono fun e w' ⟨he, hw⟩ => ⟨he, 0, hw⟩)
  rw [idx_all] at hc
  exact hc
theorem nameL_long {l : List UInt8} (h : 32 < l.length) : nameL l = false := by simp [nameL]; omega
theorem nameL_nil {l : List UInt8} (h : l.length = 0) : nameL l = false := by simp [nameL, h]
theorem nameL_dot {l : List UInt8} (h : l.head? = some 46) : nameL l = false := by simp [nameL, h]
theorem nameL_in {l : List UInt8} (h0 : 1 ≤ l.length) (h1 : l.length ≤ 32) (h2 : l.head? ≠ some 46) : nameL l = l.all (fun c => nameR c.toNat) := by simp [nameL, h0, h1, h2]
set_option maxHeartbeats 1000000 in
theorem name_any (s : ByteArray) (w : World) : Calls Tryd.prog 30 #[.string s] w fun e w' => e = .returned (.bool (nameL s.data.toList)) ∧ Below w.heap.size w w' := by
  have hz := Lib.size_eq s
  have hX := (Below.refl w.heap.size w).alloc (Nat.le_refl _) (.cells #[.func (.func 44) #[] #[]] 96)
  by_cases he : s = ⟨#[]⟩
  · have hx := Lib.hid (nameL_nil (l := s.data.toList) (by rw [he]; rfl))
    have h1 := Sx.emp_tt he
    clear hz he
    go_enter Tryd.func30, Tryd.ntmps30
    go_wp2
    go_ret
    exact ⟨Sx.ret_bool hx.out.symm, hX⟩
  · have h1 := Sx.emp_ff he
    have hpos : 0 < s.size := by
      rcases Nat.eq_zero_or_pos s.size with h0 | h0
      · exfalso
        apply he
        apply ByteArray.ext
        apply Array.toList_inj.1
        rw [h0] at hz
        exact List.length_eq_zero_iff.1 hz.symm
      · exact h0
    by_cases h32 : s.size ≤ 32
    · have t1 : decide ((s.size : Int) ≤ 32) = true := by simp; omega
      by_cases hd : s[0] = 46
      · have hx := Lib.hid (nameL_dot (l := s.data.toList) (by rw [head_get hpos, hd]))
        have d1 : ((s[0].toNat : Int) == 46) = true := by rw [hd]; rfl
        have d2 : ((s[0].toNat : Int) != 46) = false := by rw [bne, d1]; rfl
        clear hz he hd
        go_enter Tryd.func30, Tryd.ntmps30
        go_wp2
        go_ret
        exact ⟨Sx.ret_bool hx.out.symm, hX⟩
      · have hx := Lib.hid (nameL_in (l := s.data.toList) (by omega) (by omega) (by rw [head_get hpos]; intro e; exact hd (Option.some.inj e)))
        have d1 : ((s[0].toNat : Int) == 46) = false := by
          rw [beq_eq_false_iff_ne]
          intro e
          apply hd
          apply UInt8.toNat_inj.1
          show s[0].toNat = 46
          omega
        have d2 : ((s[0].toNat : Int) != 46) = true := by rw [bne, d1]; rfl
        clear hz he hd
        go_enter Tryd.func30, Tryd.ntmps30
        go_wp2_with (go_at_call 45; refine (contains_any s w.heap.size _ (by go_simp)).mono ?_; rintro e w' ⟨rfl, hb⟩)
        go_ret
        exact ⟨Sx.ret_bool (by rw [hx.out]; simp), hX.trans (hb.mono hX.size)⟩
    · have hx := Lib.hid (nameL_long (l := s.data.toList) (by omega))
      have t1 : decide ((s.size : Int) ≤ 32) = false := by simp; omega
      clear hz he
      go_enter Tryd.func30, Tryd.ntmps30
      go_wp2
      go_ret
      exact ⟨Sx.ret_bool hx.out.symm, hX⟩
end Nm
end Go.Proofs.YtipcockcndnipaaDoor

/-
  Walk: the reference's Name (layer 4).
-/
namespace Go.Proofs.YtipcockcndnipaaDoor
open Go.RowKit
namespace Nm

def cls (x : Nat) : Nat := if 97 ≤ x ∧ x ≤ 122 then 0 else if 48 ≤ x ∧ x ≤ 57 then 1 else if x = 45 then 2 else if x = 95 then 3 else if x = 46 then 4 else 5
theorem cls_name (x : Nat) : nameR x = decide (cls x < 5) := by
  unfold cls nameR
  by_cases h0 : 97 ≤ x ∧ x ≤ 122
  · simp [h0]
  · by_cases h1 : 48 ≤ x ∧ x ≤ 57
    · rw [if_neg h0, if_pos h1]; simp [h1]
    · by_cases h2 : x = 45
      · subst h2; decide
      · by_cases h3 : x = 95
        · subst h3; decide
        · by_cases h4 : x = 46
          · subst h4; decide
          · rw [if_neg h0, if_neg h1, if_neg h2, if_neg h3, if_neg h4]
            simp [h2, h3, h4]
            omega
theorem nameL_bad {s : ByteArray} {k : Nat} (h : k < s.size) (hn : nameR s[k].toNat = false) : nameL s.data.toList = false := by
  have : s.data.toList.all (fun c => nameR c.toNat) = false := by
    cases ha : s.data.toList.all (fun c => nameR c.toNat)
    · rfl
    · have := all_get.1 ha k h
      rw [hn] at this
      cases this
  simp [nameL, this]
theorem nameL_dot' {s : ByteArray} (h : 0 < s.size) (hd : s[0].toNat = 46) : nameL s.data.toList = false := by
  have e : s[0] = 46 := UInt8.toNat_inj.1 (by rw [hd]; rfl)
  simp [nameL, head_get h, e]
theorem nameL_end {s : ByteArray} (ha : ∀ (i : Nat) (h : i < s.size), nameR s[i].toNat = true) (hd : ∀ h : 0 < s.size, s[0].toNat ≠ 46) : nameL s.data.toList = (decide (1 ≤ s.size) && decide (s.size ≤ 32)) := by
  have hz := Lib.size_eq s
  unfold nameL
  rw [all_get.2 ha, ← hz]
  by_cases h0 : 0 < s.size
  · rw [head_get h0]
    have : s[0] ≠ 46 := fun e => hd h0 (by rw [e]; rfl)
    simp [this]
  · have : s.size = 0 := by omega
    simp [this]
end Nm
end Go.Proofs.YtipcockcndnipaaDoor
