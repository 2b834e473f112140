/-
  Walks: a name, of both texts (layer 4): the closures of path.Name, the reference's Name.
-/
import Derived.Test.YtbefgplaaghlbaaGreatDoorNmP
namespace Go.Proofs.YtbefgplaaghlbaaGreatDoor
open Go.RowKit
namespace Nm

set_option maxHeartbeats 1000000 in
theorem ok_any (x : Nat) (w : World) : Calls Tryz.prog 106 #[.int .i32 (x : Int)] w fun e w' => e = .returned (.bool (nameR x)) ∧ w' = w := by
  have cases : (97 ≤ x ∧ x ≤ 122) ∨ (48 ≤ x ∧ x ≤ 57) ∨ x = 45 ∨ x = 95 ∨ x = 46 ∨ x = 47 ∨ x = 96 ∨ x < 45 ∨ (58 ≤ x ∧ x ≤ 94) ∨ 123 ≤ x := by omega
  rcases cases with ⟨a, b⟩ | ⟨a, b⟩ | h | h | h | h | h | a | ⟨a, b⟩ | a
  · have hx := Lib.hid (show nameR x = true by simp only [nameR, Bool.or_eq_true, Bool.and_eq_true, decide_eq_true_eq]; omega)
    have t1 : decide ((97 : Int) ≤ x) = true := by simp; omega
    have t2 : decide ((x : Int) ≤ 122) = true := by simp; omega
    go_enter Tryz.func106, Tryz.ntmps106
    go_wp2
    go_ret
    exact ⟨Sx.ret_bool hx.out.symm, rfl⟩
  · have hx := Lib.hid (show nameR x = true by simp only [nameR, Bool.or_eq_true, Bool.and_eq_true, decide_eq_true_eq]; omega)
    have t1 : decide ((97 : Int) ≤ x) = false := by simp; omega
    have t3 : decide ((48 : Int) ≤ x) = true := by simp; omega
    have t4 : decide ((x : Int) ≤ 57) = true := by simp; omega
    go_enter Tryz.func106, Tryz.ntmps106
    go_wp2
    go_ret
    exact ⟨Sx.ret_bool hx.out.symm, rfl⟩
  · subst h
    go_enter Tryz.func106, Tryz.ntmps106
    go_wp2
    go_ret
    exact ⟨rfl, rfl⟩
  · subst h
    go_enter Tryz.func106, Tryz.ntmps106
    go_wp2
    go_ret
    exact ⟨rfl, rfl⟩
  · subst h
    go_enter Tryz.func106, Tryz.ntmps106
    go_wp2
    go_ret
    exact ⟨rfl, rfl⟩
  · subst h
    go_enter Tryz.func106, Tryz.ntmps106
    go_wp2
    go_ret
    exact ⟨rfl, rfl⟩
  · subst h
    go_enter Tryz.func106, Tryz.ntmps106
    go_wp2
    go_ret
    exact ⟨rfl, rfl⟩
  all_goals
    have hx := Lib.hid (show nameR x = false by simp only [nameR, Bool.or_eq_false_iff, Bool.and_eq_false_iff, decide_eq_false_iff_not]; omega)
    have e1 : ((x : Int) == 45) = false := by rw [beq_eq_false_iff_ne]; omega
    have e2 : ((x : Int) == 95) = false := by rw [beq_eq_false_iff_ne]; omega
    have e3 : ((x : Int) == 46) = false := by rw [beq_eq_false_iff_ne]; omega
  · have t1 : decide ((97 : Int) ≤ x) = false := by simp; omega
    have t3 : decide ((48 : Int) ≤ x) = false := by simp; omega
    go_enter Tryz.func106, Tryz.ntmps106
    go_wp2
    go_ret
    exact ⟨Sx.ret_bool hx.out.symm, rfl⟩
  · have t1 : decide ((97 : Int) ≤ x) = false := by simp; omega
    have t3 : decide ((48 : Int) ≤ x) = true := by simp; omega
    have t4 : decide ((x : Int) ≤ 57) = false := by simp; omega
    go_enter Tryz.func106, Tryz.ntmps106
    go_wp2
    go_ret
    exact ⟨Sx.ret_bool hx.out.symm, rfl⟩
  · have t1 : decide ((97 : Int) ≤ x) = true := by simp; omega
    have t2 : decide ((x : Int) ≤ 122) = false := by simp; omega
    have t3 : decide ((48 : Int) ≤ x) = true := by simp; omega
    have t4 : decide ((x : Int) ≤ 57) = false := by simp; omega
    go_enter Tryz.func106, Tryz.ntmps106
    go_wp2
    go_ret
    exact ⟨Sx.ret_bool hx.out.symm, rfl⟩
set_option maxHeartbeats 1000000 in
theorem no_any (x : Nat) (b : Nat) (w : World) (h : w.cell? ⟨b, 0, none⟩ = some (.func (.func 106) #[] #[])) :
    Calls Tryz.prog 108 #[.int .i32 (x : Int), .pointer (some ⟨b, 0, none⟩)] w fun e w' => e = .returned (.bool (!nameR x)) ∧ w' = w := by
  go_enter Tryz.func108, Tryz.ntmps108
  go_wp2_with (go_at_call 106; refine (ok_any _ _).mono ?_; rintro e w' ⟨rfl, rfl⟩)
  go_ret
  exact ⟨rfl, rfl⟩
end Nm
end Go.Proofs.YtbefgplaaghlbaaGreatDoor
