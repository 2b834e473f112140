/-
  Walk: path.Name.
-/
import Derived.Test.YtbefgplaaghlbaaGreatDoorNmA
import Derived.Test.YtbefgplaaghlbaaGreatDoorShelf
import Derived.Laws.EntriesVeiled
import Derived.Outline
namespace Go.Proofs.YtbefgplaaghlbaaGreatDoor
open Go.RowKit
namespace Nm

theorem no_enters : ∀ (args : Array Value) (w : World), (callFunc 108 args).run Tryz.prog w = .ok (.enter 108 args) w :=
  enters_of Tryz.func108 (by kernel_rfl) rfl
theorem contains_any (s : ByteArray) (b : Nat) (w : World) (h : w.cell? ⟨b, 0, none⟩ = some (.func (.func 106) #[] #[])) :
    Calls Tryz.prog 107 #[.string s, .func (.func 108) #[] #[.pointer (some ⟨b, 0, none⟩)]] w fun e w' => e = .returned (.bool (!(s.data.toList.all (fun c => nameR c.toNat)))) ∧ Below w.heap.size w w' := by
  have hc := Tryz.strings_ContainsFunc 108 #[.pointer (some ⟨b, 0, none⟩)] no_enters (fun r => !nameR r) s w (fun W x hb => by
    have hcell : W.cell? ⟨b, 0, none⟩ = some (.func (.func 106) #[] #[]) := (hb.cell (World.block_lt_of_cell? w _ h)).trans h
    exact (no_any x b W hcell).mono fun e w' ⟨he, hw⟩ => ⟨he, 0, hw⟩)
  rw [idx_all] at hc
  exact hc
theorem nameL_long {l : List UInt8} (h : 32 < l.length) : nameL l = false := by simp [nameL]; omega
theorem nameL_nil {l : List UInt8} (h : l.length = 0) : nameL l = false := by simp [nameL, h]
theorem nameL_dot {l : List UInt8} (h : l.head? = some 46) : nameL l = false := by simp [nameL, h]
theorem nameL_in {l : List UInt8} (h0 : 1 ≤ l.length) (h1 : l.length ≤ 32) (h2 : l.head? ≠ some 46) : nameL l = l.all (fun c => nameR c.toNat) := by simp [nameL, h0, h1, h2]
set_option maxHeartbeats 1000000 in
theorem name_any (s : ByteArray) (w : World) : Calls Tryz.prog 80 #[.string s] w fun e w' => e = .returned (.bool (nameL s.data.toList)) ∧ Below w.heap.size w w' := by
  have hz := Lib.size_eq s
  have hX := (Below.refl w.heap.size w).alloc (Nat.le_refl _) (.cells #[.func (.func 106) #[] #[]] 129)
  by_cases he : s = ⟨#[]⟩
  · have hx := Lib.hid (nameL_nil (l := s.data.toList) (by rw [he]; rfl))
    have h1 := Sx.emp_tt he
    clear hz he
    go_enter Tryz.func80, Tryz.ntmps80
    go_wp2
    go_ret
    exact ⟨Sx.ret_bool hx.out.symm, hX⟩
  · have h1 := Sx.emp_ff he
    have hpos : 0 < s.size := by
      rcases Nat.eq_zero_or_pos s.size with h0 | h0
      · exfalso
        apply he
        apply ByteArray.ext
        apply Array.toList_inj.1
        rw [h0] at hz
        exact List.length_eq_zero_iff.1 hz.symm
      · exact h0
    by_cases h32 : s.size ≤ 32
    · have t1 : decide ((s.size : Int) ≤ 32) = true := by simp; omega
      by_cases hd : s[0] = 46
      · have hx := Lib.hid (nameL_dot (l := s.data.toList) (by rw [head_get hpos, hd]))
        have d1 : ((s[0].toNat : Int) == 46) = true := by rw [hd]; rfl
        have d2 : ((s[0].toNat : Int) != 46) = false := by rw [bne, d1]; rfl
        clear hz he hd
        go_enter Tryz.func80, Tryz.ntmps80
        go_wp2
        go_ret
        exact ⟨Sx.ret_bool hx.out.symm, hX⟩
      · have hx := Lib.hid (nameL_in (l := s.data.toList) (by omega) (by omega) (by rw [head_get hpos]; intro e; exact hd (Option.some.inj e)))
        have d1 : ((s[0].toNat : Int) == 46) = false := by
          rw [beq_eq_false_iff_ne]
          intro e
          apply hd
          apply UInt8.toNat_inj.1
          show s[0].toNat = 46
          omega
        have d2 : ((s[0].toNat : Int) != 46) = true := by rw [bne, d1]; rfl
        clear hz he hd
        go_enter Tryz.func80, Tryz.ntmps80
        go_wp2_with (go_at_call 107; refine (contains_any s w.heap.size _ (by go_simp)).mono ?_; rintro e w' ⟨rfl, hb⟩)
        go_ret
        exact ⟨Sx.ret_bool (by rw [hx.out]; simp), hX.trans (hb.mono hX.size)⟩
    · have hx := Lib.hid (nameL_long (l := s.data.toList) (by omega))
      have t1 : decide ((s.size : Int) ≤ 32) = false := by simp; omega
      clear hz he
      go_enter Tryz.func80, Tryz.ntmps80
      go_wp2
      go_ret
      exact ⟨Sx.ret_bool hx.out.symm, hX⟩
end Nm
end Go.Proofs.YtbefgplaaghlbaaGreatDoor
