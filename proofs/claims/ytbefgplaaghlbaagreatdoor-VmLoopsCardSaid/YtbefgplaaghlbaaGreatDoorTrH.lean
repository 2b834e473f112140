/-
  Walks: strings.HasPrefix.
-/
import Derived.Test.YtbefgplaaghlbaaGreatDoorTrF
import Derived.Test.YtbefgplaaghlbaaGreatDoorTrE
import Derived.Lib.Strings
namespace Go.Proofs.YtbefgplaaghlbaaGreatDoor
open Go.RowKit Go.Lib
namespace Tr

theorem prefix_iff (p s : List UInt8) : p.isPrefixOf s = (decide (p.length ≤ s.length) && decide (s.take p.length = p)) := by
  rw [Bool.eq_iff_iff, List.isPrefixOf_iff_prefix, Bool.and_eq_true, decide_eq_true_eq, decide_eq_true_eq, List.prefix_iff_eq_take]
  constructor
  · intro h
    refine ⟨?_, h.symm⟩
    have := congrArg List.length h
    rw [List.length_take] at this
    omega
  · rintro ⟨-, h⟩
    exact h.symm
set_option maxHeartbeats 1000000 in
theorem hasprefix0_any (s p : ByteArray) (w : World) : Calls Tryz.prog 83 #[.string s, .string p] w fun e w' => e = .returned (.bool (p.data.toList.isPrefixOf s.data.toList)) ∧ w' = w := by
  have hzs := Lib.size_eq s
  have hzp := Lib.size_eq p
  by_cases hl : p.size ≤ s.size
  · have he : (s.extract 0 p.size).toList = s.data.toList.take p.data.toList.length := by rw [ByteArray.toList_eq, Lib.extract_data, List.drop_zero, Nat.sub_zero, hzp]
    by_cases h : s.data.toList.take p.data.toList.length = p.data.toList
    · have HR := Lib.hid (show p.data.toList.isPrefixOf s.data.toList = true by rw [prefix_iff, decide_eq_true (by omega), decide_eq_true h]; rfl)
      have h3 : ((s.extract 0 p.size).toList == p.toList) = true := by rw [he, h, ByteArray.toList_eq]; exact beq_self_eq_true _
      clear hzs hzp he h
      go_enter Tryz.func83, Tryz.ntmps83
      go_wp2_with fail
      go_ret
      rw [HR.out]
      exact ⟨rfl, rfl⟩
    · have HR := Lib.hid (show p.data.toList.isPrefixOf s.data.toList = false by rw [prefix_iff, decide_eq_false h, Bool.and_false])
      have h3 : ((s.extract 0 p.size).toList == p.toList) = false := by rw [he, ByteArray.toList_eq]; exact beq_eq_false_iff_ne.2 h
      clear hzs hzp he h
      go_enter Tryz.func83, Tryz.ntmps83
      go_wp2_with fail
      go_ret
      rw [HR.out]
      exact ⟨rfl, rfl⟩
  · have HR := Lib.hid (show p.data.toList.isPrefixOf s.data.toList = false by rw [prefix_iff, decide_eq_false (by omega), Bool.false_and])
    clear hzs hzp
    go_enter Tryz.func83, Tryz.ntmps83
    go_wp2_with fail
    go_ret
    rw [HR.out]
    exact ⟨rfl, rfl⟩
set_option maxHeartbeats 1000000 in
theorem hasprefix_any (s p : ByteArray) (w : World) : Calls Tryz.prog 63 #[.string s, .string p] w fun e w' => e = .returned (.bool (p.data.toList.isPrefixOf s.data.toList)) ∧ w' = w := by
  have h := hasprefix0_any s p w
  generalize p.data.toList.isPrefixOf s.data.toList = b at *
  go_enter Tryz.func63, Tryz.ntmps63
  go_wp2_with (first
    | (go_at_call 83; with_reducible refine h.mono ?_; rintro e w1 ⟨he, hw⟩; subst he; subst w1))
  go_ret
  exact ⟨rfl, rfl⟩
end Tr
end Go.Proofs.YtbefgplaaghlbaaGreatDoor
