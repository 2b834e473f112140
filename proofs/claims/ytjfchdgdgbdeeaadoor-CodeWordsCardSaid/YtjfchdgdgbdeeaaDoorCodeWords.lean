/-
  The law CodeWords, for every number and text.
-/
import Derived.Test.YtjfchdgdgbdeeaaDoorCodeM
namespace Go.Proofs.YtjfchdgdgbdeeaaDoor
open Go.RowKit
namespace Cd

set_option maxHeartbeats 1000000 in
set_option maxRecDepth 100000 in
theorem wordslaw_any (n : Int) (s : ByteArray) (W : World) (hE : Env W) : Calls Tryd.prog 5 #[.int .i64 n, .string s] W fun e W' => e = .returned (.bool true) ∧ Below W.heap.size W W' := by
  by_cases hs : 1024 < s.size
  · have hq : decide ((1024 : Int) < s.size) = true := by simp; omega
    go_enter Tryd.func5, Tryd.ntmps5
    go_wp2_with fail
    refine (alive_any _ hE).mono ?_
    rintro e w1 ⟨rfl, hb1⟩
    go_wp2
    go_ret
    exact ⟨rfl, hb1⟩
  · have hq : decide ((1024 : Int) < s.size) = false := by simp; omega
    go_enter Tryd.func5, Tryd.ntmps5
    go_wp2_with fail
    refine (alive_any _ hE).mono ?_
    rintro e w1 ⟨rfl, hb1⟩
    have hE1 := hE.below hb1
    go_wp2_with fail
    refine (word_any n _ hE1.tab).mono ?_
    rintro e w2 ⟨rfl, hb2⟩
    have hB2 := hb1.trans (hb2.mono hb1.size)
    go_wp2_with fail
    refine (wordr_any n _).mono ?_
    rintro e w3 ⟨rfl, hb3⟩
    have hB3 := hB2.trans (hb3.mono hB2.size)
    go_wp2_with fail
    refine (op_any s _ (hE.below hB3).tab).mono ?_
    rintro e w4 ⟨rfl, hb4⟩
    have hB4 := hB3.trans (hb4.mono hB3.size)
    go_wp2_with fail
    refine (opr_any s _).mono ?_
    rintro e w5 ⟨rfl, hb5⟩
    have hB5 := hB4.trans (hb5.mono hB4.size)
    go_wp2_with fail
    refine (takes_any n _).mono ?_
    rintro e w6 ⟨rfl, hb6⟩
    have hB6 := hB5.trans (hb6.mono hB5.size)
    go_wp2_with fail
    refine (takesr_any n _).mono ?_
    rintro e w7 ⟨rfl, hb7⟩
    have hB7 := hB6.trans (hb7.mono hB6.size)
    have hE7 := hE.below hB7
    clear hE hE1 hb1 hb2 hb3 hb4 hb5 hb6 hb7 hB2 hB3 hB4 hB5 hB6
    by_cases hw : wordB n = ⟨#[]⟩
    · have h1 := emp_tt hw
      go_wp2
      go_ret
      exact ⟨rfl, hB7⟩
    · have h1 := emp_ff hw
      have h2 := op_word hw
      go_wp2_with fail
      refine (op_any (wordB n) _ hE7.tab).mono ?_
      rintro e w8 ⟨rfl, hb8⟩
      rw [h2]
      go_wp2
      go_ret
      exact ⟨rfl, hB7.trans (hb8.mono hB7.size)⟩
end Cd
end Go.Proofs.YtjfchdgdgbdeeaaDoor
