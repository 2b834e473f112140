/-
  The law AsmReads, for every text.
-/
import Derived.Test.YtipcockcndnipaaGreatDoorMAmA
namespace Go.Proofs.YtipcockcndnipaaGreatDoor
open Go.RowKit
namespace Aw
open As

set_option maxHeartbeats 4000000 in
set_option maxRecDepth 100000 in
theorem readslaw_any (s : ByteArray) (W : World) (hE : Env W) :
    Calls Tryz.prog 3 #[.string s] W fun e W' => e = .returned (.bool true) ∧ Below W.heap.size W W' := by
  have hal := alive_any W hE
  by_cases hl : 131072 < s.size
  · have j1 : (131072 : Int) < s.size := by omega
    clear hl
    go_enter Tryz.func3, Tryz.ntmps3
    go_wp2_with (first
      | (go_at_call 8; refine hal.mono ?_; clear hal; rintro e w1 ⟨rfl, hb1⟩))
    go_ret
    exact ⟨rfl, hb1⟩
  · have j1 : ¬ (131072 : Int) < s.size := by omega
    have hA := fun w h => assemble_any s w h
    have hR := fun w h => rassemble_any s w h
    unfold AQ at hA hR
    generalize asmP s.data.toList = r at *
    obtain ⟨p, n, er⟩ := r
    dsimp only at hA hR
    clear hl
    go_enter Tryz.func3, Tryz.ntmps3
    go_wp2_with (first
      | (go_at_call 8; refine hal.mono ?_; clear hal; rintro e w1 ⟨rfl, hb1⟩)
      | (go_at_call 9; refine (hA _ (hE.below hb1)).mono ?_; clear hA; rintro e w2 ⟨v, rfl, hP, hb2⟩; have hB2 := hb1.trans (hb2.mono hb1.size); obtain ⟨sl, cap, rfl, -⟩ := hP.form)
      | (go_at_call 10; refine (hR _ (hE.below hB2)).mono ?_; clear hR; rintro e w3 ⟨v', rfl, hQ, hb3⟩; have hB3 := hB2.trans (hb3.mono hB2.size); obtain ⟨sl', cap', rfl, -⟩ := hQ.form; have hS := same_any p _ _ w3 (hP.below hb3) hQ; clear hP hQ)
      | (go_at_call 11; refine hS.mono ?_; clear hS; rintro e w4 ⟨rfl, hb4⟩))
    go_ret
    exact ⟨rfl, hB3.trans (hb4.mono hB3.size)⟩
end Aw
end Go.Proofs.YtipcockcndnipaaGreatDoor
