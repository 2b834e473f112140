/-
  Walks: alive, and the law DrvWrites.
-/
import Derived.Test.YtbhngjhfeejeiaaGreatDoorDvF
namespace Go.Proofs.YtbhngjhfeejeiaaGreatDoor
open Go.RowKit Sx
namespace Dv

def aD : D := ⟨⟨#[97]⟩, 1, 0, 0, ⟨#[97, 97, 97, 97, 97, 97, 97, 97, 97, 97, 97, 97, 97]⟩, []⟩
theorem env_aD : ENV aD = .tuple #[.string ⟨#[40, 51, 58, 100, 114, 118, 49, 58, 97, 53, 58, 49, 46, 48, 46, 48, 49, 51, 58, 97, 97, 97, 97, 97, 97, 97, 97, 97, 97, 97, 97, 97, 40, 41, 41]⟩, .int .i64 0] := by kernel_rfl
set_option maxHeartbeats 400000 in
theorem alive_any (W : World) (hE : Env W) (hE0 : Vs.Env0 W) : Calls Tryz.prog 4 #[] W fun e W' => e = .returned (.bool true) ∧ Below W.heap.size W W' := by
  have hA := encode_any aD (.slice none 0 0) W (SI.empty W) hE hE0
  rw [env_aD] at hA
  go_enter Tryz.func4, Tryz.ntmps4
  go_wp2_with fail
  refine hA.mono ?_
  rintro e w1 ⟨rfl, hb1⟩
  clear hA
  go_wp2
  go_ret
  exact ⟨rfl, hb1⟩

end Dv
end Go.Proofs.YtbhngjhfeejeiaaGreatDoor
