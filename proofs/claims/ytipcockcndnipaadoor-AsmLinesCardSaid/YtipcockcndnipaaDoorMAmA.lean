/-
  Walks: Same, great, alive (the helpers of layer 9's laws).
-/
import Derived.Test.YtipcockcndnipaaDoorMAwK
import Derived.Test.YtipcockcndnipaaDoorMAwT
namespace Go.Proofs.YtipcockcndnipaaDoor
open Go.RowKit
namespace Aw
open As

def aliveT : ByteArray := ⟨#[97, 58, 10, 112, 117, 115, 104, 32, 49, 10, 122, 101, 114, 111, 32, 97, 10, 104, 97, 108, 116]⟩
def aliveP : List Cd.I := [⟨2, 1, ⟨#[]⟩⟩, ⟨18, 0, ⟨#[]⟩⟩, ⟨1, 0, ⟨#[]⟩⟩]
theorem alive_asm : asmP aliveT.data.toList = (aliveP, 0, 0) := by kernel_rfl
theorem alive_chk : (Cd.check aliveP).2 = 0 := by kernel_rfl
theorem alive_dis : disL aliveP = [108, 48, 58, 10, 112, 117, 115, 104, 32, 49, 10, 122, 101, 114, 111, 32, 108, 48, 10, 104, 97, 108, 116, 10] := by kernel_rfl
set_option maxHeartbeats 1000000 in
set_option maxRecDepth 100000 in
theorem alive_any (W : World) (hE : Env W) : Calls Tryd.prog 4 #[] W fun e W' => e = .returned (.bool true) ∧ Below W.heap.size W W' := by
  have hA : Calls Tryd.prog 6 #[.string ⟨#[97, 58, 10, 112, 117, 115, 104, 32, 49, 10, 122, 101, 114, 111, 32, 97, 10, 104, 97, 108, 116]⟩] W fun e w1 => ∃ v, e = .returned (.tuple #[v, .int .i64 0, .int .i64 0]) ∧ Cd.PS w1 v aliveP ∧ Below W.heap.size W w1 :=
    (assemble_any aliveT W hE).mono fun e w1 h => by
      obtain ⟨v, he, hP, hb⟩ := h
      rw [alive_asm] at he hP
      exact ⟨v, he, hP, hb⟩
  go_enter Tryd.func4, Tryd.ntmps4
  go_wp2_with (first
    | (go_at_call 6; refine hA.mono ?_; clear hA; rintro e w1 ⟨v, rfl, hP, hb1⟩; obtain ⟨sl, cap, rfl, -⟩ := hP.form; have hD := disassemble_any aliveP _ w1 hP (hE.below hb1); unfold DQ at hD; rw [alive_chk, if_pos rfl, alive_dis] at hD)
    | (go_at_call 5; refine hD.mono ?_; clear hD; rintro e w2 ⟨rfl, hb2⟩; have h3 : (aliveP.length : Int) = 3 := rfl))
  go_ret
  exact ⟨rfl, hb1.trans (hb2.mono hb1.size)⟩
end Aw
end Go.Proofs.YtipcockcndnipaaDoor
