/-
  Walks: Same, great, alive (the helpers of layer 9's laws).
-/
import Derived.Test.YtipcockcndnipaaGreatDoorMAwK
import Derived.Test.YtipcockcndnipaaGreatDoorMAwT
namespace Go.Proofs.YtipcockcndnipaaGreatDoor
open Go.RowKit
namespace Aw
open As

set_option maxHeartbeats 1000000 in
set_option maxRecDepth 100000 in
theorem same_any (p : List Cd.I) (v v' : Value) (W : World) (hP : Cd.PS W v p) (hP' : Cd.PS W v' p) :
    Calls Tryz.prog 11 #[v, v'] W fun e W' => e = .returned (.bool true) ∧ Below W.heap.size W W' := by
  have hsm := hP.small
  obtain ⟨sl, cap, rfl, hf⟩ := hP.form
  obtain ⟨sl', cap', rfl, hf'⟩ := hP'.form
  have HF := Lib.hid hf
  have HF' := Lib.hid hf'
  clear hf hf' hP hP'
  go_enter Tryz.func11, Tryz.ntmps11
  go_wp2_with fail
  go_loopw [13] (fun i wr => ∃ k : Nat, k ≤ p.length ∧ i = .int .i64 k ∧ Below W.heap.size W wr) (fun i _ => p.length - (intOf i).toNat)
  case atStart => exact ⟨0, Nat.zero_le _, rfl, Below.refl _ _⟩
  case round =>
    obtain ⟨k, hk, rfl, hb⟩ := hrel
    by_cases hlt : k < p.length
    · obtain ⟨x, hx⟩ : ∃ x, p[k]? = some x := ⟨p[k], List.getElem?_eq_getElem hlt⟩
      obtain ⟨b, o, rfl, ha, h3⟩ := HF.out k x hx
      obtain ⟨b', o', rfl, ha', h3'⟩ := HF'.out k x hx
      obtain ⟨c0, c1, c2⟩ := h3.below ha hb
      obtain ⟨c0', c1', c2'⟩ := h3'.below ha' hb
      clear hx h3 h3'
      go_wp2_with fail
      go_quiet (fail)
      go_wp2
      go_roundw
      case rel => exact ⟨k + 1, by omega, by go_num, Sx.below_drewN hb _⟩
      case measure => simp [intOf]; omega
    · go_wp2
      go_ret
      exact ⟨rfl, hb⟩
set_option maxHeartbeats 400000 in
theorem great_any (p : List Cd.I) (v : Value) (W : World) (hP : Cd.PS W v p) : Calls Tryz.prog 12 #[v] W fun e W' => ∃ b : Bool, e = .returned (.bool b) ∧ Below W.heap.size W W' := by
  have hsm := hP.small
  obtain ⟨sl, cap, rfl, hf⟩ := hP.form
  have HF := Lib.hid hf
  clear hf
  go_enter Tryz.func12, Tryz.ntmps12
  go_wp2_with fail
  go_loopw [3, 8] (fun n i wr => ∃ (k : Nat) (m : Int), k ≤ p.length ∧ i = .int .i64 k ∧ n = .int .i64 m ∧ Below W.heap.size W wr) (fun _ i _ => p.length - (intOf i).toNat)
  case atStart => exact ⟨0, 0, Nat.zero_le _, rfl, rfl, Below.refl _ _⟩
  case round =>
    obtain ⟨k, m, hk, rfl, rfl, hb⟩ := hrel
    by_cases hlt : k < p.length
    · obtain ⟨x, hx⟩ : ∃ x, p[k]? = some x := ⟨p[k], List.getElem?_eq_getElem hlt⟩
      obtain ⟨b, o, rfl, ha, h3⟩ := HF.out k x hx
      obtain ⟨c0, c1, c2⟩ := h3.below ha hb
      clear hx h3
      have hB := hb.alloc hb.size (.cells #[.int .i64 x.op, .int .i64 x.n, .string x.s] 38)
      go_wp2
      · go_ret
        exact ⟨_, rfl, hB⟩
      · go_roundw
        case rel => exact ⟨k + 1, _, by omega, by go_num, rfl, hB⟩
        case measure => simp [intOf]; omega
    · go_wp2
      go_ret
      exact ⟨_, rfl, hb⟩
def aliveT : ByteArray := ⟨#[97, 58, 10, 112, 117, 115, 104, 32, 49, 10, 122, 101, 114, 111, 32, 97, 10, 104, 97, 108, 116]⟩
def aliveP : List Cd.I := [⟨2, 1, ⟨#[]⟩⟩, ⟨18, 0, ⟨#[]⟩⟩, ⟨1, 0, ⟨#[]⟩⟩]
theorem alive_asm : asmP aliveT.data.toList = (aliveP, 0, 0) := by kernel_rfl
theorem alive_chk : (Cd.check aliveP).2 = 0 := by kernel_rfl
theorem alive_dis : disL aliveP = [108, 48, 58, 10, 112, 117, 115, 104, 32, 49, 10, 122, 101, 114, 111, 32, 108, 48, 10, 104, 97, 108, 116, 10] := by kernel_rfl
set_option maxHeartbeats 1000000 in
set_option maxRecDepth 100000 in
theorem alive_any (W : World) (hE : Env W) : Calls Tryz.prog 8 #[] W fun e W' => e = .returned (.bool true) ∧ Below W.heap.size W W' := by
  have hA : Calls Tryz.prog 9 #[.string ⟨#[97, 58, 10, 112, 117, 115, 104, 32, 49, 10, 122, 101, 114, 111, 32, 97, 10, 104, 97, 108, 116]⟩] W fun e w1 => ∃ v, e = .returned (.tuple #[v, .int .i64 0, .int .i64 0]) ∧ Cd.PS w1 v aliveP ∧ Below W.heap.size W w1 :=
    (assemble_any aliveT W hE).mono fun e w1 h => by
      obtain ⟨v, he, hP, hb⟩ := h
      rw [alive_asm] at he hP
      exact ⟨v, he, hP, hb⟩
  go_enter Tryz.func8, Tryz.ntmps8
  go_wp2_with (first
    | (go_at_call 9; refine hA.mono ?_; clear hA; rintro e w1 ⟨v, rfl, hP, hb1⟩; obtain ⟨sl, cap, rfl, -⟩ := hP.form; have hD := disassemble_any aliveP _ w1 hP (hE.below hb1); unfold DQ at hD; rw [alive_chk, if_pos rfl, alive_dis] at hD)
    | (go_at_call 13; refine hD.mono ?_; clear hD; rintro e w2 ⟨rfl, hb2⟩; have h3 : (aliveP.length : Int) = 3 := rfl))
  go_ret
  exact ⟨rfl, hb1.trans (hb2.mono hb1.size)⟩
end Aw
end Go.Proofs.YtipcockcndnipaaGreatDoor
