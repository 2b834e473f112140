/-
  Walk: the reference's Same of two programs that are the same.
-/
import Derived.Test.YtjfchdgdgbdeeaaDoorCodeRO
namespace Go.Proofs.YtjfchdgdgbdeeaaDoor
open Go.RowKit
namespace Cd

set_option maxHeartbeats 1000000 in
set_option maxRecDepth 100000 in
theorem same8_any (p : List I) (v v' : Value) (W : World) (hP : PS W v p) (hP' : PS W v' p) :
    Calls Tryd.prog 22 #[v, v'] W fun e W' => e = .returned (.bool true) ∧ Below W.heap.size W W' := by
  have hsm := hP.small
  obtain ⟨sl, cap, rfl, hf⟩ := hP.form
  obtain ⟨sl', cap', rfl, hf'⟩ := hP'.form
  have HF := Lib.hid hf
  have HF' := Lib.hid hf'
  clear hf hf' hP hP'
  go_enter Tryd.func22, Tryd.ntmps22
  go_wp2_with fail
  go_loopw [13] (fun i wr => ∃ k : Nat, k ≤ p.length ∧ i = .int .i64 k ∧ Below W.heap.size W wr) (fun i _ => p.length - (intOf i).toNat)
  case atStart => exact ⟨0, Nat.zero_le _, rfl, Below.refl _ _⟩
  case round =>
    obtain ⟨k, hk, rfl, hb⟩ := hrel
    by_cases hlt : k < p.length
    · obtain ⟨x, hx⟩ : ∃ x, p[k]? = some x := ⟨p[k], List.getElem?_eq_getElem hlt⟩
      obtain ⟨b, o, rfl, ha, h3⟩ := HF.out k x hx
      obtain ⟨b', o', rfl, ha', h3'⟩ := HF'.out k x hx
      obtain ⟨c0, c1, c2⟩ := h3.below ha hb
      obtain ⟨c0', c1', c2'⟩ := h3'.below ha' hb
      clear hx h3 h3'
      go_wp2_with fail
      go_quiet (fail)
      go_wp2
      go_roundw
      case rel => exact ⟨k + 1, by omega, by go_num, below_drewN hb _⟩
      case measure => simp [intOf]; omega
    · go_wp2
      go_ret
      exact ⟨rfl, hb⟩
end Cd
end Go.Proofs.YtjfchdgdgbdeeaaDoor
