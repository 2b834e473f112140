/-
  Walk: great, for every list of instructions.
-/
import Derived.Test.YtjfchdgdgbdeeaaDoorCodeM
namespace Go.Proofs.YtjfchdgdgbdeeaaDoor
open Go.RowKit
namespace Cd

set_option maxHeartbeats 400000 in
theorem great_any (p : List I) (v : Value) (W : World) (hP : PS W v p) : Calls Tryd.prog 9 #[v] W fun e W' => ∃ b : Bool, e = .returned (.bool b) ∧ Below W.heap.size W W' := by
  have hsm := hP.small
  obtain ⟨sl, cap, rfl, hf⟩ := hP.form
  have HF := Lib.hid hf
  clear hf
  go_enter Tryd.func9, Tryd.ntmps9
  go_wp2_with fail
  go_loopw [3, 8] (fun n i wr => ∃ (k : Nat) (m : Int), k ≤ p.length ∧ i = .int .i64 k ∧ n = .int .i64 m ∧ Below W.heap.size W wr) (fun _ i _ => p.length - (intOf i).toNat)
  case atStart => exact ⟨0, 0, Nat.zero_le _, rfl, rfl, Below.refl _ _⟩
  case round =>
    obtain ⟨k, m, hk, rfl, rfl, hb⟩ := hrel
    by_cases hlt : k < p.length
    · obtain ⟨x, hx⟩ : ∃ x, p[k]? = some x := ⟨p[k], List.getElem?_eq_getElem hlt⟩
      obtain ⟨b, o, rfl, ha, h3⟩ := HF.out k x hx
      obtain ⟨c0, c1, c2⟩ := h3.below ha hb
      clear hx h3
      have hB := hb.alloc hb.size (.cells #[.int .i64 x.op, .int .i64 x.n, .string x.s] 31)
      go_wp2
      · go_ret
        exact ⟨_, rfl, hB⟩
      · go_roundw
        case rel => exact ⟨k + 1, _, by omega, by go_num, rfl, hB⟩
        case measure => simp [intOf]; omega
    · go_wp2
      go_ret
      exact ⟨_, rfl, hb⟩

end Cd
end Go.Proofs.YtjfchdgdgbdeeaaDoor
