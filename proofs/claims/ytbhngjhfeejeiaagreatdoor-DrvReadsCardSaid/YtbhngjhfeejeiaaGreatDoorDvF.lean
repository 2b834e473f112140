/-
  Walks: Encode of the reference, Key of both texts, what the law's own helpers answer.
-/
import Derived.Test.YtbhngjhfeejeiaaGreatDoorDvE
namespace Go.Proofs.YtbhngjhfeejeiaaGreatDoor
open Go.RowKit Sx
namespace Dv

theorem SI.empty (W : World) : SI W (.slice none 0 0) [] := ⟨Option.none, 0, rfl, by simp, fun i x hx => by simp at hx⟩
def NS (d : D) : ByteArray := if goodD d = true then ES (enc (drvT d)) else ⟨#[]⟩
def NE (d : D) : Int := if goodD d = true then EE (enc (drvT d)) else 1
theorem ENV_eq (d : D) : ENV d = .tuple #[.string (NS d), .int .i64 (NE d)] := by
  unfold ENV NS NE
  cases goodD d
  · rfl
  · simp only [if_true]
    exact EV_eq _
theorem st_in (h c : Int) : 0 ≤ Mx.st h c ∧ Mx.st h c < 18446744073709551616 := by
  unfold Mx.st
  dsimp only
  generalize bits BinOp.xor IntKind.u64 _ _ = a
  show 0 ≤ (a + 15111065706836454659) % 18446744073709551616 ∧ (a + 15111065706836454659) % 18446744073709551616 < 18446744073709551616
  omega
theorem mixL_in : ∀ (l : List UInt8) (h : Int), 0 ≤ h ∧ h < 18446744073709551616 → 0 ≤ Mx.mixL h l ∧ Mx.mixL h l < 18446744073709551616
  | [], _, hh => hh
  | c :: l, h, _ => mixL_in l (Mx.st h (c.toNat : Int)) (st_in h _)
theorem ofL_in (l : List UInt8) : 0 ≤ Mx.ofL l ∧ Mx.ofL l < 18446744073709551616 := mixL_in l _ (Mx.xor_in _ _)
/-- a key of so many bits -/
def keyS (l : List UInt8) (k : Int) : ByteArray := ⟨(Mx.tls (Mx.nar (Mx.ofL l).toNat k) 13).toArray⟩
theorem nar_lt (h : Nat) (k : Int) (hh : h < 18446744073709551616) : Mx.nar h k < 18446744073709551616 := by
  unfold Mx.nar
  split
  · exact hh
  · exact Nat.lt_of_le_of_lt (Nat.mod_le _ _) hh
def KYV (d : D) (k : Int) : Value := if NE d = 0 then .tuple #[.string (keyS (NS d).data.toList k), .int .i64 0] else .tuple #[.string ⟨#[]⟩, .int .i64 (NE d)]
theorem KYV_ok {d : D} {k : Int} (h : NE d = 0) : KYV d k = .tuple #[.string (keyS (NS d).data.toList k), .int .i64 0] := by unfold KYV; rw [if_pos h]
theorem KYV_no {d : D} {k : Int} (h : NE d ≠ 0) : KYV d k = .tuple #[.string ⟨#[]⟩, .int .i64 (NE d)] := by unfold KYV; rw [if_neg h]
theorem KYV_eq (d : D) (k : Int) : KYV d k = .tuple #[.string (if NE d = 0 then keyS (NS d).data.toList k else ⟨#[]⟩), .int .i64 (NE d)] := by
  unfold KYV
  by_cases h : NE d = 0
  · rw [if_pos h, if_pos h, h]
  · rw [if_neg h, if_neg h]
theorem NS_size (d : D) : (NS d).size ≤ 65536 := by
  unfold NS
  split
  · unfold ES
    split
    · decide
    · show (enc (drvT d)).length ≤ 65536
      omega
  · decide
end Dv
end Go.Proofs.YtbhngjhfeejeiaaGreatDoor
