/-
  VersionTexts answers true for every version and every text.
-/
import Derived.Test.YtbhngjhfeejeiaaDoorVsQ
import Derived.Test.YtbhngjhfeejeiaaDoorVsB
namespace Go.Proofs.YtbhngjhfeejeiaaDoor
open Go.RowKit
namespace Vs
attribute [local go_sem] eqV

theorem text_len (a b c : Int) : (textL a b c).length ≤ 1000 := by
  unfold textL
  split
  · rename_i h
    obtain ⟨a0, a1, b0, b1, c0, c1⟩ := of_good h
    have l0 := Lib.itoa_length_le a (by omega) (by omega)
    have l1 := Lib.itoa_length_le b (by omega) (by omega)
    have l2 := Lib.itoa_length_le c (by omega) (by omega)
    simp
    omega
  · simp
theorem parse_T {a b c : Int} (h : goodB a b c = true) : PV (parseL (ByteArray.mk (textL a b c).toArray).data.toList) = .tuple #[V a b c, .int .i64 0] := by
  show PV (parseL (textL a b c)) = _
  rw [parse_text h]
  rfl
theorem parse_F {a b c : Int} (h : goodB a b c = false) : PV (parseL (ByteArray.mk (textL a b c).toArray).data.toList) = .tuple #[V 0 0 0, .int .i64 20] := by
  have : textL a b c = [] := by simp [textL, h]
  rw [this]
  show PV (parseL []) = _
  rw [show parseL [] = none by decide +kernel]
  rfl

end Vs
end Go.Proofs.YtbhngjhfeejeiaaDoor
