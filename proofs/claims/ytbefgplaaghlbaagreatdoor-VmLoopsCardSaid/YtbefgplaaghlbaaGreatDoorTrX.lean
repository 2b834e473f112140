/-
  Walks: symMerge over files: its contract at any two parts.
-/
import Derived.Test.YtbefgplaaghlbaaGreatDoorTrV
namespace Go.Proofs.YtbefgplaaghlbaaGreatDoor
open Go.RowKit Go.Lib
namespace Tr

theorem symmerge_le : ∀ (n : Nat) (A B : List F), A.length + B.length ≤ n → 0 < A.length → 0 < B.length → Srt A → Srt B → MergeC A B
  | 0, A, B, hn, hA, _, _, _ => by omega
  | n + 1, A, B, hn, hA, hB, sA, sB => by
    by_cases h1 : A.length = 1
    · obtain ⟨x, rfl⟩ : ∃ x, A = [x] := List.length_eq_one_iff.1 h1
      intro P Q a m b hP hm hb L cap hL hL2 g w hF
      exact merge_one hP (by simpa using hm) hb sB L cap (by simpa using hL) hL2 g w (by simpa using hF)
    · by_cases h2 : B.length = 1
      · obtain ⟨y, rfl⟩ : ∃ y, B = [y] := List.length_eq_one_iff.1 h2
        intro P Q a m b hP hm hb L cap hL hL2 g w hF
        exact merge_two hP hm (by simpa using hb) (by omega) sA L cap hL hL2 g w hF
      · exact merge_big (by omega) (by omega) sA sB fun A' B' hlt hA' hB' sA' sB' => symmerge_le n A' B' (by omega) hA' hB' sA' sB'
theorem symmerge_any {A B : List F} (hA : 0 < A.length) (hB : 0 < B.length) (sA : Srt A) (sB : Srt B) : MergeC A B := symmerge_le _ A B (Nat.le_refl _) hA hB sA sB
end Tr
end Go.Proofs.YtbefgplaaghlbaaGreatDoor
