/-
  Walks: slices.SortStableFunc over at most 32 files.
-/
import Derived.Test.YtbefgplaaghlbaaGreatDoorTrX
namespace Go.Proofs.YtbefgplaaghlbaaGreatDoor
open Go.RowKit Go.Lib
namespace Tr

set_option maxHeartbeats 4000000 in
set_option maxRecDepth 100000 in
theorem stable_any {l : List F} {n : Nat} (hn : l.length = n) (h32 : n ≤ 32) (cap g : Nat) (w : World) (hF : FR w g l) :
    Calls Tryz.prog 81 #[.slice (some ⟨g, 0, none⟩) n cap, .int .i64 n, .func (.func 60) #[] #[]] w fun e w' => e = .returned (.tuple #[]) ∧ ∃ s, FR w' g s ∧ s.Perm l ∧ Srt s ∧ But g w w' := by
  have HF := Lib.hid hF
  have HN := Lib.hid hn
  clear hF hn
  go_enter Tryz.func81, Tryz.ntmps81
  go_wp2_with fail
  go_loopw [7, 8] (fun sa sb wr => ∃ (a : Nat) (S D : List F), sa = .int .i64 (a : Int) ∧ sb = .int .i64 ((a : Int) + 20) ∧ (a = 0 ∨ a = 20) ∧ S.length = a ∧ a ≤ n ∧ FR wr g (S ++ D) ∧ (S ++ D).Perm l ∧ Srt S ∧ But g w wr) (fun sa _ _ => 40 - (RowKit.intOf sa).toNat)
  case atStart => exact ⟨0, [], l, rfl, rfl, .inl rfl, rfl, Nat.zero_le _, HF.out, List.Perm.refl _, List.Pairwise.nil, But.refl g w⟩
  case round =>
    obtain ⟨a, S, D, rfl, rfl, ha, hSl, han, hF, hp, hs, hB⟩ := hrel
    clear HF
    have hD : S.length + D.length = n := by
      have := hp.length_eq
      rw [List.length_append, HN.out] at this
      exact this
    have H := Lib.hid (And.intro hF (And.intro hp (And.intro hs hB)))
    clear hF hp hs hB
    by_cases hlt : a + 20 ≤ n
    · obtain rfl : a = 0 := by omega
      obtain rfl : S = [] := List.length_eq_zero_iff.1 hSl
      have hi := insertion_any (P := []) (S := D.take 20) (Q := D.drop 20) (a := 0) (b := 20) rfl (by simp at hD ⊢; omega) n cap (by simp at hD ⊢; omega) (by omega) g wr (by have := H.out.1; simpa using this)
      have hD0 : D.length = n := by simpa using hD
      have i1 : (20 : Int) ≤ n := by omega
      rw [show ((0 : Nat) : Int) = 0 from rfl, show ((20 : Nat) : Int) = 20 from rfl] at hi
      go_wp2_with (first
        | (go_at_call 109; with_reducible refine hi.mono ?_; rintro e w1 ⟨he, S', hF1, hp1, hs1, hB1⟩; subst he; have HQ := Lib.hid (And.intro hF1 (And.intro hp1 (And.intro hs1 hB1))); clear hF1 hp1 hs1 hB1 hi))
      refine ⟨⟨20, S', D.drop 20, rfl, rfl, .inr rfl, ?_, by omega, by simpa using HQ.out.1, ?_, HQ.out.2.2.1, H.out.2.2.2.trans HQ.out.2.2.2⟩, by decide⟩
      · rw [HQ.out.2.1.length_eq, List.length_take]
        omega
      · refine (HQ.out.2.1.append_right _).trans ?_
        rw [List.take_append_drop]
        simpa using H.out.2.1
    · have hi := insertion_any (P := S) (S := D) (Q := []) (a := a) (b := n) hSl (by omega) n cap (by simp; omega) (by omega) g wr (by have := H.out.1; simpa using this)
      have i1 : ¬ (a : Int) + 20 ≤ n := by omega
      go_wp2_with (first
        | (go_at_call 109; with_reducible refine hi.mono ?_; rintro e w1 ⟨he, D', hF1, hp1, hs1, hB1⟩; subst he; have HQ := Lib.hid (And.intro hF1 (And.intro hp1 (And.intro hs1 hB1))); clear hF1 hp1 hs1 hB1 hi))
      have H1 := Lib.hid (show FR w1 g (S ++ D') ∧ (S ++ D').Perm l ∧ Srt S ∧ Srt D' ∧ But g w w1 ∧ D'.length = D.length from ⟨by simpa using HQ.out.1, (HQ.out.2.1.append_left S).trans H.out.2.1, H.out.2.2.1, HQ.out.2.2.1, H.out.2.2.2.trans HQ.out.2.2.2, HQ.out.2.1.length_eq⟩)
      clear HQ H
      go_loopw [6] (fun sb wr => (sb = .int .i64 20 ∧ FR wr g (S ++ D') ∧ But g w wr) ∨ (sb = .int .i64 40 ∧ ∃ C, FR wr g C ∧ C.Perm l ∧ Srt C ∧ But g w wr)) (fun sb _ => 40 - (RowKit.intOf sb).toNat)
      case atStart => exact .inl ⟨rfl, H1.out.1, H1.out.2.2.2.2.1⟩
      case round =>
        rcases hrel with ⟨rfl, hF, hB⟩ | ⟨rfl, C, hF, hp, hs, hB⟩
        · have H2 := Lib.hid (And.intro hF hB)
          clear hF hB
          by_cases h20 : 20 < n
          · have HS20 := Lib.hid (show S.length = 20 ∧ 20 + D.length = n by omega)
            have i2 : (20 : Int) < n := by omega
            have i3 : ¬ (40 : Int) ≤ n := by omega
            go_wp2_with fail
            go_loopw [7, 8] (fun sa sb wz => sa = .int .i64 0 ∧ sb = .int .i64 40 ∧ FR wz g (S ++ D') ∧ But g w wz) (fun _ _ _ => 0)
            case atStart => exact ⟨rfl, rfl, H2.out.1, H2.out.2⟩
            case round =>
              obtain ⟨rfl, rfl, hF, hB⟩ := hrel
              have hm := symmerge_any (A := S) (B := D') (by have := HS20.out; omega) (by have := HS20.out; have := H1.out.2.2.2.2.2; omega) H1.out.2.2.1 H1.out.2.2.2.1 [] [] 0 20 n rfl (by have := HS20.out; omega) (by have := HS20.out; have := H1.out.2.2.2.2.2; omega) n cap (by have := H1.out.2.2.2.2.2; simp; omega) (by omega) g wr (by simpa using hF)
              rw [show ((0 : Nat) : Int) = 0 from rfl, show ((20 : Nat) : Int) = 20 from rfl] at hm
              have HB := Lib.hid hB
              clear hF hB H2
              go_wp2_with (first
                | (go_at_call 110; with_reducible refine hm.mono ?_; rintro e w2 ⟨he, C, hC1, hC2, hC3, hC4⟩; subst he; have HC := Lib.hid (And.intro hC1 (And.intro hC2 (And.intro hC3 hC4))); clear hC1 hC2 hC3 hC4 hm))
              go_roundw
              case rel => exact .inr ⟨rfl, C, by simpa using HC.out.1, HC.out.2.1.trans H1.out.2.1, HC.out.2.2.1, HB.out.trans HC.out.2.2.2⟩
              case measure => simp [RowKit.intOf]
          · have i2 : ¬ (20 : Int) < n := by omega
            go_wp2_with fail
            go_end0
            refine ⟨rfl, S ++ D', H2.out.1, H1.out.2.1, ?_, H2.out.2⟩
            rcases ha with rfl | rfl
            · rw [List.length_eq_zero_iff.1 hSl]
              exact H1.out.2.2.2.1
            · have : D' = [] := List.length_eq_zero_iff.1 (by have := H1.out.2.2.2.2.2; omega)
              rw [this, List.append_nil]
              exact H1.out.2.2.1
        · have i2 : ¬ (40 : Int) < n := by omega
          have HC := Lib.hid (And.intro hF (And.intro hp (And.intro hs hB)))
          clear hF hp hs hB
          go_wp2_with fail
          go_end0
          exact ⟨rfl, C, HC.out.1, HC.out.2.1, HC.out.2.2.1, HC.out.2.2.2⟩
set_option maxHeartbeats 1000000 in
theorem sortstable_any {l : List F} {n : Nat} (hn : l.length = n) (h32 : n ≤ 32) (cap g : Nat) (w : World) (hF : FR w g l) :
    Calls Tryz.prog 59 #[.slice (some ⟨g, 0, none⟩) n cap, .func (.func 60) #[] #[]] w fun e w' => e = .returned (.tuple #[]) ∧ ∃ s, FR w' g s ∧ s.Perm l ∧ Srt s ∧ But g w w' := by
  have hs := stable_any hn h32 cap g w hF
  clear hF
  go_enter Tryz.func59, Tryz.ntmps59
  go_wp2_with (first
    | (go_at_call 81; with_reducible refine hs.mono ?_; rintro e w1 ⟨he, s', h1, h2, h3, h4⟩; subst he))
  go_end0
  exact ⟨rfl, s', h1, h2, h3, h4⟩
end Tr
end Go.Proofs.YtbefgplaaghlbaaGreatDoor
