/-
  Walks: alive, and the law DrvWrites.
-/
import Derived.Test.YtbhngjhfeejeiaaDoorDvF
namespace Go.Proofs.YtbhngjhfeejeiaaDoor
open Go.RowKit Sx
namespace Dv

def aD : D := ⟨⟨#[97]⟩, 1, 0, 0, ⟨#[97, 97, 97, 97, 97, 97, 97, 97, 97, 97, 97, 97, 97]⟩, []⟩
theorem env_aD : ENV aD = .tuple #[.string ⟨#[40, 51, 58, 100, 114, 118, 49, 58, 97, 53, 58, 49, 46, 48, 46, 48, 49, 51, 58, 97, 97, 97, 97, 97, 97, 97, 97, 97, 97, 97, 97, 97, 40, 41, 41]⟩, .int .i64 0] := by kernel_rfl
set_option maxHeartbeats 400000 in
theorem alive_any (W : World) (hE : Env W) (hE0 : Vs.Env0 W) : Calls Tryd.prog 5 #[] W fun e W' => e = .returned (.bool true) ∧ Below W.heap.size W W' := by
  have hA := encode_any aD (.slice none 0 0) W (SI.empty W) hE hE0
  rw [env_aD] at hA
  go_enter Tryd.func5, Tryd.ntmps5
  go_wp2_with fail
  refine hA.mono ?_
  rintro e w1 ⟨rfl, hb1⟩
  clear hA
  go_wp2
  go_ret
  exact ⟨rfl, hb1⟩

set_option maxHeartbeats 2000000 in
set_option maxRecDepth 100000 in
theorem writeslaw_any (d : D) (v : Value) (k : Int) (W : World) (hS : SI W v d.ins) (hD : DB d) (hE : Env W) (hE0 : Vs.Env0 W) :
    Calls Tryd.prog 3 #[DV d v, .int .i64 k] W fun e W' => e = .returned (.bool true) ∧ Below W.heap.size W W' := by
  have hC := DC.new W d v
  have hX := (Below.refl W.heap.size W).alloc (Nat.le_refl _) (DO d v)
  obtain ⟨y, hy⟩ : ∃ y, y = (if NE d = 0 then keyS (NS d).data.toList k else ⟨#[]⟩) := ⟨_, rfl⟩
  go_enter Tryd.func3, Tryd.ntmps3
  go_wp2_with fail
  refine (alive_any _ (hE.below hX) (hE0.below (Nat.le_refl _) hX)).mono ?_
  rintro e w1 ⟨rfl, hb1⟩
  have hB1 := trans' hX hb1
  have hC1 := hC.below hb1
  obtain ⟨c0, c1, c2, c3, c4, c5⟩ := (⟨hC1.c0, hC1.c1, hC1.c2, hC1.c3, hC1.c4, hC1.c5⟩ : _ ∧ _ ∧ _ ∧ _ ∧ _ ∧ _)
  have hgr := great_any d v w1 (hS.below hB1)
  go_wp2_with fail
  refine hgr.mono ?_
  rintro e w2 ⟨b, rfl, hb2⟩
  have hB2 := trans' hB1 hb2
  have hC2 := hC1.below hb2
  clear hgr c0 c1 c2 c3 c4 c5
  cases b with
  | true =>
    go_wp2
    go_ret
    exact ⟨rfl, hB2⟩
  | false =>
    obtain ⟨c0, c1, c2, c3, c4, c5⟩ := (⟨hC2.c0, hC2.c1, hC2.c2, hC2.c3, hC2.c4, hC2.c5⟩ : _ ∧ _ ∧ _ ∧ _ ∧ _ ∧ _)
    have h3 := encode_any d v w2 (hS.below hB2) (hE.below hB2) (hE0.below (Nat.le_refl _) hB2)
    rw [ENV_eq] at h3
    go_wp2_with fail
    refine h3.mono ?_
    rintro e w3 ⟨rfl, hb3⟩
    have hB3 := trans' hB2 hb3
    have hC3 := hC2.below hb3
    clear h3 c0 c1 c2 c3 c4 c5
    obtain ⟨c0, c1, c2, c3, c4, c5⟩ := (⟨hC3.c0, hC3.c1, hC3.c2, hC3.c3, hC3.c4, hC3.c5⟩ : _ ∧ _ ∧ _ ∧ _ ∧ _ ∧ _)
    have h4 := encoder_any d v w3 (hS.below hB3) hD (hE.below hB3) (hE0.below (Nat.le_refl _) hB3)
    rw [ENV_eq] at h4
    go_wp2_with fail
    refine h4.mono ?_
    rintro e w4 ⟨rfl, hb4⟩
    have hB4 := trans' hB3 hb4
    have hC4 := hC3.below hb4
    clear h4 c0 c1 c2 c3 c4 c5
    obtain ⟨c0, c1, c2, c3, c4, c5⟩ := (⟨hC4.c0, hC4.c1, hC4.c2, hC4.c3, hC4.c4, hC4.c5⟩ : _ ∧ _ ∧ _ ∧ _ ∧ _ ∧ _)
    have h5 := key18_any d v k w4 (hS.below hB4) (hE.below hB4) (hE0.below (Nat.le_refl _) hB4)
    rw [KYV_eq, ← hy] at h5
    go_wp2_with fail
    refine h5.mono ?_
    rintro e w5 ⟨rfl, hb5⟩
    have hB5 := trans' hB4 hb5
    have hC5 := hC4.below hb5
    clear h5 c0 c1 c2 c3 c4 c5
    obtain ⟨c0, c1, c2, c3, c4, c5⟩ := (⟨hC5.c0, hC5.c1, hC5.c2, hC5.c3, hC5.c4, hC5.c5⟩ : _ ∧ _ ∧ _ ∧ _ ∧ _ ∧ _)
    have h6 := keyr18_any d v k w5 (hS.below hB5) hD (hE.below hB5) (hE0.below (Nat.le_refl _) hB5)
    rw [KYV_eq, ← hy] at h6
    clear hy
    go_wp2_with fail
    refine h6.mono ?_
    rintro e w6 ⟨rfl, hb6⟩
    have hB6 := trans' hB5 hb6
    have hC6 := hC5.below hb6
    clear h6 c0 c1 c2 c3 c4 c5
    have HS6 := Lib.hid (hS.below hB6)
    have e0 := ext_cell hC6.c0
    have e1 := ext_cell hC6.c1
    have e2 := ext_cell hC6.c2
    have e3 := ext_cell hC6.c3
    have e4 := ext_cell hC6.c4
    have e5 := ext_cell hC6.c5
    generalize NS d = s at *
    generalize NE d = n at *
    go_wp2_with fail
    refine wp_region_ext (X := w6) (by kernel_rfl) (by kernel_rfl) ?_
    repeat (go_big_quiet_step (first
      | (go_at_call 11; exact calls_ext (good_any d v _ (HS6.out.below (ext_below _ _))))
      | (go_at_call 12; exact calls_ext (goodr_any d v _ (HS6.out.below (ext_below _ _)) hD))))
    refine wpQuiet_nil ?_
    intro _ hw'
    obtain ⟨Y, hw''⟩ := hw'
    subst hw''
    go_wp2_with fail
    go_ret
    exact ⟨rfl, trans' hB6 (ext_below _ _)⟩
end Dv
end Go.Proofs.YtbhngjhfeejeiaaDoor
