/-
  Walk: the law DrvReads.
-/
import Derived.Test.YtbhngjhfeejeiaaGreatDoorDvN
import Derived.Test.YtbhngjhfeejeiaaGreatDoorDvS
import Derived.Test.YtbhngjhfeejeiaaGreatDoorDvI
namespace Go.Proofs.YtbhngjhfeejeiaaGreatDoor
open Go.RowKit Sx
namespace Dv

theorem ns_dec {s : ByteArray} (h : (decB s.data.toList).1 = 0) : NS (decB s.data.toList).2 = s ∧ NE (decB s.data.toList).2 = 0 := by
  obtain ⟨h1, h2, h3⟩ := decB_enc h
  unfold NS NE
  rw [if_pos h1, if_pos h1, h2]
  unfold ES EE
  rw [if_neg (by omega), if_neg (by omega)]
  exact ⟨by apply ByteArray.ext; simp, rfl⟩
theorem SI.form {W : World} {v : Value} {ins : List (ByteArray × ByteArray)} (h : SI W v ins) : ∃ s c, v = .slice s ins.length c := by
  obtain ⟨s, c, e, _⟩ := h
  exact ⟨s, c, e⟩
set_option maxHeartbeats 2000000 in
set_option maxRecDepth 100000 in
theorem readslaw_any (s : ByteArray) (W : World) (hE : EnvD W) :
    Calls Tryz.prog 3 #[.string s] W fun e W' => e = .returned (.bool true) ∧ Below W.heap.size W W' := by
  go_enter Tryz.func3, Tryz.ntmps3
  go_wp2_with fail
  refine (alive_any _ hE.sx hE.e0).mono ?_
  rintro e w1 ⟨rfl, hb1⟩
  have hE1 := hE.below hb1
  by_cases hl : 131072 < s.size
  · have j1 : decide ((131072 : Int) < s.size) = true := by simp; omega
    go_wp2_with fail
    go_ret
    exact ⟨rfl, hb1⟩
  · have j1 : decide ((131072 : Int) < s.size) = false := by simp; omega
    have HN := Lib.hid (fun h => ns_dec (s := s) h)
    clear hl
    go_wp2_with fail
    refine (ddecode_any s w1 hE1).mono ?_
    rintro e w2 ⟨⟨x, rfl, hSx⟩, hb2⟩
    obtain ⟨r, hr⟩ : ∃ r, r = decB s.data.toList := ⟨_, rfl⟩
    have HR := Lib.hid hr
    rw [← hr] at hSx HN ⊢
    clear hr
    obtain ⟨f, d⟩ := r
    dsimp only at hSx HN ⊢
    obtain ⟨sx, cx, rfl⟩ := hSx.form
    have hB2 := trans' hb1 hb2
    have hA2 : Below w2.heap.size w2 (w2.alloc (DO d (.slice sx d.ins.length cx))) := (Below.refl _ _).alloc (Nat.le_refl _) _
    have hCx := DC.new w2 d (.slice sx d.ins.length cx)
    have hSx2 := hSx.below hA2
    have hB3 := trans' hB2 hA2
    have hrd := rddecode_any s (w2.alloc (DO d (.slice sx d.ins.length cx))) (hE.below hB3)
    clear hSx hA2 hB2 hb2
    go_wp2_with fail
    refine hrd.mono ?_
    rintro e w4 ⟨⟨y, he, hSy⟩, hb4⟩
    rw [← HR.out] at he hSy
    dsimp only at he hSy
    subst he
    obtain ⟨sy, cy, rfl⟩ := hSy.form
    have hA4 : Below w4.heap.size w4 (w4.alloc (DO d (.slice sy d.ins.length cy))) := (Below.refl _ _).alloc (Nat.le_refl _) _
    have hCy := DC.new w4 d (.slice sy d.ins.length cy)
    have hB5 := trans' (trans' hB3 hb4) hA4
    have hC5 := (hCx.below hb4).below hA4
    have hSx5 := (hSx2.below hb4).below hA4
    have hsm := same18_any d d _ _ (w4.alloc (DO d (.slice sy d.ins.length cy))) hSx5 (hSy.below hA4)
    rw [(eqD_iff d d).2 rfl] at hsm
    obtain ⟨c0, c1, c2, c3, c4, c5⟩ := (⟨hC5.c0, hC5.c1, hC5.c2, hC5.c3, hC5.c4, hC5.c5⟩ : _ ∧ _ ∧ _ ∧ _ ∧ _ ∧ _)
    obtain ⟨d0, d1, d2, d3, d4, d5⟩ := (⟨hCy.c0, hCy.c1, hCy.c2, hCy.c3, hCy.c4, hCy.c5⟩ : _ ∧ _ ∧ _ ∧ _ ∧ _ ∧ _)
    clear hrd hb4 hA4 hB3 hSx2 hCx hCy hSy
    go_wp2_with fail
    refine hsm.mono ?_
    rintro e w6 ⟨rfl, hb6⟩
    have hB6 := trans' hB5 hb6
    have hC6 := hC5.below hb6
    have hen := encode_any d _ w6 (hSx5.below hb6) (hE.below hB6).sx (hE.below hB6).e0
    rw [ENV_eq] at hen
    clear c0 c1 c2 c3 c4 c5 d0 d1 d2 d3 d4 d5 hsm hb6 hB5 hC5
    obtain ⟨c0, c1, c2, c3, c4, c5⟩ := (⟨hC6.c0, hC6.c1, hC6.c2, hC6.c3, hC6.c4, hC6.c5⟩ : _ ∧ _ ∧ _ ∧ _ ∧ _ ∧ _)
    by_cases hf : f = 0
    · subst hf
      obtain ⟨h1, h2⟩ := HN.out rfl
      rw [h1, h2] at hen
      clear h1 h2
      go_wp2_with fail
      refine hen.mono ?_
      rintro e w7 ⟨rfl, hb7⟩
      go_wp2_with fail
      go_ret
      exact ⟨rfl, trans' hB6 hb7⟩
    · have j2 : (f == 0) = false := by rw [beq_eq_false_iff_ne]; exact hf
      have j3 : (f != 0) = true := by rw [bne_iff_ne]; exact hf
      clear hf
      go_wp2_with fail
      refine hen.mono ?_
      rintro e w7 ⟨rfl, hb7⟩
      go_wp2_with fail
      go_ret
      exact ⟨rfl, trans' hB6 hb7⟩
end Dv
end Go.Proofs.YtbhngjhfeejeiaaGreatDoor
