/-
  Walk: the law DrvTells.
-/
import Derived.Test.YtbhngjhfeejeiaaDoorDvJ
import Derived.Test.YtbhngjhfeejeiaaDoorDvS
import Derived.Test.YtbhngjhfeejeiaaDoorDvI
namespace Go.Proofs.YtbhngjhfeejeiaaDoor
open Go.RowKit Sx
namespace Dv

theorem NE_ok {d : D} (h : NE d = 0) : goodD d = true ∧ (enc (drvT d)).length ≤ 65536 ∧ (NS d).data.toList = enc (drvT d) := by
  unfold NE at h
  split at h
  · rename_i hg
    unfold EE at h
    split at h
    · cases h
    · rename_i hl
      refine ⟨hg, by omega, ?_⟩
      unfold NS
      rw [if_pos hg]
      unfold ES
      rw [if_neg hl]
  · cases h
theorem decB_NS {d : D} (h : NE d = 0) : decB (NS d).data.toList = (0, d) := by
  obtain ⟨h1, h2, h3⟩ := NE_ok h
  rw [h3]
  exact decB_back h1 h2
theorem ns_eq {a b : D} (ha : NE a = 0) (hb : NE b = 0) : ((NS a).toList == (NS b).toList) = eqD a b := by
  by_cases h : a = b
  · subst h
    rw [(eqD_iff a a).2 rfl]
    exact seq_tt rfl
  · have h1 : eqD a b = false := by
      cases he : eqD a b
      · rfl
      · exact absurd ((eqD_iff a b).1 he) h
    rw [h1]
    refine seq_ff (fun hn => h ?_)
    have h2 := decB_NS ha
    rw [hn, decB_NS hb] at h2
    exact (congrArg Prod.snd h2).symm
set_option maxHeartbeats 2000000 in
set_option maxRecDepth 100000 in
theorem tellslaw_any (a b : D) (v u : Value) (W : World) (hS : SI W v a.ins) (hT : SI W u b.ins) (hE : EnvD W) :
    Calls Tryd.prog 4 #[DV a v, DV b u] W fun e W' => e = .returned (.bool true) ∧ Below W.heap.size W W' := by
  have hX1 := (Below.refl W.heap.size W).alloc (Nat.le_refl _) (DO a v)
  have hX : Below W.heap.size W ((W.alloc (DO a v)).alloc (DO b u)) := hX1.alloc (by simp) (DO b u)
  have hC := (DC.new W a v).below ((Below.refl _ _).alloc (Nat.le_refl _) (DO b u))
  have hD := DC.new (W.alloc (DO a v)) b u
  rw [show (W.alloc (DO a v)).heap.size = W.heap.size + 1 by simp] at hD
  have HNE := Lib.hid (fun (ha : NE a = 0) (hb : NE b = 0) => ns_eq ha hb)
  go_enter Tryd.func4, Tryd.ntmps4
  go_wp2_with fail
  refine (alive_any _ (hE.below hX).sx (hE.below hX).e0).mono ?_
  rintro e w1 ⟨rfl, hb1⟩
  have hB1 := trans' hX hb1
  have hC1 := hC.below hb1
  have hD1 := hD.below hb1
  clear hC hD hX hX1 hb1
  obtain ⟨c0, c1, c2, c3, c4, c5⟩ := (⟨hC1.c0, hC1.c1, hC1.c2, hC1.c3, hC1.c4, hC1.c5⟩ : _ ∧ _ ∧ _ ∧ _ ∧ _ ∧ _)
  have hg1 := great_any a v w1 (hS.below hB1)
  go_wp2_with fail
  refine hg1.mono ?_
  rintro e w2 ⟨ba, rfl, hb2⟩
  have hB2 := trans' hB1 hb2
  have hC2 := hC1.below hb2
  have hD2 := hD1.below hb2
  clear c0 c1 c2 c3 c4 c5 hg1 hC1 hD1 hb2 hB1
  cases ba with
  | true =>
    go_wp2_with fail
    go_ret
    exact ⟨rfl, hB2⟩
  | false =>
    obtain ⟨c0, c1, c2, c3, c4, c5⟩ := (⟨hD2.c0, hD2.c1, hD2.c2, hD2.c3, hD2.c4, hD2.c5⟩ : _ ∧ _ ∧ _ ∧ _ ∧ _ ∧ _)
    have hg2 := great_any b u w2 (hT.below hB2)
    go_wp2_with fail
    refine hg2.mono ?_
    rintro e w3 ⟨bb, rfl, hb3⟩
    have hB3 := trans' hB2 hb3
    have hC3 := hC2.below hb3
    have hD3 := hD2.below hb3
    clear c0 c1 c2 c3 c4 c5 hg2 hC2 hD2 hb3 hB2
    cases bb with
    | true =>
      go_wp2_with fail
      go_ret
      exact ⟨rfl, hB3⟩
    | false =>
      obtain ⟨c0, c1, c2, c3, c4, c5⟩ := (⟨hC3.c0, hC3.c1, hC3.c2, hC3.c3, hC3.c4, hC3.c5⟩ : _ ∧ _ ∧ _ ∧ _ ∧ _ ∧ _)
      have h4 := encode_any a v w3 (hS.below hB3) (hE.below hB3).sx (hE.below hB3).e0
      rw [ENV_eq] at h4
      go_wp2_with fail
      refine h4.mono ?_
      rintro e w4 ⟨rfl, hb4⟩
      have hB4 := trans' hB3 hb4
      have hC4 := hC3.below hb4
      have hD4 := hD3.below hb4
      clear c0 c1 c2 c3 c4 c5 h4 hC3 hD3 hb4 hB3
      obtain ⟨c0, c1, c2, c3, c4, c5⟩ := (⟨hD4.c0, hD4.c1, hD4.c2, hD4.c3, hD4.c4, hD4.c5⟩ : _ ∧ _ ∧ _ ∧ _ ∧ _ ∧ _)
      have h5 := encode_any b u w4 (hT.below hB4) (hE.below hB4).sx (hE.below hB4).e0
      rw [ENV_eq] at h5
      go_wp2_with fail
      refine h5.mono ?_
      rintro e w5 ⟨rfl, hb5⟩
      have hB5 := trans' hB4 hb5
      have hC5 := hC4.below hb5
      have hD5 := hD4.below hb5
      clear c0 c1 c2 c3 c4 c5 h5 hC4 hD4 hb5 hB4
      by_cases ha : NE a = 0
      rotate_left
      · have j1 : (NE a == 0) = false := by rw [beq_eq_false_iff_ne]; exact ha
        have j2 : (NE a != 0) = true := by rw [bne_iff_ne]; exact ha
        clear ha
        go_wp2_with fail
        go_ret
        exact ⟨rfl, hB5⟩
      · have j1 : (NE a == 0) = true := by rw [beq_iff_eq]; exact ha
        have j2 : (NE a != 0) = false := by rw [bne_eq_false_iff_eq]; exact ha
        have HD := Lib.hid (decB_NS ha)
        have HA := Lib.hid ha
        clear ha
        have h6 := ddecode_any (NS a) w5 (hE.below hB5)
        go_wp2_with fail
        refine h6.mono ?_
        rintro e w6 ⟨⟨x, he, hSx⟩, hb6⟩
        rw [HD.out] at he hSx
        dsimp only at he hSx
        subst he
        obtain ⟨sx, cx, rfl⟩ : ∃ sx cx, x = .slice sx a.ins.length cx := by
          obtain ⟨s, c, e, _⟩ := hSx
          exact ⟨s, c, e⟩
        have hA6 : Below w6.heap.size w6 (w6.alloc (DO a (.slice sx a.ins.length cx))) := (Below.refl _ _).alloc (Nat.le_refl _) _
        have hCx := DC.new w6 a (.slice sx a.ins.length cx)
        have hB6 := trans' (trans' hB5 hb6) hA6
        have hC6 := (hC5.below hb6).below hA6
        have hD6 := (hD5.below hb6).below hA6
        have h7 := same18_any a a _ v (w6.alloc (DO a (.slice sx a.ins.length cx))) (hSx.below hA6) (hS.below hB6)
        rw [(eqD_iff a a).2 rfl] at h7
        obtain ⟨c0, c1, c2, c3, c4, c5⟩ := (⟨hC6.c0, hC6.c1, hC6.c2, hC6.c3, hC6.c4, hC6.c5⟩ : _ ∧ _ ∧ _ ∧ _ ∧ _ ∧ _)
        obtain ⟨x0, x1, x2, x3, x4, x5⟩ := (⟨hCx.c0, hCx.c1, hCx.c2, hCx.c3, hCx.c4, hCx.c5⟩ : _ ∧ _ ∧ _ ∧ _ ∧ _ ∧ _)
        clear h6 hb6 hC5 hD5 hB5
        go_wp2_with fail
        refine h7.mono ?_
        rintro e w7 ⟨rfl, hb7⟩
        have hB7 := trans' hB6 hb7
        have hC7 := hC6.below hb7
        have hD7 := hD6.below hb7
        clear c0 c1 c2 c3 c4 c5 x0 x1 x2 x3 x4 x5 h7 hC6 hD6 hb7 hB6 hCx
        by_cases hb : NE b = 0
        rotate_left
        · have j3 : (NE b == 0) = false := by rw [beq_eq_false_iff_ne]; exact hb
          have j4 : (NE b != 0) = true := by rw [bne_iff_ne]; exact hb
          clear hb
          go_wp2_with fail
          go_ret
          exact ⟨rfl, hB7⟩
        · have j3 : (NE b == 0) = true := by rw [beq_iff_eq]; exact hb
          have j4 : (NE b != 0) = false := by rw [bne_eq_false_iff_eq]; exact hb
          have hns := HNE.out HA.out hb
          have h8 := same18_any a b v u w7 (hS.below hB7) (hT.below hB7)
          rw [← hns] at h8
          obtain ⟨c0, c1, c2, c3, c4, c5⟩ := (⟨hC7.c0, hC7.c1, hC7.c2, hC7.c3, hC7.c4, hC7.c5⟩ : _ ∧ _ ∧ _ ∧ _ ∧ _ ∧ _)
          obtain ⟨d0, d1, d2, d3, d4, d5⟩ := (⟨hD7.c0, hD7.c1, hD7.c2, hD7.c3, hD7.c4, hD7.c5⟩ : _ ∧ _ ∧ _ ∧ _ ∧ _ ∧ _)
          clear hb hns
          go_wp2_with fail
          refine h8.mono ?_
          rintro e w8 ⟨rfl, hb8⟩
          clear h8 c0 c1 c2 c3 c4 c5 d0 d1 d2 d3 d4 d5
          generalize ((NS a).toList == (NS b).toList) = q at *
          go_wp2_with fail
          go_ret
          exact ⟨by cases q <;> rfl, trans' hB7 hb8⟩
end Dv
end Go.Proofs.YtbhngjhfeejeiaaDoor
