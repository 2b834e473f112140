/-
  Walks: symMerge over files, whole. (printed by gen_TrV.py)
-/
import Derived.Test.YtbefgplaaghlbaaGreatDoorTrU
namespace Go.Proofs.YtbefgplaaghlbaaGreatDoor
open Go.RowKit Go.Lib
namespace Tr

/-- symMerge's contract at two parts -/
def MergeC (A B : List F) : Prop := ∀ (P Q : List F) (a m b : Nat), P.length = a → a + A.length = m → m + B.length = b → ∀ (L cap : Nat), (P ++ (A ++ B) ++ Q).length = L → L ≤ 1000 → ∀ (g : Nat) (w : World), FR w g (P ++ (A ++ B) ++ Q) →
  Calls Tryz.prog 110 #[.slice (some ⟨g, 0, none⟩) L cap, .int .i64 a, .int .i64 m, .int .i64 b, .func (.func 60) #[] #[]] w fun e w' => MergeQ P A B Q g w e w'
set_option maxHeartbeats 16000000 in
set_option maxRecDepth 100000 in
theorem merge_big {A B : List F} (hA2 : 2 ≤ A.length) (hB2 : 2 ≤ B.length) (hA : Srt A) (hB : Srt B) (IH : ∀ A' B' : List F, A'.length + B'.length < A.length + B.length → 0 < A'.length → 0 < B'.length → Srt A' → Srt B' → MergeC A' B') : MergeC A B := by
  intro P Q a m b hP hm hb L cap hL hL2 g w hF
  have hbL : b ≤ L := by
    simp only [List.length_append] at hL
    omega
  have HF := Lib.hid hF
  have HS := Lib.hid (And.intro hA hB)
  have HP := Lib.hid (And.intro hP (And.intro hm (And.intro hb hL)))
  have HI := Lib.hid IH
  have i0 : ((m : Int) - (a : Int) == 1) = false := by rw [beq_eq_false_iff_ne]; omega
  have i1 : ((b : Int) - (m : Int) == 1) = false := by rw [beq_eq_false_iff_ne]; omega
  have ham : a + 2 ≤ m := by omega
  have hmb : m + 2 ≤ b := by omega
  obtain ⟨mid, hmid⟩ : ∃ mid : Nat, mid = (a + b) / 2 := ⟨_, rfl⟩
  have q1 : ((a : Int) + (b : Int)) / 2 = (mid : Int) := by omega
  have q2 : (a + b) / 2 = mid := hmid.symm
  have q3 : 2 * mid ≤ a + b := by omega
  have q4 : a + b ≤ 2 * mid + 1 := by omega
  have HTA := Lib.hid (show ∀ (i : Nat) (x : F), A[i]? = some x → (P ++ (A ++ B) ++ Q)[a + i]? = some x from fun i x hx => by
    have hi := (List.getElem?_eq_some_iff.1 hx).1
    rw [List.append_assoc, List.getElem?_append_right (by omega), show a + i - P.length = i by omega, List.append_assoc, List.getElem?_append_left hi]
    exact hx)
  have HTB := Lib.hid (show ∀ (i : Nat) (x : F), B[i]? = some x → (P ++ (A ++ B) ++ Q)[m + i]? = some x from fun i x hx => by
    have hi := (List.getElem?_eq_some_iff.1 hx).1
    rw [List.append_assoc, List.getElem?_append_right (by omega), List.append_assoc, List.getElem?_append_right (by omega), show m + i - P.length - A.length = i by omega, List.getElem?_append_left hi]
    exact hx)
  clear hF hA hB hP hL hm hb IH hmid
  by_cases hc1 : mid < m
  · have j1 : (mid : Int) < (m : Int) := by omega
    obtain ⟨lo0, h1⟩ : ∃ lo0 : Nat, lo0 + b = mid + m := ⟨mid + m - b, by omega⟩
    have j2 : (mid : Int) + (m : Int) - (b : Int) = (lo0 : Int) := by omega
    obtain ⟨r0, h2⟩ : ∃ r0 : Nat, r0 = mid := ⟨_, rfl⟩
    have HH0 := Lib.hid (show (mid < m ∧ lo0 + b = mid + m ∧ r0 = mid) ∨ (m ≤ mid ∧ lo0 = a ∧ r0 = m) from .inl ⟨hc1, h1, h2⟩)
    have HC := Lib.hid hc1
    clear h1 h2
    go_enter Tryz.func110, Tryz.ntmps110
    go_wp2_with fail
    clear i0 i1 q1 q2 j1 j2 hc1
    go_loopw [20, 21] (fun si sj wr => ∃ lo hi : Nat, si = .int .i64 (lo : Int) ∧ sj = .int .i64 (hi : Int) ∧ lo0 ≤ lo ∧ lo ≤ hi ∧ hi ≤ r0 ∧ (lo = lo0 ∨ lo0 < lo ∧ ∃ x y : F, A[lo - a - 1]? = some x ∧ B[mid - lo]? = some y ∧ Le x y) ∧ (hi = r0 ∨ hi < r0 ∧ ∃ x y : F, A[hi - a]? = some x ∧ B[mid - hi - 1]? = some y ∧ Le y x) ∧ FR wr g (P ++ (A ++ B) ++ Q) ∧ But g w wr) (fun si sj _ => (RowKit.intOf sj).toNat - (RowKit.intOf si).toNat)
    case atStart =>
      have h0 := HH0.out
      have h9 := HC.out
      exact ⟨lo0, mid, rfl, rfl, by omega, by omega, by omega, .inl (by omega), .inl (by omega), HF.out, But.refl g w⟩
    case round =>
      obtain ⟨lo, hi, rfl, rfl, hml, hlh, hhb, hlo, hhi, hF, hB⟩ := hrel
      clear HF
      have HLO := Lib.hid (And.intro hlo hhi)
      have HFB := Lib.hid (And.intro hF hB)
      clear hlo hhi hB
      by_cases hlt : lo < hi
      · obtain ⟨h, hh⟩ : ∃ h : Nat, h = (lo + hi) / 2 := ⟨_, rfl⟩
        have h0 := HH0.out
        have hpp := HP.out
        obtain ⟨x, hx⟩ : ∃ x, A[h - a]? = some x := ⟨_, List.getElem?_eq_getElem (by omega)⟩
        obtain ⟨y, hy⟩ : ∃ y, B[mid - h - 1]? = some y := ⟨_, List.getElem?_eq_getElem (by omega)⟩
        have q1 : ((lo : Int) + (hi : Int)) / 2 = (h : Int) := by omega
        have q2 : (lo + hi) / 2 = h := hh.symm
        obtain ⟨pc, hpc⟩ : ∃ pc : Nat, pc = m + (mid - h - 1) := ⟨_, rfl⟩
        have qp : (mid : Int) + (m : Int) - 1 - (h : Int) = (pc : Int) := by omega
        have q5 : h < hi := by omega
        have q6 : lo ≤ h := by omega
        have q7 : h < L := by omega
        have q8 : pc < L := by omega
        have s1 := HTA.out _ _ hx
        have s2 := HTB.out _ _ hy
        rw [show a + (h - a) = h by omega] at s1
        rw [← hpc] at s2
        obtain ⟨x1, x2⟩ := x
        obtain ⟨y1, y2⟩ := y
        obtain ⟨c0, c1⟩ := hF.cells s1
        obtain ⟨d0, d1⟩ := hF.cells s2
        have e0 := Sx.ext_cell c0
        have e1 := Sx.ext_cell c1
        have e2 := Sx.ext_cell d0
        have e3 := Sx.ext_cell d1
        obtain ⟨c, hcd⟩ : ∃ c, c = Lib.compareBytes (K (y1, y2)) (K (x1, x2)) := ⟨_, rfl⟩
        have HK := Lib.hid (fun Y => by rw [hcd]; exact bypath_any (y1, y2) (x1, x2) (Sx.ext wr Y) : ∀ Y, Calls Tryz.prog 60 #[.agg #[.string y1, .string y2], .agg #[.string x1, .string x2]] (Sx.ext wr Y) fun e w' => e = .returned (.int .i64 c) ∧ Below (Sx.ext wr Y).heap.size (Sx.ext wr Y) w')
        have HCD := Lib.hid (show ltB (K (y1, y2)) (K (x1, x2)) = decide (c < 0) by rw [hcd]; rfl)
        have HXY := Lib.hid (And.intro hx hy)
        have hhr : h < r0 := by omega
        have hlh0 : lo0 < h + 1 := by omega
        clear c0 c1 d0 d1 hcd hx hy s1 s2 hF hh h0 hpp hpc
        dsimp only at e0 e1 e2 e3
        by_cases hc : c < 0
        · go_wp2_with fail
          refine Sx.wp_region_ext (X := wr) (by kernel_rfl) (by kernel_rfl) ?_
          repeat (go_big_quiet_step (first | (go_at_call 60; with_reducible exact Sx.calls_ext (HK.out _))))
          refine wpQuiet_nil ?_
          intro _ hw'
          obtain ⟨Y, hw''⟩ := hw'
          subst hw''
          have hB2 := Sx.ext_below wr Y
          clear e0 e1 e2 e3
          generalize Sx.ext wr Y = w2 at *
          have HF3 := Lib.hid (And.intro (HFB.out.1.keep hB2) (HFB.out.2.trans (But.of hB2)))
          have HLE := Lib.hid (show Le (y1, y2) (x1, x2) from leB_of (by rw [HCD.out]; exact decide_eq_true hc))
          clear q1 q2 qp hB2
          go_wp2_with fail
          refine ⟨⟨lo, h, rfl, rfl, hml, q6, by omega, HLO.out.1, .inr ⟨hhr, _, _, HXY.out.1, HXY.out.2, HLE.out⟩, HF3.out.1, HF3.out.2⟩, ?_⟩
          simp only [RowKit.intOf]
          omega
        · have hcn : (!decide (c < 0)) = true := by rw [decide_eq_false hc]; rfl
          go_wp2_with fail
          refine Sx.wp_region_ext (X := wr) (by kernel_rfl) (by kernel_rfl) ?_
          repeat (go_big_quiet_step (first | (go_at_call 60; with_reducible exact Sx.calls_ext (HK.out _))))
          refine wpQuiet_nil ?_
          intro _ hw'
          obtain ⟨Y, hw''⟩ := hw'
          subst hw''
          have hB2 := Sx.ext_below wr Y
          clear e0 e1 e2 e3
          generalize Sx.ext wr Y = w2 at *
          have HF3 := Lib.hid (And.intro (HFB.out.1.keep hB2) (HFB.out.2.trans (But.of hB2)))
          have HLE := Lib.hid (show Le (x1, x2) (y1, y2) by unfold Le leB; rw [HCD.out]; exact decide_eq_false (by omega))
          have HXY2 := Lib.hid (show A[h + 1 - a - 1]? = some (x1, x2) ∧ B[mid - (h + 1)]? = some (y1, y2) from ⟨by rw [show h + 1 - a - 1 = h - a by have := HH0.out; omega]; exact HXY.out.1, by rw [show mid - (h + 1) = mid - h - 1 by omega]; exact HXY.out.2⟩)
          clear q1 q2 qp hB2
          go_wp2_with fail
          refine ⟨⟨h + 1, hi, by push_cast; rfl, rfl, by omega, by omega, hhb, .inr ⟨hlh0, _, _, HXY2.out.1, HXY2.out.2, HLE.out⟩, HLO.out.2, HF3.out.1, HF3.out.2⟩, ?_⟩
          simp only [RowKit.intOf]
          omega
      · obtain rfl : lo = hi := by omega
        have h0 := HH0.out
        have hpp := HP.out
        have hcr := cross_of HS.out.1 HS.out.2 (s := lo - a) (e := mid - lo) (by omega) (by omega) (fun x y hs hx hy => by
          rcases HLO.out.1 with h1 | ⟨h1, x', y', h2, h3, h4⟩
          · have := (List.getElem?_eq_some_iff.1 hy).1
            omega
          · rw [hx] at h2
            rw [hy] at h3
            cases h2
            cases h3
            exact h4) (fun x y he hy hx => by
          rcases HLO.out.2 with h1 | ⟨h1, x', y', h2, h3, h4⟩
          · have := (List.getElem?_eq_some_iff.1 hx).1
            omega
          · rw [hx] at h2
            rw [hy] at h3
            cases h2
            cases h3
            exact h4)
        obtain ⟨L1, L2, hA12, hl1, hl2⟩ : ∃ L1 L2, A = L1 ++ L2 ∧ L1.length = lo - a ∧ L2.length = m - lo := ⟨A.take (lo - a), A.drop (lo - a), (List.take_append_drop _ A).symm, by simp; omega, by simp; omega⟩
        obtain ⟨R1, R2, hB12, hr1, hr2⟩ : ∃ R1 R2, B = R1 ++ R2 ∧ R1.length = mid - lo ∧ R2.length = b - (mid + m - lo) := ⟨B.take (mid - lo), B.drop (mid - lo), (List.take_append_drop _ B).symm, by simp; omega, by simp; omega⟩
        have hcr1 : (∀ x ∈ L1, ∀ y ∈ R2, Le x y) ∧ ∀ y ∈ R1, ∀ x ∈ L2, Le y x := by
          have e1 : A.take (lo - a) = L1 := by rw [hA12, ← hl1, List.take_left]
          have e2 : A.drop (lo - a) = L2 := by rw [hA12, ← hl1, List.drop_left]
          have e3 : B.take (mid - lo) = R1 := by rw [hB12, ← hr1, List.take_left]
          have e4 : B.drop (mid - lo) = R2 := by rw [hB12, ← hr1, List.drop_left]
          rw [e1, e2, e3, e4] at hcr
          exact hcr
        obtain ⟨en, hen⟩ : ∃ en : Nat, en = mid + m - lo := ⟨_, rfl⟩
        have qe : (mid : Int) + (m : Int) - (lo : Int) = (en : Int) := by omega
        have hsL : Srt (L1 ++ L2) := by rw [← hA12]; exact HS.out.1
        have hsR : Srt (R1 ++ R2) := by rw [← hB12]; exact HS.out.2
        obtain ⟨sL1, sL2, -⟩ := List.pairwise_append.1 hsL
        obtain ⟨sR1, sR2, -⟩ := List.pairwise_append.1 hsR
        have hz1 : a ≤ lo := by omega
        have hz2 : lo ≤ m := by omega
        have hz3 : lo ≤ mid := by omega
        have hz4 : en ≤ b := by omega
        have hz5 : en + lo = mid + m := by omega
        have HLEN := Lib.hid (And.intro (And.intro hl1 hl2) (And.intro hr1 (show R2.length = b - en by rw [hr2, hen])))
        have HCR := Lib.hid (And.intro (And.intro hsL hsR) hcr1)
        have HSS := Lib.hid (And.intro (And.intro sL1 sL2) (And.intro sR1 sR2))
        have hF0 : FR wr g (P ++ L1 ++ L2 ++ R1 ++ (R2 ++ Q)) := by
          have := HFB.out.1
          rw [hA12, hB12] at this
          simpa using this
        have hLn : (P ++ L1 ++ L2 ++ R1 ++ (R2 ++ Q)).length = L := by
          have := hpp.2.2.2
          rw [hA12, hB12] at this
          rw [← this]
          simp
        have hAB : A.length = L1.length + L2.length ∧ B.length = R1.length + R2.length := ⟨by rw [hA12, List.length_append], by rw [hB12, List.length_append]⟩
        have hPa := hpp.1
        have hbt := HFB.out.2
        have HAB := Lib.hid (And.intro hA12 hB12)
        -- the rotation
        have HROT := Lib.hid (fun (h1 : lo < m) (h2 : lo < mid) => rotate_any (P := P ++ L1) (X := L2) (Y := R1) (Q := R2 ++ Q) (a := lo) (m := m) (b := en) (by rw [List.length_append]; omega) (by omega) (by omega) (by omega) (by omega) L cap (by rw [← hLn]) hL2 g (.func (.func 60) #[] #[]) wr (by simpa using hF0))
        have HI1 := Lib.hid (fun (h1 : a < lo) (h2 : lo < mid) (w1 : World) (hF1 : FR w1 g (P ++ ((L1 ++ R1) ++ (L2 ++ R2)) ++ Q)) => HI.out L1 R1 (by omega) (by omega) (by omega) sL1 sR1 P ((L2 ++ R2) ++ Q) a lo mid hPa (by omega) (by omega) L cap (by rw [← hLn]; simp; omega) hL2 g w1 (by simpa using hF1))
        have HI2 := Lib.hid (fun (h1 : lo < m) (h2 : en < b) (C : List F) (hC : C.length = L1.length + R1.length) (w1 : World) (hF1 : FR w1 g (P ++ (C ++ (L2 ++ R2)) ++ Q)) => HI.out L2 R2 (by omega) (by omega) (by omega) sL2 sR2 (P ++ C) Q mid en b (by rw [List.length_append]; omega) (by omega) (by omega) L cap (by rw [← hLn]; simp; omega) hL2 g w1 (by simpa using hF1))
        have HF0 := Lib.hid (And.intro hF0 hbt)
        clear hcr hcr1 hl1 hl2 hr1 hr2 hA12 hB12 hF0 hLn hAB hPa hbt hsL hsR sL1 sL2 sR1 sR2 hpp h0 hF hlt hml hhb hlh hen
        by_cases hR : lo < m ∧ lo < mid
        · obtain ⟨hRa, hRb⟩ := hR
          have hR := Lib.hid (And.intro hRa hRb)
          by_cases hR1 : a < lo ∧ lo < mid
          · obtain ⟨hR1a, hR1b⟩ := hR1
            have hR1 := Lib.hid (And.intro hR1a hR1b)
            by_cases hR2 : lo < m ∧ en < b
            · obtain ⟨hR2a, hR2b⟩ := hR2
              have hR2 := Lib.hid (And.intro hR2a hR2b)
              go_wp2_with (first
                | (go_at_call 128; with_reducible refine (HROT.out hR.out.1 hR.out.2).mono ?_; rintro e w1 ⟨he, hF1, hB1⟩; subst he; have HF1 := Lib.hid (show FR w1 g (P ++ ((L1 ++ R1) ++ (L2 ++ R2)) ++ Q) ∧ But g w w1 from ⟨by simpa using hF1, HF0.out.2.trans hB1⟩); clear hF1 hB1)
                | (go_at_call 110; have hq1 := HI1.out hR1.out.1 hR1.out.2 w1 HF1.out.1; with_reducible refine hq1.mono ?_; rintro e w2 hq; obtain ⟨he, C1, hC1, hC2, hC3, hC4⟩ := hq; subst he; have HF2 := Lib.hid (show FR w2 g (P ++ (C1 ++ (L2 ++ R2)) ++ Q) ∧ C1.Perm (L1 ++ R1) ∧ Srt C1 ∧ But g w w2 from ⟨by simpa using hC1, hC2, hC3, HF1.out.2.trans hC4⟩); clear hC1 hC2 hC3 hC4 hq1)
                | (go_at_call 110; have hq2 := HI2.out hR2.out.1 hR2.out.2 C1 (by rw [HF2.out.2.1.length_eq, List.length_append]) w2 HF2.out.1; with_reducible refine hq2.mono ?_; rintro e w3 hq; obtain ⟨he, C2, hC1, hC2, hC3, hC4⟩ := hq; subst he; have HF3 := Lib.hid (show FR w3 g (P ++ (C1 ++ C2) ++ Q) ∧ C2.Perm (L2 ++ R2) ∧ Srt C2 ∧ But g w w3 from ⟨by simpa using hC1, hC2, hC3, HF2.out.2.2.2.trans hC4⟩); clear hC1 hC2 hC3 hC4 hq2))
              all_goals
                go_end0
                have hcx := cross HCR.out.1.1 HCR.out.1.2 HCR.out.2.1 HCR.out.2.2 HF2.out.2.1 HF2.out.2.2.1 HF3.out.2.1 HF3.out.2.2.1
                exact ⟨rfl, _, HF3.out.1, by rw [HAB.out.1, HAB.out.2]; exact hcx.2, hcx.1, HF3.out.2.2.2⟩
            · have hR2n := Lib.hid hR2
              clear hR2
              go_wp2_with (first
                | (go_at_call 128; with_reducible refine (HROT.out hR.out.1 hR.out.2).mono ?_; rintro e w1 ⟨he, hF1, hB1⟩; subst he; have HF1 := Lib.hid (show FR w1 g (P ++ ((L1 ++ R1) ++ (L2 ++ R2)) ++ Q) ∧ But g w w1 from ⟨by simpa using hF1, HF0.out.2.trans hB1⟩); clear hF1 hB1)
                | (go_at_call 110; have hq1 := HI1.out hR1.out.1 hR1.out.2 w1 HF1.out.1; with_reducible refine hq1.mono ?_; rintro e w2 hq; obtain ⟨he, C1, hC1, hC2, hC3, hC4⟩ := hq; subst he; have HF2 := Lib.hid (show FR w2 g (P ++ (C1 ++ (L2 ++ R2)) ++ Q) ∧ C1.Perm (L1 ++ R1) ∧ Srt C1 ∧ But g w w2 from ⟨by simpa using hC1, hC2, hC3, HF1.out.2.trans hC4⟩); clear hC1 hC2 hC3 hC4 hq1))
              all_goals
                try (exfalso; have n0 := hR2n.out; omega)
              all_goals
                go_end0
                have HF3 := Lib.hid (show FR w2 g (P ++ (C1 ++ (L2 ++ R2)) ++ Q) ∧ (L2 ++ R2).Perm (L2 ++ R2) ∧ Srt (L2 ++ R2) ∧ But g w w2 from ⟨HF2.out.1, List.Perm.refl _, (by rcases (show L2 = [] ∨ R2 = [] by have h1 := HLEN.out; have n0 := hR2n.out; rcases Nat.lt_or_ge lo m with h2 | h2; exact .inr (List.length_eq_zero_iff.1 (by omega)); exact .inl (List.length_eq_zero_iff.1 (by omega))) with h | h; (rw [h, List.nil_append]; exact HSS.out.2.2); (rw [h, List.append_nil]; exact HSS.out.1.2)), HF2.out.2.2.2⟩)
                have hcx := cross HCR.out.1.1 HCR.out.1.2 HCR.out.2.1 HCR.out.2.2 HF2.out.2.1 HF2.out.2.2.1 HF3.out.2.1 HF3.out.2.2.1
                exact ⟨rfl, _, HF3.out.1, by rw [HAB.out.1, HAB.out.2]; exact hcx.2, hcx.1, HF3.out.2.2.2⟩
          · have hR1n := Lib.hid hR1
            clear hR1
            by_cases hR2 : lo < m ∧ en < b
            · obtain ⟨hR2a, hR2b⟩ := hR2
              have hR2 := Lib.hid (And.intro hR2a hR2b)
              go_wp2_with (first
                | (go_at_call 128; with_reducible refine (HROT.out hR.out.1 hR.out.2).mono ?_; rintro e w1 ⟨he, hF1, hB1⟩; subst he; have HF1 := Lib.hid (show FR w1 g (P ++ ((L1 ++ R1) ++ (L2 ++ R2)) ++ Q) ∧ But g w w1 from ⟨by simpa using hF1, HF0.out.2.trans hB1⟩); clear hF1 hB1)
                | (go_at_call 110; have HF2 := Lib.hid (show FR w1 g (P ++ ((L1 ++ R1) ++ (L2 ++ R2)) ++ Q) ∧ (L1 ++ R1).Perm (L1 ++ R1) ∧ Srt (L1 ++ R1) ∧ But g w w1 from ⟨HF1.out.1, List.Perm.refl _, (by rcases (show L1 = [] ∨ R1 = [] by have h1 := HLEN.out; have n0 := hR1n.out; rcases Nat.lt_or_ge a lo with h2 | h2; exact .inr (List.length_eq_zero_iff.1 (by omega)); exact .inl (List.length_eq_zero_iff.1 (by omega))) with h | h; (rw [h, List.nil_append]; exact HSS.out.2.1); (rw [h, List.append_nil]; exact HSS.out.1.1)), HF1.out.2⟩); have hq2 := HI2.out hR2.out.1 hR2.out.2 (L1 ++ R1) (by rw [HF2.out.2.1.length_eq, List.length_append]) w1 HF2.out.1; with_reducible refine hq2.mono ?_; rintro e w3 hq; obtain ⟨he, C2, hC1, hC2, hC3, hC4⟩ := hq; subst he; have HF3 := Lib.hid (show FR w3 g (P ++ ((L1 ++ R1) ++ C2) ++ Q) ∧ C2.Perm (L2 ++ R2) ∧ Srt C2 ∧ But g w w3 from ⟨by simpa using hC1, hC2, hC3, HF2.out.2.2.2.trans hC4⟩); clear hC1 hC2 hC3 hC4 hq2))
              all_goals
                try (exfalso; have n0 := hR1n.out; omega)
              all_goals
                go_end0
                have hcx := cross HCR.out.1.1 HCR.out.1.2 HCR.out.2.1 HCR.out.2.2 HF2.out.2.1 HF2.out.2.2.1 HF3.out.2.1 HF3.out.2.2.1
                exact ⟨rfl, _, HF3.out.1, by rw [HAB.out.1, HAB.out.2]; exact hcx.2, hcx.1, HF3.out.2.2.2⟩
            · have hR2n := Lib.hid hR2
              clear hR2
              go_wp2_with (first
                | (go_at_call 128; with_reducible refine (HROT.out hR.out.1 hR.out.2).mono ?_; rintro e w1 ⟨he, hF1, hB1⟩; subst he; have HF1 := Lib.hid (show FR w1 g (P ++ ((L1 ++ R1) ++ (L2 ++ R2)) ++ Q) ∧ But g w w1 from ⟨by simpa using hF1, HF0.out.2.trans hB1⟩); clear hF1 hB1))
              all_goals
                try (exfalso; have n0 := hR1n.out; have n1 := hR2n.out; omega)
              all_goals
                go_end0
                have HF2 := Lib.hid (show FR w1 g (P ++ ((L1 ++ R1) ++ (L2 ++ R2)) ++ Q) ∧ (L1 ++ R1).Perm (L1 ++ R1) ∧ Srt (L1 ++ R1) ∧ But g w w1 from ⟨HF1.out.1, List.Perm.refl _, (by rcases (show L1 = [] ∨ R1 = [] by have h1 := HLEN.out; have n0 := hR1n.out; rcases Nat.lt_or_ge a lo with h2 | h2; exact .inr (List.length_eq_zero_iff.1 (by omega)); exact .inl (List.length_eq_zero_iff.1 (by omega))) with h | h; (rw [h, List.nil_append]; exact HSS.out.2.1); (rw [h, List.append_nil]; exact HSS.out.1.1)), HF1.out.2⟩)
                have HF3 := Lib.hid (show FR w1 g (P ++ ((L1 ++ R1) ++ (L2 ++ R2)) ++ Q) ∧ (L2 ++ R2).Perm (L2 ++ R2) ∧ Srt (L2 ++ R2) ∧ But g w w1 from ⟨HF2.out.1, List.Perm.refl _, (by rcases (show L2 = [] ∨ R2 = [] by have h1 := HLEN.out; have n0 := hR2n.out; rcases Nat.lt_or_ge lo m with h2 | h2; exact .inr (List.length_eq_zero_iff.1 (by omega)); exact .inl (List.length_eq_zero_iff.1 (by omega))) with h | h; (rw [h, List.nil_append]; exact HSS.out.2.2); (rw [h, List.append_nil]; exact HSS.out.1.2)), HF2.out.2.2.2⟩)
                have hcx := cross HCR.out.1.1 HCR.out.1.2 HCR.out.2.1 HCR.out.2.2 HF2.out.2.1 HF2.out.2.2.1 HF3.out.2.1 HF3.out.2.2.1
                exact ⟨rfl, _, HF3.out.1, by rw [HAB.out.1, HAB.out.2]; exact hcx.2, hcx.1, HF3.out.2.2.2⟩
        · have hRn := Lib.hid hR
          clear hR
          by_cases hR1 : a < lo ∧ lo < mid
          · obtain ⟨hR1a, hR1b⟩ := hR1
            have hR1 := Lib.hid (And.intro hR1a hR1b)
            by_cases hR2 : lo < m ∧ en < b
            · obtain ⟨hR2a, hR2b⟩ := hR2
              have hR2 := Lib.hid (And.intro hR2a hR2b)
              have HF1 := Lib.hid (show FR wr g (P ++ ((L1 ++ R1) ++ (L2 ++ R2)) ++ Q) ∧ But g w wr from ⟨by rcases (show L2 = [] ∨ R1 = [] by have h1 := HLEN.out; have n0 := hRn.out; rcases Nat.lt_or_ge lo m with h2 | h2; exact .inr (List.length_eq_zero_iff.1 (by omega)); exact .inl (List.length_eq_zero_iff.1 (by omega))) with h | h <;> (have := HF0.out.1; rw [h] at this ⊢; simpa using this), HF0.out.2⟩)
              go_wp2_with (first
                | (go_at_call 110; have hq1 := HI1.out hR1.out.1 hR1.out.2 wr HF1.out.1; with_reducible refine hq1.mono ?_; rintro e w2 hq; obtain ⟨he, C1, hC1, hC2, hC3, hC4⟩ := hq; subst he; have HF2 := Lib.hid (show FR w2 g (P ++ (C1 ++ (L2 ++ R2)) ++ Q) ∧ C1.Perm (L1 ++ R1) ∧ Srt C1 ∧ But g w w2 from ⟨by simpa using hC1, hC2, hC3, HF1.out.2.trans hC4⟩); clear hC1 hC2 hC3 hC4 hq1)
                | (go_at_call 110; have hq2 := HI2.out hR2.out.1 hR2.out.2 C1 (by rw [HF2.out.2.1.length_eq, List.length_append]) w2 HF2.out.1; with_reducible refine hq2.mono ?_; rintro e w3 hq; obtain ⟨he, C2, hC1, hC2, hC3, hC4⟩ := hq; subst he; have HF3 := Lib.hid (show FR w3 g (P ++ (C1 ++ C2) ++ Q) ∧ C2.Perm (L2 ++ R2) ∧ Srt C2 ∧ But g w w3 from ⟨by simpa using hC1, hC2, hC3, HF2.out.2.2.2.trans hC4⟩); clear hC1 hC2 hC3 hC4 hq2))
              all_goals
                try (exfalso; have n0 := hRn.out; omega)
              all_goals
                go_end0
                have hcx := cross HCR.out.1.1 HCR.out.1.2 HCR.out.2.1 HCR.out.2.2 HF2.out.2.1 HF2.out.2.2.1 HF3.out.2.1 HF3.out.2.2.1
                exact ⟨rfl, _, HF3.out.1, by rw [HAB.out.1, HAB.out.2]; exact hcx.2, hcx.1, HF3.out.2.2.2⟩
            · have hR2n := Lib.hid hR2
              clear hR2
              have HF1 := Lib.hid (show FR wr g (P ++ ((L1 ++ R1) ++ (L2 ++ R2)) ++ Q) ∧ But g w wr from ⟨by rcases (show L2 = [] ∨ R1 = [] by have h1 := HLEN.out; have n0 := hRn.out; rcases Nat.lt_or_ge lo m with h2 | h2; exact .inr (List.length_eq_zero_iff.1 (by omega)); exact .inl (List.length_eq_zero_iff.1 (by omega))) with h | h <;> (have := HF0.out.1; rw [h] at this ⊢; simpa using this), HF0.out.2⟩)
              go_wp2_with (first
                | (go_at_call 110; have hq1 := HI1.out hR1.out.1 hR1.out.2 wr HF1.out.1; with_reducible refine hq1.mono ?_; rintro e w2 hq; obtain ⟨he, C1, hC1, hC2, hC3, hC4⟩ := hq; subst he; have HF2 := Lib.hid (show FR w2 g (P ++ (C1 ++ (L2 ++ R2)) ++ Q) ∧ C1.Perm (L1 ++ R1) ∧ Srt C1 ∧ But g w w2 from ⟨by simpa using hC1, hC2, hC3, HF1.out.2.trans hC4⟩); clear hC1 hC2 hC3 hC4 hq1))
              all_goals
                try (exfalso; have n0 := hRn.out; have n1 := hR2n.out; omega)
              all_goals
                go_end0
                have HF3 := Lib.hid (show FR w2 g (P ++ (C1 ++ (L2 ++ R2)) ++ Q) ∧ (L2 ++ R2).Perm (L2 ++ R2) ∧ Srt (L2 ++ R2) ∧ But g w w2 from ⟨HF2.out.1, List.Perm.refl _, (by rcases (show L2 = [] ∨ R2 = [] by have h1 := HLEN.out; have n0 := hR2n.out; rcases Nat.lt_or_ge lo m with h2 | h2; exact .inr (List.length_eq_zero_iff.1 (by omega)); exact .inl (List.length_eq_zero_iff.1 (by omega))) with h | h; (rw [h, List.nil_append]; exact HSS.out.2.2); (rw [h, List.append_nil]; exact HSS.out.1.2)), HF2.out.2.2.2⟩)
                have hcx := cross HCR.out.1.1 HCR.out.1.2 HCR.out.2.1 HCR.out.2.2 HF2.out.2.1 HF2.out.2.2.1 HF3.out.2.1 HF3.out.2.2.1
                exact ⟨rfl, _, HF3.out.1, by rw [HAB.out.1, HAB.out.2]; exact hcx.2, hcx.1, HF3.out.2.2.2⟩
          · have hR1n := Lib.hid hR1
            clear hR1
            by_cases hR2 : lo < m ∧ en < b
            · obtain ⟨hR2a, hR2b⟩ := hR2
              have hR2 := Lib.hid (And.intro hR2a hR2b)
              have HF1 := Lib.hid (show FR wr g (P ++ ((L1 ++ R1) ++ (L2 ++ R2)) ++ Q) ∧ But g w wr from ⟨by rcases (show L2 = [] ∨ R1 = [] by have h1 := HLEN.out; have n0 := hRn.out; rcases Nat.lt_or_ge lo m with h2 | h2; exact .inr (List.length_eq_zero_iff.1 (by omega)); exact .inl (List.length_eq_zero_iff.1 (by omega))) with h | h <;> (have := HF0.out.1; rw [h] at this ⊢; simpa using this), HF0.out.2⟩)
              go_wp2_with (first
                | (go_at_call 110; have HF2 := Lib.hid (show FR wr g (P ++ ((L1 ++ R1) ++ (L2 ++ R2)) ++ Q) ∧ (L1 ++ R1).Perm (L1 ++ R1) ∧ Srt (L1 ++ R1) ∧ But g w wr from ⟨HF1.out.1, List.Perm.refl _, (by rcases (show L1 = [] ∨ R1 = [] by have h1 := HLEN.out; have n0 := hR1n.out; rcases Nat.lt_or_ge a lo with h2 | h2; exact .inr (List.length_eq_zero_iff.1 (by omega)); exact .inl (List.length_eq_zero_iff.1 (by omega))) with h | h; (rw [h, List.nil_append]; exact HSS.out.2.1); (rw [h, List.append_nil]; exact HSS.out.1.1)), HF1.out.2⟩); have hq2 := HI2.out hR2.out.1 hR2.out.2 (L1 ++ R1) (by rw [HF2.out.2.1.length_eq, List.length_append]) wr HF2.out.1; with_reducible refine hq2.mono ?_; rintro e w3 hq; obtain ⟨he, C2, hC1, hC2, hC3, hC4⟩ := hq; subst he; have HF3 := Lib.hid (show FR w3 g (P ++ ((L1 ++ R1) ++ C2) ++ Q) ∧ C2.Perm (L2 ++ R2) ∧ Srt C2 ∧ But g w w3 from ⟨by simpa using hC1, hC2, hC3, HF2.out.2.2.2.trans hC4⟩); clear hC1 hC2 hC3 hC4 hq2))
              all_goals
                try (exfalso; have n0 := hRn.out; have n1 := hR1n.out; omega)
              all_goals
                go_end0
                have hcx := cross HCR.out.1.1 HCR.out.1.2 HCR.out.2.1 HCR.out.2.2 HF2.out.2.1 HF2.out.2.2.1 HF3.out.2.1 HF3.out.2.2.1
                exact ⟨rfl, _, HF3.out.1, by rw [HAB.out.1, HAB.out.2]; exact hcx.2, hcx.1, HF3.out.2.2.2⟩
            · have hR2n := Lib.hid hR2
              clear hR2
              have HF1 := Lib.hid (show FR wr g (P ++ ((L1 ++ R1) ++ (L2 ++ R2)) ++ Q) ∧ But g w wr from ⟨by rcases (show L2 = [] ∨ R1 = [] by have h1 := HLEN.out; have n0 := hRn.out; rcases Nat.lt_or_ge lo m with h2 | h2; exact .inr (List.length_eq_zero_iff.1 (by omega)); exact .inl (List.length_eq_zero_iff.1 (by omega))) with h | h <;> (have := HF0.out.1; rw [h] at this ⊢; simpa using this), HF0.out.2⟩)
              go_wp2_with fail
              all_goals
                try (exfalso; have n0 := hRn.out; have n1 := hR1n.out; have n2 := hR2n.out; omega)
              all_goals
                go_end0
                have HF2 := Lib.hid (show FR wr g (P ++ ((L1 ++ R1) ++ (L2 ++ R2)) ++ Q) ∧ (L1 ++ R1).Perm (L1 ++ R1) ∧ Srt (L1 ++ R1) ∧ But g w wr from ⟨HF1.out.1, List.Perm.refl _, (by rcases (show L1 = [] ∨ R1 = [] by have h1 := HLEN.out; have n0 := hR1n.out; rcases Nat.lt_or_ge a lo with h2 | h2; exact .inr (List.length_eq_zero_iff.1 (by omega)); exact .inl (List.length_eq_zero_iff.1 (by omega))) with h | h; (rw [h, List.nil_append]; exact HSS.out.2.1); (rw [h, List.append_nil]; exact HSS.out.1.1)), HF1.out.2⟩)
                have HF3 := Lib.hid (show FR wr g (P ++ ((L1 ++ R1) ++ (L2 ++ R2)) ++ Q) ∧ (L2 ++ R2).Perm (L2 ++ R2) ∧ Srt (L2 ++ R2) ∧ But g w wr from ⟨HF2.out.1, List.Perm.refl _, (by rcases (show L2 = [] ∨ R2 = [] by have h1 := HLEN.out; have n0 := hR2n.out; rcases Nat.lt_or_ge lo m with h2 | h2; exact .inr (List.length_eq_zero_iff.1 (by omega)); exact .inl (List.length_eq_zero_iff.1 (by omega))) with h | h; (rw [h, List.nil_append]; exact HSS.out.2.2); (rw [h, List.append_nil]; exact HSS.out.1.2)), HF2.out.2.2.2⟩)
                have hcx := cross HCR.out.1.1 HCR.out.1.2 HCR.out.2.1 HCR.out.2.2 HF2.out.2.1 HF2.out.2.2.1 HF3.out.2.1 HF3.out.2.2.1
                exact ⟨rfl, _, HF3.out.1, by rw [HAB.out.1, HAB.out.2]; exact hcx.2, hcx.1, HF3.out.2.2.2⟩
  · have j1 : ¬ (mid : Int) < (m : Int) := by omega
    obtain ⟨lo0, h1⟩ : ∃ lo0 : Nat, lo0 = a := ⟨_, rfl⟩
    obtain ⟨r0, h2⟩ : ∃ r0 : Nat, r0 = m := ⟨_, rfl⟩
    have HH0 := Lib.hid (show (mid < m ∧ lo0 + b = mid + m ∧ r0 = mid) ∨ (m ≤ mid ∧ lo0 = a ∧ r0 = m) from .inr ⟨by omega, h1, h2⟩)
    have HC := Lib.hid hc1
    clear h1 h2
    go_enter Tryz.func110, Tryz.ntmps110
    go_wp2_with fail
    clear i0 i1 q1 q2 j1 hc1
    go_loopw [20, 21] (fun si sj wr => ∃ lo hi : Nat, si = .int .i64 (lo : Int) ∧ sj = .int .i64 (hi : Int) ∧ lo0 ≤ lo ∧ lo ≤ hi ∧ hi ≤ r0 ∧ (lo = lo0 ∨ lo0 < lo ∧ ∃ x y : F, A[lo - a - 1]? = some x ∧ B[mid - lo]? = some y ∧ Le x y) ∧ (hi = r0 ∨ hi < r0 ∧ ∃ x y : F, A[hi - a]? = some x ∧ B[mid - hi - 1]? = some y ∧ Le y x) ∧ FR wr g (P ++ (A ++ B) ++ Q) ∧ But g w wr) (fun si sj _ => (RowKit.intOf sj).toNat - (RowKit.intOf si).toNat)
    case atStart =>
      have h0 := HH0.out
      have h9 := HC.out
      exact ⟨a, m, rfl, rfl, by omega, by omega, by omega, .inl (by omega), .inl (by omega), HF.out, But.refl g w⟩
    case round =>
      obtain ⟨lo, hi, rfl, rfl, hml, hlh, hhb, hlo, hhi, hF, hB⟩ := hrel
      clear HF
      have HLO := Lib.hid (And.intro hlo hhi)
      have HFB := Lib.hid (And.intro hF hB)
      clear hlo hhi hB
      by_cases hlt : lo < hi
      · obtain ⟨h, hh⟩ : ∃ h : Nat, h = (lo + hi) / 2 := ⟨_, rfl⟩
        have h0 := HH0.out
        have hpp := HP.out
        obtain ⟨x, hx⟩ : ∃ x, A[h - a]? = some x := ⟨_, List.getElem?_eq_getElem (by omega)⟩
        obtain ⟨y, hy⟩ : ∃ y, B[mid - h - 1]? = some y := ⟨_, List.getElem?_eq_getElem (by omega)⟩
        have q1 : ((lo : Int) + (hi : Int)) / 2 = (h : Int) := by omega
        have q2 : (lo + hi) / 2 = h := hh.symm
        obtain ⟨pc, hpc⟩ : ∃ pc : Nat, pc = m + (mid - h - 1) := ⟨_, rfl⟩
        have qp : (mid : Int) + (m : Int) - 1 - (h : Int) = (pc : Int) := by omega
        have q5 : h < hi := by omega
        have q6 : lo ≤ h := by omega
        have q7 : h < L := by omega
        have q8 : pc < L := by omega
        have s1 := HTA.out _ _ hx
        have s2 := HTB.out _ _ hy
        rw [show a + (h - a) = h by omega] at s1
        rw [← hpc] at s2
        obtain ⟨x1, x2⟩ := x
        obtain ⟨y1, y2⟩ := y
        obtain ⟨c0, c1⟩ := hF.cells s1
        obtain ⟨d0, d1⟩ := hF.cells s2
        have e0 := Sx.ext_cell c0
        have e1 := Sx.ext_cell c1
        have e2 := Sx.ext_cell d0
        have e3 := Sx.ext_cell d1
        obtain ⟨c, hcd⟩ : ∃ c, c = Lib.compareBytes (K (y1, y2)) (K (x1, x2)) := ⟨_, rfl⟩
        have HK := Lib.hid (fun Y => by rw [hcd]; exact bypath_any (y1, y2) (x1, x2) (Sx.ext wr Y) : ∀ Y, Calls Tryz.prog 60 #[.agg #[.string y1, .string y2], .agg #[.string x1, .string x2]] (Sx.ext wr Y) fun e w' => e = .returned (.int .i64 c) ∧ Below (Sx.ext wr Y).heap.size (Sx.ext wr Y) w')
        have HCD := Lib.hid (show ltB (K (y1, y2)) (K (x1, x2)) = decide (c < 0) by rw [hcd]; rfl)
        have HXY := Lib.hid (And.intro hx hy)
        have hhr : h < r0 := by omega
        have hlh0 : lo0 < h + 1 := by omega
        clear c0 c1 d0 d1 hcd hx hy s1 s2 hF hh h0 hpp hpc
        dsimp only at e0 e1 e2 e3
        by_cases hc : c < 0
        · go_wp2_with fail
          refine Sx.wp_region_ext (X := wr) (by kernel_rfl) (by kernel_rfl) ?_
          repeat (go_big_quiet_step (first | (go_at_call 60; with_reducible exact Sx.calls_ext (HK.out _))))
          refine wpQuiet_nil ?_
          intro _ hw'
          obtain ⟨Y, hw''⟩ := hw'
          subst hw''
          have hB2 := Sx.ext_below wr Y
          clear e0 e1 e2 e3
          generalize Sx.ext wr Y = w2 at *
          have HF3 := Lib.hid (And.intro (HFB.out.1.keep hB2) (HFB.out.2.trans (But.of hB2)))
          have HLE := Lib.hid (show Le (y1, y2) (x1, x2) from leB_of (by rw [HCD.out]; exact decide_eq_true hc))
          clear q1 q2 qp hB2
          go_wp2_with fail
          refine ⟨⟨lo, h, rfl, rfl, hml, q6, by omega, HLO.out.1, .inr ⟨hhr, _, _, HXY.out.1, HXY.out.2, HLE.out⟩, HF3.out.1, HF3.out.2⟩, ?_⟩
          simp only [RowKit.intOf]
          omega
        · have hcn : (!decide (c < 0)) = true := by rw [decide_eq_false hc]; rfl
          go_wp2_with fail
          refine Sx.wp_region_ext (X := wr) (by kernel_rfl) (by kernel_rfl) ?_
          repeat (go_big_quiet_step (first | (go_at_call 60; with_reducible exact Sx.calls_ext (HK.out _))))
          refine wpQuiet_nil ?_
          intro _ hw'
          obtain ⟨Y, hw''⟩ := hw'
          subst hw''
          have hB2 := Sx.ext_below wr Y
          clear e0 e1 e2 e3
          generalize Sx.ext wr Y = w2 at *
          have HF3 := Lib.hid (And.intro (HFB.out.1.keep hB2) (HFB.out.2.trans (But.of hB2)))
          have HLE := Lib.hid (show Le (x1, x2) (y1, y2) by unfold Le leB; rw [HCD.out]; exact decide_eq_false (by omega))
          have HXY2 := Lib.hid (show A[h + 1 - a - 1]? = some (x1, x2) ∧ B[mid - (h + 1)]? = some (y1, y2) from ⟨by rw [show h + 1 - a - 1 = h - a by have := HH0.out; omega]; exact HXY.out.1, by rw [show mid - (h + 1) = mid - h - 1 by omega]; exact HXY.out.2⟩)
          clear q1 q2 qp hB2
          go_wp2_with fail
          refine ⟨⟨h + 1, hi, by push_cast; rfl, rfl, by omega, by omega, hhb, .inr ⟨hlh0, _, _, HXY2.out.1, HXY2.out.2, HLE.out⟩, HLO.out.2, HF3.out.1, HF3.out.2⟩, ?_⟩
          simp only [RowKit.intOf]
          omega
      · obtain rfl : lo = hi := by omega
        have h0 := HH0.out
        have hpp := HP.out
        have hcr := cross_of HS.out.1 HS.out.2 (s := lo - a) (e := mid - lo) (by omega) (by omega) (fun x y hs hx hy => by
          rcases HLO.out.1 with h1 | ⟨h1, x', y', h2, h3, h4⟩
          · have := (List.getElem?_eq_some_iff.1 hy).1
            omega
          · rw [hx] at h2
            rw [hy] at h3
            cases h2
            cases h3
            exact h4) (fun x y he hy hx => by
          rcases HLO.out.2 with h1 | ⟨h1, x', y', h2, h3, h4⟩
          · have := (List.getElem?_eq_some_iff.1 hx).1
            omega
          · rw [hx] at h2
            rw [hy] at h3
            cases h2
            cases h3
            exact h4)
        obtain ⟨L1, L2, hA12, hl1, hl2⟩ : ∃ L1 L2, A = L1 ++ L2 ∧ L1.length = lo - a ∧ L2.length = m - lo := ⟨A.take (lo - a), A.drop (lo - a), (List.take_append_drop _ A).symm, by simp; omega, by simp; omega⟩
        obtain ⟨R1, R2, hB12, hr1, hr2⟩ : ∃ R1 R2, B = R1 ++ R2 ∧ R1.length = mid - lo ∧ R2.length = b - (mid + m - lo) := ⟨B.take (mid - lo), B.drop (mid - lo), (List.take_append_drop _ B).symm, by simp; omega, by simp; omega⟩
        have hcr1 : (∀ x ∈ L1, ∀ y ∈ R2, Le x y) ∧ ∀ y ∈ R1, ∀ x ∈ L2, Le y x := by
          have e1 : A.take (lo - a) = L1 := by rw [hA12, ← hl1, List.take_left]
          have e2 : A.drop (lo - a) = L2 := by rw [hA12, ← hl1, List.drop_left]
          have e3 : B.take (mid - lo) = R1 := by rw [hB12, ← hr1, List.take_left]
          have e4 : B.drop (mid - lo) = R2 := by rw [hB12, ← hr1, List.drop_left]
          rw [e1, e2, e3, e4] at hcr
          exact hcr
        obtain ⟨en, hen⟩ : ∃ en : Nat, en = mid + m - lo := ⟨_, rfl⟩
        have qe : (mid : Int) + (m : Int) - (lo : Int) = (en : Int) := by omega
        have hsL : Srt (L1 ++ L2) := by rw [← hA12]; exact HS.out.1
        have hsR : Srt (R1 ++ R2) := by rw [← hB12]; exact HS.out.2
        obtain ⟨sL1, sL2, -⟩ := List.pairwise_append.1 hsL
        obtain ⟨sR1, sR2, -⟩ := List.pairwise_append.1 hsR
        have hz1 : a ≤ lo := by omega
        have hz2 : lo ≤ m := by omega
        have hz3 : lo ≤ mid := by omega
        have hz4 : en ≤ b := by omega
        have hz5 : en + lo = mid + m := by omega
        have HLEN := Lib.hid (And.intro (And.intro hl1 hl2) (And.intro hr1 (show R2.length = b - en by rw [hr2, hen])))
        have HCR := Lib.hid (And.intro (And.intro hsL hsR) hcr1)
        have HSS := Lib.hid (And.intro (And.intro sL1 sL2) (And.intro sR1 sR2))
        have hF0 : FR wr g (P ++ L1 ++ L2 ++ R1 ++ (R2 ++ Q)) := by
          have := HFB.out.1
          rw [hA12, hB12] at this
          simpa using this
        have hLn : (P ++ L1 ++ L2 ++ R1 ++ (R2 ++ Q)).length = L := by
          have := hpp.2.2.2
          rw [hA12, hB12] at this
          rw [← this]
          simp
        have hAB : A.length = L1.length + L2.length ∧ B.length = R1.length + R2.length := ⟨by rw [hA12, List.length_append], by rw [hB12, List.length_append]⟩
        have hPa := hpp.1
        have hbt := HFB.out.2
        have HAB := Lib.hid (And.intro hA12 hB12)
        -- the rotation
        have HROT := Lib.hid (fun (h1 : lo < m) (h2 : lo < mid) => rotate_any (P := P ++ L1) (X := L2) (Y := R1) (Q := R2 ++ Q) (a := lo) (m := m) (b := en) (by rw [List.length_append]; omega) (by omega) (by omega) (by omega) (by omega) L cap (by rw [← hLn]) hL2 g (.func (.func 60) #[] #[]) wr (by simpa using hF0))
        have HI1 := Lib.hid (fun (h1 : a < lo) (h2 : lo < mid) (w1 : World) (hF1 : FR w1 g (P ++ ((L1 ++ R1) ++ (L2 ++ R2)) ++ Q)) => HI.out L1 R1 (by omega) (by omega) (by omega) sL1 sR1 P ((L2 ++ R2) ++ Q) a lo mid hPa (by omega) (by omega) L cap (by rw [← hLn]; simp; omega) hL2 g w1 (by simpa using hF1))
        have HI2 := Lib.hid (fun (h1 : lo < m) (h2 : en < b) (C : List F) (hC : C.length = L1.length + R1.length) (w1 : World) (hF1 : FR w1 g (P ++ (C ++ (L2 ++ R2)) ++ Q)) => HI.out L2 R2 (by omega) (by omega) (by omega) sL2 sR2 (P ++ C) Q mid en b (by rw [List.length_append]; omega) (by omega) (by omega) L cap (by rw [← hLn]; simp; omega) hL2 g w1 (by simpa using hF1))
        have HF0 := Lib.hid (And.intro hF0 hbt)
        clear hcr hcr1 hl1 hl2 hr1 hr2 hA12 hB12 hF0 hLn hAB hPa hbt hsL hsR sL1 sL2 sR1 sR2 hpp h0 hF hlt hml hhb hlh hen
        by_cases hR : lo < m ∧ lo < mid
        · obtain ⟨hRa, hRb⟩ := hR
          have hR := Lib.hid (And.intro hRa hRb)
          by_cases hR1 : a < lo ∧ lo < mid
          · obtain ⟨hR1a, hR1b⟩ := hR1
            have hR1 := Lib.hid (And.intro hR1a hR1b)
            by_cases hR2 : lo < m ∧ en < b
            · obtain ⟨hR2a, hR2b⟩ := hR2
              have hR2 := Lib.hid (And.intro hR2a hR2b)
              go_wp2_with (first
                | (go_at_call 128; with_reducible refine (HROT.out hR.out.1 hR.out.2).mono ?_; rintro e w1 ⟨he, hF1, hB1⟩; subst he; have HF1 := Lib.hid (show FR w1 g (P ++ ((L1 ++ R1) ++ (L2 ++ R2)) ++ Q) ∧ But g w w1 from ⟨by simpa using hF1, HF0.out.2.trans hB1⟩); clear hF1 hB1)
                | (go_at_call 110; have hq1 := HI1.out hR1.out.1 hR1.out.2 w1 HF1.out.1; with_reducible refine hq1.mono ?_; rintro e w2 hq; obtain ⟨he, C1, hC1, hC2, hC3, hC4⟩ := hq; subst he; have HF2 := Lib.hid (show FR w2 g (P ++ (C1 ++ (L2 ++ R2)) ++ Q) ∧ C1.Perm (L1 ++ R1) ∧ Srt C1 ∧ But g w w2 from ⟨by simpa using hC1, hC2, hC3, HF1.out.2.trans hC4⟩); clear hC1 hC2 hC3 hC4 hq1)
                | (go_at_call 110; have hq2 := HI2.out hR2.out.1 hR2.out.2 C1 (by rw [HF2.out.2.1.length_eq, List.length_append]) w2 HF2.out.1; with_reducible refine hq2.mono ?_; rintro e w3 hq; obtain ⟨he, C2, hC1, hC2, hC3, hC4⟩ := hq; subst he; have HF3 := Lib.hid (show FR w3 g (P ++ (C1 ++ C2) ++ Q) ∧ C2.Perm (L2 ++ R2) ∧ Srt C2 ∧ But g w w3 from ⟨by simpa using hC1, hC2, hC3, HF2.out.2.2.2.trans hC4⟩); clear hC1 hC2 hC3 hC4 hq2))
              all_goals
                go_end0
                have hcx := cross HCR.out.1.1 HCR.out.1.2 HCR.out.2.1 HCR.out.2.2 HF2.out.2.1 HF2.out.2.2.1 HF3.out.2.1 HF3.out.2.2.1
                exact ⟨rfl, _, HF3.out.1, by rw [HAB.out.1, HAB.out.2]; exact hcx.2, hcx.1, HF3.out.2.2.2⟩
            · have hR2n := Lib.hid hR2
              clear hR2
              go_wp2_with (first
                | (go_at_call 128; with_reducible refine (HROT.out hR.out.1 hR.out.2).mono ?_; rintro e w1 ⟨he, hF1, hB1⟩; subst he; have HF1 := Lib.hid (show FR w1 g (P ++ ((L1 ++ R1) ++ (L2 ++ R2)) ++ Q) ∧ But g w w1 from ⟨by simpa using hF1, HF0.out.2.trans hB1⟩); clear hF1 hB1)
                | (go_at_call 110; have hq1 := HI1.out hR1.out.1 hR1.out.2 w1 HF1.out.1; with_reducible refine hq1.mono ?_; rintro e w2 hq; obtain ⟨he, C1, hC1, hC2, hC3, hC4⟩ := hq; subst he; have HF2 := Lib.hid (show FR w2 g (P ++ (C1 ++ (L2 ++ R2)) ++ Q) ∧ C1.Perm (L1 ++ R1) ∧ Srt C1 ∧ But g w w2 from ⟨by simpa using hC1, hC2, hC3, HF1.out.2.trans hC4⟩); clear hC1 hC2 hC3 hC4 hq1))
              all_goals
                try (exfalso; have n0 := hR2n.out; omega)
              all_goals
                go_end0
                have HF3 := Lib.hid (show FR w2 g (P ++ (C1 ++ (L2 ++ R2)) ++ Q) ∧ (L2 ++ R2).Perm (L2 ++ R2) ∧ Srt (L2 ++ R2) ∧ But g w w2 from ⟨HF2.out.1, List.Perm.refl _, (by rcases (show L2 = [] ∨ R2 = [] by have h1 := HLEN.out; have n0 := hR2n.out; rcases Nat.lt_or_ge lo m with h2 | h2; exact .inr (List.length_eq_zero_iff.1 (by omega)); exact .inl (List.length_eq_zero_iff.1 (by omega))) with h | h; (rw [h, List.nil_append]; exact HSS.out.2.2); (rw [h, List.append_nil]; exact HSS.out.1.2)), HF2.out.2.2.2⟩)
                have hcx := cross HCR.out.1.1 HCR.out.1.2 HCR.out.2.1 HCR.out.2.2 HF2.out.2.1 HF2.out.2.2.1 HF3.out.2.1 HF3.out.2.2.1
                exact ⟨rfl, _, HF3.out.1, by rw [HAB.out.1, HAB.out.2]; exact hcx.2, hcx.1, HF3.out.2.2.2⟩
          · have hR1n := Lib.hid hR1
            clear hR1
            by_cases hR2 : lo < m ∧ en < b
            · obtain ⟨hR2a, hR2b⟩ := hR2
              have hR2 := Lib.hid (And.intro hR2a hR2b)
              go_wp2_with (first
                | (go_at_call 128; with_reducible refine (HROT.out hR.out.1 hR.out.2).mono ?_; rintro e w1 ⟨he, hF1, hB1⟩; subst he; have HF1 := Lib.hid (show FR w1 g (P ++ ((L1 ++ R1) ++ (L2 ++ R2)) ++ Q) ∧ But g w w1 from ⟨by simpa using hF1, HF0.out.2.trans hB1⟩); clear hF1 hB1)
                | (go_at_call 110; have HF2 := Lib.hid (show FR w1 g (P ++ ((L1 ++ R1) ++ (L2 ++ R2)) ++ Q) ∧ (L1 ++ R1).Perm (L1 ++ R1) ∧ Srt (L1 ++ R1) ∧ But g w w1 from ⟨HF1.out.1, List.Perm.refl _, (by rcases (show L1 = [] ∨ R1 = [] by have h1 := HLEN.out; have n0 := hR1n.out; rcases Nat.lt_or_ge a lo with h2 | h2; exact .inr (List.length_eq_zero_iff.1 (by omega)); exact .inl (List.length_eq_zero_iff.1 (by omega))) with h | h; (rw [h, List.nil_append]; exact HSS.out.2.1); (rw [h, List.append_nil]; exact HSS.out.1.1)), HF1.out.2⟩); have hq2 := HI2.out hR2.out.1 hR2.out.2 (L1 ++ R1) (by rw [HF2.out.2.1.length_eq, List.length_append]) w1 HF2.out.1; with_reducible refine hq2.mono ?_; rintro e w3 hq; obtain ⟨he, C2, hC1, hC2, hC3, hC4⟩ := hq; subst he; have HF3 := Lib.hid (show FR w3 g (P ++ ((L1 ++ R1) ++ C2) ++ Q) ∧ C2.Perm (L2 ++ R2) ∧ Srt C2 ∧ But g w w3 from ⟨by simpa using hC1, hC2, hC3, HF2.out.2.2.2.trans hC4⟩); clear hC1 hC2 hC3 hC4 hq2))
              all_goals
                try (exfalso; have n0 := hR1n.out; omega)
              all_goals
                go_end0
                have hcx := cross HCR.out.1.1 HCR.out.1.2 HCR.out.2.1 HCR.out.2.2 HF2.out.2.1 HF2.out.2.2.1 HF3.out.2.1 HF3.out.2.2.1
                exact ⟨rfl, _, HF3.out.1, by rw [HAB.out.1, HAB.out.2]; exact hcx.2, hcx.1, HF3.out.2.2.2⟩
            · have hR2n := Lib.hid hR2
              clear hR2
              go_wp2_with (first
                | (go_at_call 128; with_reducible refine (HROT.out hR.out.1 hR.out.2).mono ?_; rintro e w1 ⟨he, hF1, hB1⟩; subst he; have HF1 := Lib.hid (show FR w1 g (P ++ ((L1 ++ R1) ++ (L2 ++ R2)) ++ Q) ∧ But g w w1 from ⟨by simpa using hF1, HF0.out.2.trans hB1⟩); clear hF1 hB1))
              all_goals
                try (exfalso; have n0 := hR1n.out; have n1 := hR2n.out; omega)
              all_goals
                go_end0
                have HF2 := Lib.hid (show FR w1 g (P ++ ((L1 ++ R1) ++ (L2 ++ R2)) ++ Q) ∧ (L1 ++ R1).Perm (L1 ++ R1) ∧ Srt (L1 ++ R1) ∧ But g w w1 from ⟨HF1.out.1, List.Perm.refl _, (by rcases (show L1 = [] ∨ R1 = [] by have h1 := HLEN.out; have n0 := hR1n.out; rcases Nat.lt_or_ge a lo with h2 | h2; exact .inr (List.length_eq_zero_iff.1 (by omega)); exact .inl (List.length_eq_zero_iff.1 (by omega))) with h | h; (rw [h, List.nil_append]; exact HSS.out.2.1); (rw [h, List.append_nil]; exact HSS.out.1.1)), HF1.out.2⟩)
                have HF3 := Lib.hid (show FR w1 g (P ++ ((L1 ++ R1) ++ (L2 ++ R2)) ++ Q) ∧ (L2 ++ R2).Perm (L2 ++ R2) ∧ Srt (L2 ++ R2) ∧ But g w w1 from ⟨HF2.out.1, List.Perm.refl _, (by rcases (show L2 = [] ∨ R2 = [] by have h1 := HLEN.out; have n0 := hR2n.out; rcases Nat.lt_or_ge lo m with h2 | h2; exact .inr (List.length_eq_zero_iff.1 (by omega)); exact .inl (List.length_eq_zero_iff.1 (by omega))) with h | h; (rw [h, List.nil_append]; exact HSS.out.2.2); (rw [h, List.append_nil]; exact HSS.out.1.2)), HF2.out.2.2.2⟩)
                have hcx := cross HCR.out.1.1 HCR.out.1.2 HCR.out.2.1 HCR.out.2.2 HF2.out.2.1 HF2.out.2.2.1 HF3.out.2.1 HF3.out.2.2.1
                exact ⟨rfl, _, HF3.out.1, by rw [HAB.out.1, HAB.out.2]; exact hcx.2, hcx.1, HF3.out.2.2.2⟩
        · have hRn := Lib.hid hR
          clear hR
          by_cases hR1 : a < lo ∧ lo < mid
          · obtain ⟨hR1a, hR1b⟩ := hR1
            have hR1 := Lib.hid (And.intro hR1a hR1b)
            by_cases hR2 : lo < m ∧ en < b
            · obtain ⟨hR2a, hR2b⟩ := hR2
              have hR2 := Lib.hid (And.intro hR2a hR2b)
              have HF1 := Lib.hid (show FR wr g (P ++ ((L1 ++ R1) ++ (L2 ++ R2)) ++ Q) ∧ But g w wr from ⟨by rcases (show L2 = [] ∨ R1 = [] by have h1 := HLEN.out; have n0 := hRn.out; rcases Nat.lt_or_ge lo m with h2 | h2; exact .inr (List.length_eq_zero_iff.1 (by omega)); exact .inl (List.length_eq_zero_iff.1 (by omega))) with h | h <;> (have := HF0.out.1; rw [h] at this ⊢; simpa using this), HF0.out.2⟩)
              go_wp2_with (first
                | (go_at_call 110; have hq1 := HI1.out hR1.out.1 hR1.out.2 wr HF1.out.1; with_reducible refine hq1.mono ?_; rintro e w2 hq; obtain ⟨he, C1, hC1, hC2, hC3, hC4⟩ := hq; subst he; have HF2 := Lib.hid (show FR w2 g (P ++ (C1 ++ (L2 ++ R2)) ++ Q) ∧ C1.Perm (L1 ++ R1) ∧ Srt C1 ∧ But g w w2 from ⟨by simpa using hC1, hC2, hC3, HF1.out.2.trans hC4⟩); clear hC1 hC2 hC3 hC4 hq1)
                | (go_at_call 110; have hq2 := HI2.out hR2.out.1 hR2.out.2 C1 (by rw [HF2.out.2.1.length_eq, List.length_append]) w2 HF2.out.1; with_reducible refine hq2.mono ?_; rintro e w3 hq; obtain ⟨he, C2, hC1, hC2, hC3, hC4⟩ := hq; subst he; have HF3 := Lib.hid (show FR w3 g (P ++ (C1 ++ C2) ++ Q) ∧ C2.Perm (L2 ++ R2) ∧ Srt C2 ∧ But g w w3 from ⟨by simpa using hC1, hC2, hC3, HF2.out.2.2.2.trans hC4⟩); clear hC1 hC2 hC3 hC4 hq2))
              all_goals
                try (exfalso; have n0 := hRn.out; omega)
              all_goals
                go_end0
                have hcx := cross HCR.out.1.1 HCR.out.1.2 HCR.out.2.1 HCR.out.2.2 HF2.out.2.1 HF2.out.2.2.1 HF3.out.2.1 HF3.out.2.2.1
                exact ⟨rfl, _, HF3.out.1, by rw [HAB.out.1, HAB.out.2]; exact hcx.2, hcx.1, HF3.out.2.2.2⟩
            · have hR2n := Lib.hid hR2
              clear hR2
              have HF1 := Lib.hid (show FR wr g (P ++ ((L1 ++ R1) ++ (L2 ++ R2)) ++ Q) ∧ But g w wr from ⟨by rcases (show L2 = [] ∨ R1 = [] by have h1 := HLEN.out; have n0 := hRn.out; rcases Nat.lt_or_ge lo m with h2 | h2; exact .inr (List.length_eq_zero_iff.1 (by omega)); exact .inl (List.length_eq_zero_iff.1 (by omega))) with h | h <;> (have := HF0.out.1; rw [h] at this ⊢; simpa using this), HF0.out.2⟩)
              go_wp2_with (first
                | (go_at_call 110; have hq1 := HI1.out hR1.out.1 hR1.out.2 wr HF1.out.1; with_reducible refine hq1.mono ?_; rintro e w2 hq; obtain ⟨he, C1, hC1, hC2, hC3, hC4⟩ := hq; subst he; have HF2 := Lib.hid (show FR w2 g (P ++ (C1 ++ (L2 ++ R2)) ++ Q) ∧ C1.Perm (L1 ++ R1) ∧ Srt C1 ∧ But g w w2 from ⟨by simpa using hC1, hC2, hC3, HF1.out.2.trans hC4⟩); clear hC1 hC2 hC3 hC4 hq1))
              all_goals
                try (exfalso; have n0 := hRn.out; have n1 := hR2n.out; omega)
              all_goals
                go_end0
                have HF3 := Lib.hid (show FR w2 g (P ++ (C1 ++ (L2 ++ R2)) ++ Q) ∧ (L2 ++ R2).Perm (L2 ++ R2) ∧ Srt (L2 ++ R2) ∧ But g w w2 from ⟨HF2.out.1, List.Perm.refl _, (by rcases (show L2 = [] ∨ R2 = [] by have h1 := HLEN.out; have n0 := hR2n.out; rcases Nat.lt_or_ge lo m with h2 | h2; exact .inr (List.length_eq_zero_iff.1 (by omega)); exact .inl (List.length_eq_zero_iff.1 (by omega))) with h | h; (rw [h, List.nil_append]; exact HSS.out.2.2); (rw [h, List.append_nil]; exact HSS.out.1.2)), HF2.out.2.2.2⟩)
                have hcx := cross HCR.out.1.1 HCR.out.1.2 HCR.out.2.1 HCR.out.2.2 HF2.out.2.1 HF2.out.2.2.1 HF3.out.2.1 HF3.out.2.2.1
                exact ⟨rfl, _, HF3.out.1, by rw [HAB.out.1, HAB.out.2]; exact hcx.2, hcx.1, HF3.out.2.2.2⟩
          · have hR1n := Lib.hid hR1
            clear hR1
            by_cases hR2 : lo < m ∧ en < b
            · obtain ⟨hR2a, hR2b⟩ := hR2
              have hR2 := Lib.hid (And.intro hR2a hR2b)
              have HF1 := Lib.hid (show FR wr g (P ++ ((L1 ++ R1) ++ (L2 ++ R2)) ++ Q) ∧ But g w wr from ⟨by rcases (show L2 = [] ∨ R1 = [] by have h1 := HLEN.out; have n0 := hRn.out; rcases Nat.lt_or_ge lo m with h2 | h2; exact .inr (List.length_eq_zero_iff.1 (by omega)); exact .inl (List.length_eq_zero_iff.1 (by omega))) with h | h <;> (have := HF0.out.1; rw [h] at this ⊢; simpa using this), HF0.out.2⟩)
              go_wp2_with (first
                | (go_at_call 110; have HF2 := Lib.hid (show FR wr g (P ++ ((L1 ++ R1) ++ (L2 ++ R2)) ++ Q) ∧ (L1 ++ R1).Perm (L1 ++ R1) ∧ Srt (L1 ++ R1) ∧ But g w wr from ⟨HF1.out.1, List.Perm.refl _, (by rcases (show L1 = [] ∨ R1 = [] by have h1 := HLEN.out; have n0 := hR1n.out; rcases Nat.lt_or_ge a lo with h2 | h2; exact .inr (List.length_eq_zero_iff.1 (by omega)); exact .inl (List.length_eq_zero_iff.1 (by omega))) with h | h; (rw [h, List.nil_append]; exact HSS.out.2.1); (rw [h, List.append_nil]; exact HSS.out.1.1)), HF1.out.2⟩); have hq2 := HI2.out hR2.out.1 hR2.out.2 (L1 ++ R1) (by rw [HF2.out.2.1.length_eq, List.length_append]) wr HF2.out.1; with_reducible refine hq2.mono ?_; rintro e w3 hq; obtain ⟨he, C2, hC1, hC2, hC3, hC4⟩ := hq; subst he; have HF3 := Lib.hid (show FR w3 g (P ++ ((L1 ++ R1) ++ C2) ++ Q) ∧ C2.Perm (L2 ++ R2) ∧ Srt C2 ∧ But g w w3 from ⟨by simpa using hC1, hC2, hC3, HF2.out.2.2.2.trans hC4⟩); clear hC1 hC2 hC3 hC4 hq2))
              all_goals
                try (exfalso; have n0 := hRn.out; have n1 := hR1n.out; omega)
              all_goals
                go_end0
                have hcx := cross HCR.out.1.1 HCR.out.1.2 HCR.out.2.1 HCR.out.2.2 HF2.out.2.1 HF2.out.2.2.1 HF3.out.2.1 HF3.out.2.2.1
                exact ⟨rfl, _, HF3.out.1, by rw [HAB.out.1, HAB.out.2]; exact hcx.2, hcx.1, HF3.out.2.2.2⟩
            · have hR2n := Lib.hid hR2
              clear hR2
              have HF1 := Lib.hid (show FR wr g (P ++ ((L1 ++ R1) ++ (L2 ++ R2)) ++ Q) ∧ But g w wr from ⟨by rcases (show L2 = [] ∨ R1 = [] by have h1 := HLEN.out; have n0 := hRn.out; rcases Nat.lt_or_ge lo m with h2 | h2; exact .inr (List.length_eq_zero_iff.1 (by omega)); exact .inl (List.length_eq_zero_iff.1 (by omega))) with h | h <;> (have := HF0.out.1; rw [h] at this ⊢; simpa using this), HF0.out.2⟩)
              go_wp2_with fail
              all_goals
                try (exfalso; have n0 := hRn.out; have n1 := hR1n.out; have n2 := hR2n.out; omega)
              all_goals
                go_end0
                have HF2 := Lib.hid (show FR wr g (P ++ ((L1 ++ R1) ++ (L2 ++ R2)) ++ Q) ∧ (L1 ++ R1).Perm (L1 ++ R1) ∧ Srt (L1 ++ R1) ∧ But g w wr from ⟨HF1.out.1, List.Perm.refl _, (by rcases (show L1 = [] ∨ R1 = [] by have h1 := HLEN.out; have n0 := hR1n.out; rcases Nat.lt_or_ge a lo with h2 | h2; exact .inr (List.length_eq_zero_iff.1 (by omega)); exact .inl (List.length_eq_zero_iff.1 (by omega))) with h | h; (rw [h, List.nil_append]; exact HSS.out.2.1); (rw [h, List.append_nil]; exact HSS.out.1.1)), HF1.out.2⟩)
                have HF3 := Lib.hid (show FR wr g (P ++ ((L1 ++ R1) ++ (L2 ++ R2)) ++ Q) ∧ (L2 ++ R2).Perm (L2 ++ R2) ∧ Srt (L2 ++ R2) ∧ But g w wr from ⟨HF2.out.1, List.Perm.refl _, (by rcases (show L2 = [] ∨ R2 = [] by have h1 := HLEN.out; have n0 := hR2n.out; rcases Nat.lt_or_ge lo m with h2 | h2; exact .inr (List.length_eq_zero_iff.1 (by omega)); exact .inl (List.length_eq_zero_iff.1 (by omega))) with h | h; (rw [h, List.nil_append]; exact HSS.out.2.2); (rw [h, List.append_nil]; exact HSS.out.1.2)), HF2.out.2.2.2⟩)
                have hcx := cross HCR.out.1.1 HCR.out.1.2 HCR.out.2.1 HCR.out.2.2 HF2.out.2.1 HF2.out.2.2.1 HF3.out.2.1 HF3.out.2.2.1
                exact ⟨rfl, _, HF3.out.1, by rw [HAB.out.1, HAB.out.2]; exact hcx.2, hcx.1, HF3.out.2.2.2⟩
end Tr
end Go.Proofs.YtbefgplaaghlbaaGreatDoor
