/-
  Walks: symMerge over files, where the second part has one file. (printed by gen_TrU.py)
-/
import Derived.Test.YtbefgplaaghlbaaGreatDoorTrT
namespace Go.Proofs.YtbefgplaaghlbaaGreatDoor
open Go.RowKit Go.Lib
namespace Tr

set_option maxHeartbeats 4000000 in
set_option maxRecDepth 100000 in
theorem merge_two {P A Q : List F} {y : F} {a m b : Nat} (hP : P.length = a) (hm : a + A.length = m) (hb : m + 1 = b) (hA2 : 2 ≤ A.length) (hA : Srt A) (L cap : Nat) (hL : (P ++ (A ++ [y]) ++ Q).length = L) (hL2 : L ≤ 1000) (g : Nat) (w : World) (hF : FR w g (P ++ (A ++ [y]) ++ Q)) :
    Calls Tryz.prog 110 #[.slice (some ⟨g, 0, none⟩) L cap, .int .i64 a, .int .i64 m, .int .i64 b, .func (.func 60) #[] #[]] w fun e w' => MergeQ P A [y] Q g w e w' := by
  have hbL : b ≤ L := by
    simp only [List.length_append, List.length_cons, List.length_nil] at hL
    omega
  have hlen := Lib.hid (fun s : Nat => show (P ++ (A.take s ++ y :: A.drop s) ++ Q).length = L by
    simp only [List.length_append, List.length_cons, List.length_take, List.length_drop, List.length_nil] at hL ⊢
    omega)
  have HF := Lib.hid hF
  have HA := Lib.hid hA
  have HP := Lib.hid (And.intro hP (And.intro hm hb))
  have i0 : ((m : Int) - (a : Int) == 1) = false := by rw [beq_eq_false_iff_ne]; omega
  have i1 : (b : Int) - (m : Int) = 1 := by omega
  have ham : a < m := by omega
  obtain ⟨y1, y2⟩ := y
  clear hF hA hP hL hm hb
  go_enter Tryz.func110, Tryz.ntmps110
  go_wp2_with fail
  clear i0 i1
  go_loopw [14, 15] (fun si sj wr => ∃ lo hi : Nat, si = .int .i64 (lo : Int) ∧ sj = .int .i64 (hi : Int) ∧ a ≤ lo ∧ lo ≤ hi ∧ hi ≤ m ∧ (∀ (k : Nat) (z : F), a + k < lo → A[k]? = some z → ltB (K (y1, y2)) (K z) = false) ∧ (∀ (k : Nat) (z : F), hi ≤ a + k → A[k]? = some z → ltB (K (y1, y2)) (K z) = true) ∧ FR wr g (P ++ (A ++ [(y1, y2)]) ++ Q) ∧ But g w wr) (fun si sj _ => (RowKit.intOf sj).toNat - (RowKit.intOf si).toNat)
  case atStart =>
    refine ⟨a, m, rfl, rfl, Nat.le_refl _, Nat.le_of_lt ham, Nat.le_refl _, fun k z h => absurd h (by omega), fun k z h hz => ?_, HF.out, But.refl g w⟩
    have h1 := (List.getElem?_eq_some_iff.1 hz).1
    have h2 := HP.out.2.1
    omega
  case round =>
    obtain ⟨lo, hi, rfl, rfl, hml, hlh, hhb, hlo, hhi, hF, hB⟩ := hrel
    clear HF
    have HLO := Lib.hid (And.intro hlo hhi)
    have HFB := Lib.hid (And.intro hF hB)
    clear hlo hhi hB
    by_cases hlt : lo < hi
    · obtain ⟨h, hh⟩ : ∃ h : Nat, h = (lo + hi) / 2 := ⟨_, rfl⟩
      obtain ⟨z, hz⟩ : ∃ z, A[h - a]? = some z := ⟨_, List.getElem?_eq_getElem (by have := HP.out.2.1; omega)⟩
      have q1 : ((lo : Int) + (hi : Int)) / 2 = (h : Int) := by omega
      have q2 : (lo + hi) / 2 = h := hh.symm
      have hmb : m < b := by have := HP.out.2.2; omega
      have q3 : h < L := by omega
      have q4 : a ≤ h := by omega
      have q5 : h < hi := by omega
      have q6 : lo ≤ h := by omega
      have q7 : m < L := by omega
      have s1 : (P ++ (A ++ [(y1, y2)]) ++ Q)[h]? = some z := by
        rw [List.append_assoc, List.getElem?_append_right (by have := HP.out.1; omega), show h - P.length = h - a by rw [HP.out.1], List.append_assoc, List.getElem?_append_left (by exact (List.getElem?_eq_some_iff.1 hz).1)]
        exact hz
      have s2 : (P ++ (A ++ [(y1, y2)]) ++ Q)[m]? = some (y1, y2) := by
        have h1 := mid_get (P ++ A) (y1, y2) Q
        rw [show (P ++ A).length = m by rw [List.length_append, HP.out.1]; exact HP.out.2.1] at h1
        simpa using h1
      obtain ⟨z1, z2⟩ := z
      obtain ⟨c0, c1⟩ := hF.cells s1
      obtain ⟨d0, d1⟩ := hF.cells s2
      have e0 := Sx.ext_cell c0
      have e1 := Sx.ext_cell c1
      have e2 := Sx.ext_cell d0
      have e3 := Sx.ext_cell d1
      obtain ⟨c, hcd⟩ : ∃ c, c = Lib.compareBytes (K (y1, y2)) (K (z1, z2)) := ⟨_, rfl⟩
      have HK := Lib.hid (fun Y => by rw [hcd]; exact bypath_any (y1, y2) (z1, z2) (Sx.ext wr Y) : ∀ Y, Calls Tryz.prog 60 #[.agg #[.string y1, .string y2], .agg #[.string z1, .string z2]] (Sx.ext wr Y) fun e w' => e = .returned (.int .i64 c) ∧ Below (Sx.ext wr Y).heap.size (Sx.ext wr Y) w')
      have HCD := Lib.hid (show ltB (K (y1, y2)) (K (z1, z2)) = decide (c < 0) by rw [hcd]; rfl)
      have HZ := Lib.hid hz
      clear c0 c1 d0 d1 hcd hz s1 s2 hF hh
      dsimp only at e0 e1 e2 e3
      by_cases hc : c < 0
      · go_wp2_with fail
        refine Sx.wp_region_ext (X := wr) (by kernel_rfl) (by kernel_rfl) ?_
        repeat (go_big_quiet_step (first | (go_at_call 60; with_reducible exact Sx.calls_ext (HK.out _))))
        refine wpQuiet_nil ?_
        intro _ hw'
        obtain ⟨Y, hw''⟩ := hw'
        subst hw''
        have hB2 := Sx.ext_below wr Y
        clear e0 e1 e2 e3
        generalize Sx.ext wr Y = w2 at *
        have hF3 := HFB.out.1.keep hB2
        have hB3 := HFB.out.2.trans (But.of hB2)
        have HN := Lib.hid (show (∀ (k : Nat) (x : F), h ≤ a + k → A[k]? = some x → ltB (K (y1, y2)) (K x) = true) from fun k x hk hx => by
          have h1 := HA.out.le (i := h - a) (j := k) (by omega) HZ.out hx
          have h2 : ltB (K (y1, y2)) (K (z1, z2)) = true := by rw [HCD.out]; exact decide_eq_true hc
          cases h3 : ltB (K (y1, y2)) (K x) with
          | true => rfl
          | false =>
            have h4 : leB (K x) (K (y1, y2)) := h3
            have h5 := leB_tr h1 h4
            unfold leB at h5
            rw [h2] at h5
            cases h5)
        have HF3 := Lib.hid (And.intro hF3 hB3)
        clear hF3 hB3 q1 q2
        go_wp2_with fail
        refine ⟨⟨lo, h, rfl, rfl, hml, by omega, by omega, HLO.out.1, HN.out, HF3.out.1, HF3.out.2⟩, ?_⟩
        simp only [RowKit.intOf]
        omega
      · have hcn : (!decide (c < 0)) = true := by rw [decide_eq_false hc]; rfl
        go_wp2_with fail
        refine Sx.wp_region_ext (X := wr) (by kernel_rfl) (by kernel_rfl) ?_
        repeat (go_big_quiet_step (first | (go_at_call 60; with_reducible exact Sx.calls_ext (HK.out _))))
        refine wpQuiet_nil ?_
        intro _ hw'
        obtain ⟨Y, hw''⟩ := hw'
        subst hw''
        have hB2 := Sx.ext_below wr Y
        clear e0 e1 e2 e3
        generalize Sx.ext wr Y = w2 at *
        have hF3 := HFB.out.1.keep hB2
        have hB3 := HFB.out.2.trans (But.of hB2)
        have HN := Lib.hid (show (∀ (k : Nat) (x : F), a + k < h + 1 → A[k]? = some x → ltB (K (y1, y2)) (K x) = false) from fun k x hk hx => by
          have h1 := HA.out.le (i := k) (j := h - a) (by omega) hx HZ.out
          have h2 : leB (K (z1, z2)) (K (y1, y2)) := by unfold leB; rw [HCD.out]; exact decide_eq_false (by omega)
          exact leB_tr h1 h2)
        have HF3 := Lib.hid (And.intro hF3 hB3)
        clear hF3 hB3 q1 q2
        go_wp2_with fail
        go_roundw
        case rel => exact ⟨h + 1, hi, by push_cast; rfl, rfl, by omega, by omega, hhb, HN.out, HLO.out.2, HF3.out.1, HF3.out.2⟩
        case measure =>
          simp only [RowKit.intOf]
          omega
    · obtain rfl : lo = hi := by omega
      obtain ⟨t, ht⟩ : ∃ t, lo = a + t := ⟨lo - a, by omega⟩
      have HLT := Lib.hid ht
      have htA : t ≤ A.length := by have := HP.out.2.1; omega
      have HT := Lib.hid (show Srt (A.take t ++ (y1, y2) :: A.drop t) from insert_srt HA.out (fun z hz => by
        obtain ⟨k, hk⟩ := List.getElem?_of_mem hz
        have hkt : k < t := by have := (List.getElem?_eq_some_iff.1 hk).1; simp at this; omega
        rw [List.getElem?_take_of_lt hkt] at hk
        exact HLO.out.1 k z (by omega) hk) (fun z hz => by
        obtain ⟨k, hk⟩ := List.getElem?_of_mem hz
        rw [List.getElem?_drop] at hk
        exact leB_of (HLO.out.2 (t + k) z (by omega) hk)))
      have HF0 := Lib.hid (show FR wr g (P ++ (A.take A.length ++ (y1, y2) :: A.drop A.length) ++ Q) ∧ But g w wr from ⟨by simpa using HFB.out.1, HFB.out.2⟩)
      clear hF HLO HFB hlt hlh ht
      go_wp2_with fail
      go_loopw [17] (fun sk wr => ∃ k s : Nat, sk = .int .i64 (k : Int) ∧ k = a + s ∧ t ≤ s ∧ s ≤ A.length ∧ FR wr g (P ++ (A.take s ++ (y1, y2) :: A.drop s) ++ Q) ∧ But g w wr) (fun sk _ => (RowKit.intOf sk).toNat)
      case atStart => exact ⟨m, A.length, rfl, HP.out.2.1.symm, htA, Nat.le_refl _, HF0.out.1, HF0.out.2⟩
      case round =>
        obtain ⟨k, s, rfl, hks, hst, hsA, hF, hB⟩ := hrel
        clear HF0
        by_cases hs : t < s
        · obtain ⟨s, rfl⟩ : ∃ s', s = s' + 1 := ⟨s - 1, by omega⟩
          obtain ⟨z, hz⟩ : ∃ z, A[s]? = some z := ⟨_, List.getElem?_eq_getElem (by omega)⟩
          have e1 : P ++ (A.take (s + 1) ++ (y1, y2) :: A.drop (s + 1)) ++ Q = (P ++ A.take s) ++ z :: (y1, y2) :: (A.drop (s + 1) ++ Q) := by
            rw [take_snoc hz]
            simp
          have l1 : (P ++ A.take s).length = a + s := by rw [List.length_append, HP.out.1, List.length_take]; omega
          have e2 : P ++ (A.take s ++ (y1, y2) :: A.drop s) ++ Q = (P ++ A.take s) ++ (y1, y2) :: z :: (A.drop (s + 1) ++ Q) := by
            rw [drop_cons hz]
            simp
          obtain ⟨s1, s2, -⟩ := adj (P ++ A.take s) z (y1, y2) (A.drop (s + 1) ++ Q)
          have s3 := adj2 (P ++ A.take s) z (y1, y2) (A.drop (s + 1) ++ Q)
          rw [l1] at s1 s2 s3
          obtain ⟨p, hp⟩ : ∃ p, p = a + s := ⟨_, rfl⟩
          rw [← hp] at s1 s2 s3
          obtain rfl : k = p + 1 := by omega
          have hF0 : FR wr.drew g ((P ++ A.take s) ++ z :: (y1, y2) :: (A.drop (s + 1) ++ Q)) := by rw [← e1]; exact hF.same rfl
          have hB0 : But g w wr.drew := hB.trans (But.of (Below.refl _ _).drew)
          obtain ⟨z1, z2⟩ := z
          obtain ⟨c0, c1⟩ := hF0.cells s1
          obtain ⟨d0, d1⟩ := hF0.cells s2
          have zf := hF0.frz
          have hlen2 : ((P ++ A.take s) ++ (z1, z2) :: (y1, y2) :: (A.drop (s + 1) ++ Q)).length = L := by rw [← e1]; exact hlen.out (s + 1)
          have hpl : p + 1 < L := by have := HP.out.2.1; have := HP.out.2.2; omega
          have hF2 := (hF0.set (i := p + 1) (by rw [hlen2]; omega) (z1, z2)).set (i := p) (by rw [List.length_set, hlen2]; omega) (y1, y2)
          rw [s3, ← e2] at hF2
          have HN := Lib.hid (And.intro hF2 ((hB0.set (p + 1) (z1, z2)).set p (y1, y2)))
          have q1 := Lib.hid (show 0 ≤ (p : Int) + 1 ∧ (p : Int) + 1 < (L : Int) by omega)
          have t1 := Lib.hid (show ((p : Int) + 1).toNat = p + 1 by omega)
          have q2 := Lib.hid (show 0 ≤ (p : Int) ∧ (p : Int) < (L : Int) by omega)
          have t2 := Lib.hid (show ((p : Int)).toNat = p by omega)
          have hne : ¬ p = p + 1 := by omega
          have hpt : (lo : Int) < (p : Int) + 1 := by have := HLT.out; omega
          have HPS := Lib.hid hp
          clear hz e1 e2 l1 s1 s2 s3 hF0 hB0 hlen2 hF2 hF hB hp hks
          dsimp only at c0 c1 d0 d1
          go_wp2_with fail
          refine Mix.plan_region (fun _ => True) 18 (.q [0, 1, 2, 3, 4, 5, 6, 7, 8, 10, 11, 12] (.two 9 (.one 13 (.one 14 (.one 15 (.one 16 (.one 17 .done))))) 13 (.one 9 (.one 14 (.one 15 (.one 16 (.one 17 .done))))))) (by kernel_rfl) (fun _ _ d _ _ h => by cases d <;> exact h) (by kernel_rfl) trivial ?_
          refine Mix.plan_q (by simp only [Mix.pick, Mix.nth]; rfl) ?_
          repeat (go_big_quiet_step (fail))
          refine wpQuiet_nil ?_
          generalize wr.drew = w0 at *
          refine Mix.plan_two (by simp only [Mix.nth]; rfl) (by simp only [Mix.nth]; rfl) (fun K hK => ?_) (fun K hK => ?_)
          · go_simp
            refine hK _ _ trivial ?_
            clear hK K
            refine Mix.plan_one (by simp only [Mix.nth]; rfl) (fun K hK => ?_)
            go_simp
            refine hK _ _ trivial ?_
            clear hK K
            refine Mix.plan_one (by simp only [Mix.nth]; rfl) (fun K hK => ?_)
            go_simp
            first
              | rw [if_pos q1.out, t1.out]
              | rw [if_pos q1.out]
              | rw [if_pos (by omega)]
              | skip
            refine hK _ _ trivial ?_
            clear hK K
            refine Mix.plan_one (by simp only [Mix.nth]; rfl) (fun K hK => ?_)
            go_simp
            refine hK _ _ trivial ?_
            clear hK K
            refine Mix.plan_one (by simp only [Mix.nth]; rfl) (fun K hK => ?_)
            go_simp
            first
              | rw [if_pos q2.out, t2.out]
              | rw [if_pos q2.out]
              | rw [if_pos (by omega)]
              | skip
            refine hK _ _ trivial ?_
            clear hK K
            refine Mix.plan_one (by simp only [Mix.nth]; rfl) (fun K hK => ?_)
            go_simp
            refine hK _ _ trivial ?_
            clear hK K
            refine Mix.plan_done ?_
            simp only [List.drop_succ_cons, List.drop_nil]
            go_wp2_with fail
            go_roundw
            case rel => exact ⟨p, s, rfl, HPS.out, by omega, by omega, by simpa [setF] using HN.out.1, HN.out.2⟩
            case measure =>
              simp only [RowKit.intOf]
              omega
          · go_simp
            refine hK _ _ trivial ?_
            clear hK K
            refine Mix.plan_one (by simp only [Mix.nth]; rfl) (fun K hK => ?_)
            go_simp
            refine hK _ _ trivial ?_
            clear hK K
            refine Mix.plan_one (by simp only [Mix.nth]; rfl) (fun K hK => ?_)
            go_simp
            first
              | rw [if_pos q1.out, t1.out]
              | rw [if_pos q1.out]
              | rw [if_pos (by omega)]
              | skip
            refine hK _ _ trivial ?_
            clear hK K
            refine Mix.plan_one (by simp only [Mix.nth]; rfl) (fun K hK => ?_)
            go_simp
            refine hK _ _ trivial ?_
            clear hK K
            refine Mix.plan_one (by simp only [Mix.nth]; rfl) (fun K hK => ?_)
            go_simp
            first
              | rw [if_pos q2.out, t2.out]
              | rw [if_pos q2.out]
              | rw [if_pos (by omega)]
              | skip
            refine hK _ _ trivial ?_
            clear hK K
            refine Mix.plan_one (by simp only [Mix.nth]; rfl) (fun K hK => ?_)
            go_simp
            refine hK _ _ trivial ?_
            clear hK K
            refine Mix.plan_done ?_
            simp only [List.drop_succ_cons, List.drop_nil]
            go_wp2_with fail
            go_roundw
            case rel => exact ⟨p, s, rfl, HPS.out, by omega, by omega, by simpa [setF] using HN.out.1, HN.out.2⟩
            case measure =>
              simp only [RowKit.intOf]
              omega
        · obtain rfl : s = t := by omega
          have HE := Lib.hid (And.intro hF hB)
          have hpt2 : ¬ (lo : Int) < (k : Int) := by have := HLT.out; omega
          clear hF hB
          go_wp2_with fail
          go_end0
          exact ⟨rfl, _, HE.out.1, (insert_perm A (y1, y2) s).trans (List.perm_append_singleton _ _).symm, HT.out, HE.out.2⟩
end Tr
end Go.Proofs.YtbefgplaaghlbaaGreatDoor
