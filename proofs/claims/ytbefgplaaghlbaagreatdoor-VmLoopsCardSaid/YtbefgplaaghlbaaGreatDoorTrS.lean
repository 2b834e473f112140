/-
  Walks: the parts of stable sorting over files: byPath, swapRange, rotate, insertionSort. (printed by gen_TrS.py)
-/
import Derived.Test.YtbefgplaaghlbaaGreatDoorTrF
import Derived.Test.YtbefgplaaghlbaaGreatDoorShelf
import Derived.Test.YtbefgplaaghlbaaGreatDoorPlan
import Derived.Test.YtbefgplaaghlbaaGreatDoorSxExt
namespace Go.Proofs.YtbefgplaaghlbaaGreatDoor
open Go.RowKit Go.Lib
namespace Tr

set_option maxHeartbeats 1000000 in
theorem bypath_any (a b : F) (w : World) : Calls Tryz.prog 60 #[.agg #[.string a.1, .string a.2], .agg #[.string b.1, .string b.2]] w fun e w' => e = .returned (.int .i64 (Lib.compareBytes (K a) (K b))) ∧ Below w.heap.size w w' := by
  have hA : Below w.heap.size w ((w.alloc (.cells #[.string a.1, .string a.2] 34)).alloc (.cells #[.string b.1, .string b.2] 34)) := ((Below.refl _ _).alloc (Nat.le_refl _) _).alloc (by simp) _
  go_enter Tryz.func60, Tryz.ntmps60
  go_wp2_with (first
    | (go_at_call 82; refine (Tryz.strings_Compare _ _ _).mono ?_; rintro e w1 ⟨he, hw⟩; subst he; subst w1))
  go_ret
  exact ⟨rfl, hA⟩
set_option maxHeartbeats 2000000 in
set_option maxRecDepth 100000 in
theorem swapr_any {P A M B Q : List F} {n a b : Nat} (hA : A.length = n) (hB : B.length = n) (hP : P.length = a) (hb : b = a + n + M.length) (L cap : Nat) (hL : (P ++ A ++ M ++ B ++ Q).length = L) (hL2 : L ≤ 1000) (g : Nat) (cf : Value) (w : World) (hF : FR w g (P ++ A ++ M ++ B ++ Q)) :
    Calls Tryz.prog 140 #[.slice (some ⟨g, 0, none⟩) L cap, .int .i64 a, .int .i64 b, .int .i64 n, cf] w fun e w' => e = .returned (.tuple #[]) ∧ FR w' g (P ++ B ++ M ++ A ++ Q) ∧ But g w w' := by
  have hbL : b + n ≤ L := by
    simp only [List.length_append] at hL
    omega
  have HL := Lib.hid (fun k : Nat => show (swL P A M B Q k).length = L by
    unfold swL
    simp only [List.length_append, List.length_take, List.length_drop] at hL ⊢
    omega)
  have haL : a + n ≤ b := by omega
  have HF := Lib.hid (show FR w g (swL P A M B Q 0) by rw [swL_zero]; exact hF)
  have HH := Lib.hid (And.intro hA (And.intro hB (And.intro hP hb)))
  clear hF hA hB hP hb hL
  go_enter Tryz.func140, Tryz.ntmps140
  go_wp2_with fail
  go_loopw [10] (fun i wr => ∃ k : Nat, k ≤ n ∧ i = .int .i64 (k : Int) ∧ FR wr g (swL P A M B Q k) ∧ But g w wr) (fun i _ => n - (RowKit.intOf i).toNat)
  case atStart => exact ⟨0, Nat.zero_le _, rfl, HF.out, But.refl g w⟩
  case round =>
    obtain ⟨k, hk, rfl, hF, hB⟩ := hrel
    clear HF
    by_cases hlt : k < n
    · obtain ⟨x, hx⟩ : ∃ x, A[k]? = some x := ⟨_, List.getElem?_eq_getElem (by rw [HH.out.1]; exact hlt)⟩
      obtain ⟨y, hy⟩ : ∃ y, B[k]? = some y := ⟨_, List.getElem?_eq_getElem (by rw [HH.out.2.1]; exact hlt)⟩
      obtain ⟨s1, s2, s3⟩ := swap_step HH.out.1 HH.out.2.1 HH.out.2.2.1 HH.out.2.2.2 hx hy (Q := Q)
      have hF0 : FR wr.drew g (swL P A M B Q k) := hF.same rfl
      have hB0 : But g w wr.drew := hB.trans (But.of (Below.refl _ _).drew)
      obtain ⟨c0, c1⟩ := hF0.cells s1
      obtain ⟨d0, d1⟩ := hF0.cells s2
      have zf := hF0.frz
      have hF2 := (hF0.set (i := a + k) (by rw [HL.out]; omega) y).set (i := b + k) (by rw [List.length_set, HL.out]; omega) x
      rw [s3] at hF2
      have HN := Lib.hid (And.intro hF2 ((hB0.set (a + k) y).set (b + k) x))
      have zf2 := (hF0.set (i := a + k) (by rw [HL.out]; omega) y)
      have i1 : a + k < L := by omega
      have i2 : b + k < L := by omega
      have hne : ¬ a + k = b + k := by omega
      have q1 := Lib.hid (show 0 ≤ (a : Int) + (k : Int) ∧ (a : Int) + (k : Int) < (L : Int) by omega)
      have q2 := Lib.hid (show 0 ≤ (b : Int) + (k : Int) ∧ (b : Int) + (k : Int) < (L : Int) by omega)
      have t1 := Lib.hid (show ((a : Int) + (k : Int)).toNat = a + k by omega)
      have t2 := Lib.hid (show ((b : Int) + (k : Int)).toNat = b + k by omega)
      obtain ⟨x1, x2⟩ := x
      obtain ⟨y1, y2⟩ := y
      clear hx hy s1 s2 s3 hF hF0 hF2 hB hB0 zf2
      dsimp only at c0 c1 d0 d1
      go_wp2_with fail
      refine Mix.plan_region (fun _ => True) 24 (.q [0, 1, 2, 3, 4, 5, 6, 7, 8, 9, 10, 11, 12, 14, 15, 16, 17, 18] (.two 13 (.one 19 (.one 20 (.one 21 (.one 22 (.one 23 .done))))) 19 (.one 13 (.one 20 (.one 21 (.one 22 (.one 23 .done))))))) (by kernel_rfl) (fun _ _ d _ _ h => by cases d <;> exact h) (by kernel_rfl) trivial ?_
      refine Mix.plan_q (by simp only [Mix.pick, Mix.nth]; rfl) ?_
      repeat (go_big_quiet_step (fail))
      refine wpQuiet_nil ?_
      generalize wr.drew = w0 at *
      refine Mix.plan_two (by simp only [Mix.nth]; rfl) (by simp only [Mix.nth]; rfl) (fun K hK => ?_) (fun K hK => ?_)
      · go_simp
        refine hK _ _ trivial ?_
        clear hK K
        refine Mix.plan_one (by simp only [Mix.nth]; rfl) (fun K hK => ?_)
        go_simp
        refine hK _ _ trivial ?_
        clear hK K
        refine Mix.plan_one (by simp only [Mix.nth]; rfl) (fun K hK => ?_)
        go_simp
        first
          | rw [if_pos q1.out, t1.out]
          | rw [if_pos q1.out]
          | rw [if_pos (by omega)]
          | skip
        refine hK _ _ trivial ?_
        clear hK K
        refine Mix.plan_one (by simp only [Mix.nth]; rfl) (fun K hK => ?_)
        go_simp
        refine hK _ _ trivial ?_
        clear hK K
        refine Mix.plan_one (by simp only [Mix.nth]; rfl) (fun K hK => ?_)
        go_simp
        first
          | rw [if_pos q2.out, t2.out]
          | rw [if_pos q2.out]
          | rw [if_pos (by omega)]
          | skip
        refine hK _ _ trivial ?_
        clear hK K
        refine Mix.plan_one (by simp only [Mix.nth]; rfl) (fun K hK => ?_)
        go_simp
        refine hK _ _ trivial ?_
        clear hK K
        refine Mix.plan_done ?_
        simp only [List.drop_succ_cons, List.drop_nil]
        go_wp2_with fail
        refine ⟨⟨k + 1, hlt, by push_cast; rfl, HN.out.1, HN.out.2⟩, ?_⟩
        simp only [RowKit.intOf]
        omega
      · go_simp
        refine hK _ _ trivial ?_
        clear hK K
        refine Mix.plan_one (by simp only [Mix.nth]; rfl) (fun K hK => ?_)
        go_simp
        refine hK _ _ trivial ?_
        clear hK K
        refine Mix.plan_one (by simp only [Mix.nth]; rfl) (fun K hK => ?_)
        go_simp
        first
          | rw [if_pos q1.out, t1.out]
          | rw [if_pos q1.out]
          | rw [if_pos (by omega)]
          | skip
        refine hK _ _ trivial ?_
        clear hK K
        refine Mix.plan_one (by simp only [Mix.nth]; rfl) (fun K hK => ?_)
        go_simp
        refine hK _ _ trivial ?_
        clear hK K
        refine Mix.plan_one (by simp only [Mix.nth]; rfl) (fun K hK => ?_)
        go_simp
        first
          | rw [if_pos q2.out, t2.out]
          | rw [if_pos q2.out]
          | rw [if_pos (by omega)]
          | skip
        refine hK _ _ trivial ?_
        clear hK K
        refine Mix.plan_one (by simp only [Mix.nth]; rfl) (fun K hK => ?_)
        go_simp
        refine hK _ _ trivial ?_
        clear hK K
        refine Mix.plan_done ?_
        simp only [List.drop_succ_cons, List.drop_nil]
        go_wp2_with fail
        refine ⟨⟨k + 1, hlt, by push_cast; rfl, HN.out.1, HN.out.2⟩, ?_⟩
        simp only [RowKit.intOf]
        omega
    · obtain rfl : k = n := by omega
      rw [swL_all HH.out.1 HH.out.2.1] at hF
      go_wp2_with fail
      go_end0
      exact ⟨rfl, hF, hB⟩
set_option maxHeartbeats 2000000 in
set_option maxRecDepth 100000 in
theorem rotate_any {P X Y Q : List F} {a m b : Nat} (hP : P.length = a) (hX : a + X.length = m) (hY : m + Y.length = b) (hx0 : 0 < X.length) (hy0 : 0 < Y.length) (L cap : Nat) (hL : (P ++ X ++ Y ++ Q).length = L) (hL2 : L ≤ 1000) (g : Nat) (cf : Value) (w : World) (hF : FR w g (P ++ X ++ Y ++ Q)) :
    Calls Tryz.prog 128 #[.slice (some ⟨g, 0, none⟩) L cap, .int .i64 a, .int .i64 m, .int .i64 b, cf] w fun e w' => e = .returned (.tuple #[]) ∧ FR w' g (P ++ Y ++ X ++ Q) ∧ But g w w' := by
  have HF := Lib.hid hF
  have HH := Lib.hid (And.intro hP (And.intro hX (And.intro hY hL)))
  have hXl : X.length = m - a := by omega
  have hYl : Y.length = b - m := by omega
  have ham : a < m := by omega
  have hmb : m < b := by omega
  have hbL : b ≤ L := by
    simp only [List.length_append] at hL
    omega
  have HLX := Lib.hid (And.intro hXl hYl)
  clear hF hP hX hY hL hXl hYl hx0 hy0
  go_enter Tryz.func128, Tryz.ntmps128
  go_wp2_with fail
  go_loopw [10, 11] (fun si sj wr => ∃ (i j : Nat) (P' X' Y' Q' : List F), si = .int .i64 (i : Int) ∧ sj = .int .i64 (j : Int) ∧ 0 < i ∧ 0 < j ∧ i ≤ m ∧ m + j ≤ L ∧ P'.length + i = m ∧ X'.length = i ∧ Y'.length = j ∧ P' ++ Y' ++ X' ++ Q' = P ++ Y ++ X ++ Q ∧ (P' ++ X' ++ Y' ++ Q').length = L ∧ FR wr g (P' ++ X' ++ Y' ++ Q') ∧ But g w wr) (fun si sj _ => (RowKit.intOf si).toNat + (RowKit.intOf sj).toNat)
  case atStart =>
    refine ⟨m - a, b - m, P, X, Y, Q, ?_, ?_, by omega, by omega, by omega, by omega, ?_, HLX.out.1, HLX.out.2, rfl, HH.out.2.2.2, HF.out, But.refl g w⟩
    · congr 1
      omega
    · congr 1
      omega
    · rw [HH.out.1]
      omega
  case round =>
    obtain ⟨i, j, P', X', Y', Q', rfl, rfl, hi0, hj0, him, hjL, hP', hX', hY', hT, hLn, hF, hB⟩ := hrel
    clear HF
    by_cases hij : i = j
    · subst hij
      have hs := swapr_any (P := P') (A := X') (M := []) (B := Y') (Q := Q') (n := i) (a := m - i) (b := m) hX' hY' (by omega) (by simp; omega) L cap (by simpa using hLn) hL2 g cf wr (by simpa using hF)
      have q1 : ((m : Int) - (i : Int)) = ((m - i : Nat) : Int) := by omega
      rw [← q1] at hs
      have HT := Lib.hid hT
      have HB := Lib.hid hB
      clear hF hB hT hP' hX' hY' hLn q1
      go_wp2_with (first
        | (go_at_call 140; refine hs.mono ?_; rintro e w2 ⟨he, hF2, hB2⟩; subst he))
      go_end0
      refine ⟨rfl, ?_, HB.out.trans hB2⟩
      rw [← HT.out]
      simpa using hF2
    · have hne : ((i : Int) == (j : Int)) = false := by rw [beq_eq_false_iff_ne]; omega
      by_cases hlt : j < i
      · obtain ⟨X1, X2, hXe, hX1, hX2⟩ : ∃ X1 X2, X' = X1 ++ X2 ∧ X1.length = j ∧ X2.length = i - j := ⟨X'.take j, X'.drop j, (List.take_append_drop j X').symm, by simp; omega, by simp; omega⟩
        subst hXe
        have hs := swapr_any (P := P') (A := X1) (M := X2) (B := Y') (Q := Q') (n := j) (a := m - i) (b := m) hX1 hY' (by omega) (by omega) L cap (by rw [← hLn]; simp) hL2 g cf wr (by rw [show P' ++ X1 ++ X2 ++ Y' ++ Q' = P' ++ (X1 ++ X2) ++ Y' ++ Q' by simp]; exact hF)
        have q1 : ((m : Int) - (i : Int)) = ((m - i : Nat) : Int) := by omega
        rw [← q1] at hs
        have HN := Lib.hid (show ((P' ++ Y') ++ X1 ++ X2 ++ Q' = P ++ Y ++ X ++ Q) ∧ ((P' ++ Y') ++ X2 ++ X1 ++ Q').length = L ∧ (P' ++ Y').length + (i - j) = m from ⟨by rw [← hT]; simp, by rw [← hLn]; simp; omega, by rw [List.length_append]; omega⟩)
        have HX := Lib.hid (And.intro hX1 hX2)
        have HB := Lib.hid hB
        clear hF hB hT hP' hX' hY' hLn q1 hX1 hX2
        go_wp2_with (first
          | (go_at_call 140; refine hs.mono ?_; rintro e w2 ⟨he, hF2, hB2⟩; subst he; have HF2 := Lib.hid hF2; clear hF2))
        refine ⟨⟨i - j, j, P' ++ Y', X2, X1, Q', by congr 1; omega, rfl, by omega, hj0, by omega, hjL, HN.out.2.2, HX.out.2, HX.out.1, HN.out.1, HN.out.2.1, ?_, HB.out.trans hB2⟩, ?_⟩
        · have := HF2.out
          rw [show P' ++ Y' ++ X2 ++ X1 ++ Q' = (P' ++ Y') ++ X2 ++ X1 ++ Q' by simp] at this
          exact this
        · simp only [RowKit.intOf]
          omega
      · obtain ⟨Y1, Y2, hYe, hY1, hY2⟩ : ∃ Y1 Y2, Y' = Y1 ++ Y2 ∧ Y1.length = j - i ∧ Y2.length = i := ⟨Y'.take (j - i), Y'.drop (j - i), (List.take_append_drop (j - i) Y').symm, by simp; omega, by simp; omega⟩
        subst hYe
        have hs := swapr_any (P := P') (A := X') (M := Y1) (B := Y2) (Q := Q') (n := i) (a := m - i) (b := m + j - i) hX' hY2 (by omega) (by omega) L cap (by rw [← hLn]; simp) hL2 g cf wr (by rw [show P' ++ X' ++ Y1 ++ Y2 ++ Q' = P' ++ X' ++ (Y1 ++ Y2) ++ Q' by simp]; exact hF)
        have q1 : ((m : Int) - (i : Int)) = ((m - i : Nat) : Int) := by omega
        have q2 : ((m : Int) + (j : Int) - (i : Int)) = ((m + j - i : Nat) : Int) := by omega
        rw [← q1, ← q2] at hs
        have HN := Lib.hid (show (P' ++ Y1 ++ Y2 ++ (X' ++ Q') = P ++ Y ++ X ++ Q) ∧ (P' ++ Y2 ++ Y1 ++ (X' ++ Q')).length = L ∧ P'.length + i = m from ⟨by rw [← hT]; simp, by rw [← hLn]; simp; omega, hP'⟩)
        have HX := Lib.hid (And.intro hY1 hY2)
        have HB := Lib.hid hB
        clear hF hB hT hP' hX' hY' hLn q1 q2 hY1 hY2
        go_wp2_with (first
          | (go_at_call 140; refine hs.mono ?_; rintro e w2 ⟨he, hF2, hB2⟩; subst he; have HF2 := Lib.hid hF2; clear hF2))
        refine ⟨⟨i, j - i, P', Y2, Y1, X' ++ Q', rfl, by congr 1; omega, hi0, by omega, him, by omega, HN.out.2.2, HX.out.2, HX.out.1, HN.out.1, HN.out.2.1, ?_, HB.out.trans hB2⟩, ?_⟩
        · have := HF2.out
          rw [show P' ++ Y2 ++ Y1 ++ X' ++ Q' = P' ++ Y2 ++ Y1 ++ (X' ++ Q') by simp] at this
          exact this
        · simp only [RowKit.intOf]
          omega
theorem adj2 (P : List F) (x y : F) (S : List F) : ((P ++ x :: y :: S).set (P.length + 1) x).set P.length y = P ++ y :: x :: S := by
  rw [List.set_comm _ _ (by omega)]
  exact (adj P x y S).2.2
theorem cmp_ltB (x y : F) : decide (Lib.compareBytes (K x) (K y) < 0) = ltB (K x) (K y) := rfl
set_option maxHeartbeats 4000000 in
set_option maxRecDepth 100000 in
theorem insertion_any {P S Q : List F} {a b : Nat} (hP : P.length = a) (hb : a + S.length = b) (L cap : Nat) (hL : (P ++ S ++ Q).length = L) (hL2 : L ≤ 1000) (g : Nat) (w : World) (hF : FR w g (P ++ S ++ Q)) :
    Calls Tryz.prog 109 #[.slice (some ⟨g, 0, none⟩) L cap, .int .i64 a, .int .i64 b, .func (.func 60) #[] #[]] w fun e w' => e = .returned (.tuple #[]) ∧ ∃ S', FR w' g (P ++ S' ++ Q) ∧ S'.Perm S ∧ Srt S' ∧ But g w w' := by
  have hbL : b ≤ L := by
    simp only [List.length_append] at hL
    omega
  cases S with
  | nil =>
    obtain rfl : a = b := by simpa using hb
    have HF := Lib.hid hF
    clear hF hb hP hL
    go_enter Tryz.func109, Tryz.ntmps109
    go_wp2_with fail
    go_loopw [8] (fun si wr => si = .int .i64 ((a : Int) + 1) ∧ wr = w) (fun si _ => 0)
    case atStart => exact ⟨rfl, rfl⟩
    case round =>
      obtain ⟨rfl, rfl⟩ := hrel
      have i1 : ¬ (a : Int) + 1 < a := by omega
      go_wp2_with fail
      go_end0
      exact ⟨rfl, [], (by simpa using HF.out), (by simp), List.Pairwise.nil, But.refl g _⟩
  | cons s0 S =>
    have HF := Lib.hid hF
    have HP := Lib.hid (And.intro hP (And.intro hb hL))
    have hab : a < b := by rw [← hb]; simp
    clear hF hb hP hL
    go_enter Tryz.func109, Tryz.ntmps109
    go_wp2_with fail
    go_loopw [8] (fun si wr => ∃ (i : Nat) (S1 S2 : List F), si = .int .i64 (i : Int) ∧ a + S1.length = i ∧ 0 < S1.length ∧ i ≤ b ∧ (S1 ++ S2).Perm (s0 :: S) ∧ Srt S1 ∧ FR wr g (P ++ (S1 ++ S2) ++ Q) ∧ But g w wr) (fun si _ => b - (RowKit.intOf si).toNat)
    case atStart =>
      exact ⟨a + 1, [s0], S, by push_cast; rfl, rfl, by simp, hab, List.Perm.refl _, List.pairwise_singleton _ _, HF.out, But.refl g w⟩
    case round =>
      obtain ⟨i, S1, S2, rfl, hi, hS0, hib, hpm, hsr, hF, hB⟩ := hrel
      clear HF
      by_cases hlt : i < b
      · obtain ⟨x, S2', rfl⟩ : ∃ x S2', S2 = x :: S2' := by
          cases S2 with
          | nil =>
            have h1 := hpm.length_eq
            have h2 := HP.out.2.1
            simp at h1 h2
            omega
          | cons x S2' => exact ⟨x, S2', rfl⟩
        have HS := Lib.hid (And.intro hpm (And.intro hsr (And.intro hi hS0)))
        have HF0 := Lib.hid (And.intro hF hB)
        clear hpm hsr hF hB hi hS0
        go_wp2_with fail
        go_loopw [9] (fun sj wr => ∃ (j : Nat) (T1 T2 : List F), sj = .int .i64 (j : Int) ∧ a + T1.length = j ∧ S1 = T1 ++ T2 ∧ (∀ t ∈ T2, Le x t) ∧ FR wr g ((P ++ T1) ++ x :: (T2 ++ S2' ++ Q)) ∧ But g w wr) (fun sj _ => (RowKit.intOf sj).toNat)
        case atStart =>
          refine ⟨i, S1, [], rfl, HS.out.2.2.1, by simp, fun t ht => (by cases ht), ?_, HF0.out.2⟩
          have := HF0.out.1
          simpa using this
        case round =>
          obtain ⟨j, T1, T2, rfl, hj, hT, hle, hF, hB⟩ := hrel
          clear HF0
          have HT := Lib.hid (And.intro hT hle)
          have HFB := Lib.hid (And.intro hF hB)
          have hjL : j < L := by
            have h1 := HP.out.2.1
            have h2 := HS.out.1.length_eq
            have h3 := HP.out.2.2
            simp [hT] at h1 h2 h3
            omega
          clear hT hle hF hB
          rcases List.eq_nil_or_concat T1 with rfl | ⟨T, z, hTz⟩
          · obtain rfl : j = a := by simpa using hj.symm
            have i1 : ¬ (j : Int) > (j : Int) := by omega
            have HD := Lib.hid (show Srt (x :: T2) by
              refine List.pairwise_cons.2 ⟨HT.out.2, ?_⟩
              have := HS.out.2.1
              rw [HT.out.1] at this
              simpa using this)
            go_wp2_with fail
            refine Sx.wp_region_ext (X := wr) (by kernel_rfl) (by kernel_rfl) ?_
            repeat (go_big_quiet_step (fail))
            refine wpQuiet_nil ?_
            intro _ hw'
            obtain ⟨Y, hw''⟩ := hw'
            subst hw''
            have hB2 := Sx.ext_below wr Y
            generalize Sx.ext wr Y = w2 at *
            go_wp2_with fail
            have hB3 := HFB.out.2.trans (But.of hB2)
            have hF3 := HFB.out.1.keep hB2
            refine ⟨⟨i + 1, x :: T2, S2', by push_cast; rfl, ?_, by simp, hlt, ?_, HD.out, ?_, hB3⟩, ?_⟩
            · have h1 := HS.out.2.2.1
              rw [HT.out.1] at h1
              simp at h1 ⊢
              omega
            · have h1 := HS.out.1
              rw [HT.out.1] at h1
              exact (List.perm_middle.symm.trans (by simpa using h1) : (x :: T2 ++ S2').Perm (s0 :: S))
            · simpa using hF3
            · simp only [RowKit.intOf]
              omega
          · rw [List.concat_eq_append] at hTz
            subst hTz
            obtain ⟨p, hp⟩ : ∃ p, p = a + T.length := ⟨_, rfl⟩
            obtain rfl : j = p + 1 := by simp at hj; omega
            have hPT : (P ++ T).length = p := by rw [List.length_append, HP.out.1]; omega
            have hF1 : FR wr g ((P ++ T) ++ z :: x :: (T2 ++ S2' ++ Q)) := by
              have := HFB.out.1
              simpa using this
            obtain ⟨s1, s2, -⟩ := adj (P ++ T) z x (T2 ++ S2' ++ Q)
            have s3 := adj2 (P ++ T) z x (T2 ++ S2' ++ Q)
            rw [hPT] at s1 s2 s3
            obtain ⟨c0, c1⟩ := hF1.cells s1
            obtain ⟨d0, d1⟩ := hF1.cells s2
            have e0 := Sx.ext_cell c0
            have e1 := Sx.ext_cell c1
            have e2 := Sx.ext_cell d0
            have e3 := Sx.ext_cell d1
            have HF1 := Lib.hid hF1
            have HS12 := Lib.hid (And.intro s1 (And.intro s2 s3))
            have HPP := Lib.hid (And.intro hPT hp)
            have i1 : (a : Int) < (p : Int) + 1 := by omega
            obtain ⟨c, hcd⟩ : ∃ c, c = Lib.compareBytes (K x) (K z) := ⟨_, rfl⟩
            have HK := Lib.hid (fun Y => by rw [hcd]; exact bypath_any x z (Sx.ext wr Y) : ∀ Y, Calls Tryz.prog 60 #[.agg #[.string x.1, .string x.2], .agg #[.string z.1, .string z.2]] (Sx.ext wr Y) fun e w' => e = .returned (.int .i64 c) ∧ Below (Sx.ext wr Y).heap.size (Sx.ext wr Y) w')
            have HCD := Lib.hid (show ltB (K x) (K z) = decide (c < 0) by rw [hcd]; rfl)
            clear c0 c1 d0 d1 hF1 s1 s2 s3 hPT hp hcd hj
            obtain ⟨x1, x2⟩ := x
            obtain ⟨z1, z2⟩ := z
            dsimp only at e0 e1 e2 e3
            by_cases hc : c < 0
            · go_wp2_with fail
              have hk := HK.out
              refine Sx.wp_region_ext (X := wr) (by kernel_rfl) (by kernel_rfl) ?_
              repeat (go_big_quiet_step (first | (go_at_call 60; with_reducible exact Sx.calls_ext (hk _))))
              refine wpQuiet_nil ?_
              intro _ hw'
              obtain ⟨Y, hw''⟩ := hw'
              subst hw''
              have hB2 := Sx.ext_below wr Y
              clear hk e0 e1 e2 e3
              generalize Sx.ext wr Y = w2 at *
              have hF2 := (HF1.out.keep hB2).same (w' := w2.drew) rfl
              have hB3 : But g w w2.drew := HFB.out.2.trans (But.of hB2.drew)
              obtain ⟨c0, c1⟩ := hF2.cells HS12.out.1
              obtain ⟨d0, d1⟩ := hF2.cells HS12.out.2.1
              have zf := hF2.frz
              have hl2 := HFB.out.1
              have hlen : ((P ++ T) ++ (z1, z2) :: (x1, x2) :: (T2 ++ S2' ++ Q)).length = L := by
                have h1 := HP.out.2.2
                have h2 := HP.out.2.1
                have h3 := HS.out.1.length_eq
                rw [HT.out.1] at h3
                simp at h1 h3 ⊢
                omega
              have hF3 := (hF2.set (i := p + 1) (by rw [hlen]; omega) (z1, z2)).set (i := p) (by rw [List.length_set, hlen]; omega) (x1, x2)
              rw [HS12.out.2.2] at hF3
              have HN := Lib.hid (And.intro hF3 ((hB3.set (p + 1) (z1, z2)).set p (x1, x2)))
              have q1 := Lib.hid (show 0 ≤ (p : Int) + 1 ∧ (p : Int) + 1 < (L : Int) by omega)
              have t1 := Lib.hid (show ((p : Int) + 1).toNat = p + 1 by omega)
              have q2 := Lib.hid (show 0 ≤ (p : Int) ∧ (p : Int) < (L : Int) by omega)
              have t2 := Lib.hid (show ((p : Int)).toNat = p by omega)
              have hne : ¬ p = p + 1 := by omega
              dsimp only at c0 c1 d0 d1
              clear hF2 hF3 hB3 hB2 hl2 hlen
              go_wp2_with fail
              refine Mix.plan_region (fun _ => True) 18 (.q [0, 1, 2, 3, 4, 5, 6, 7, 8, 10, 11, 12] (.two 9 (.one 13 (.one 14 (.one 15 (.one 16 (.one 17 .done))))) 13 (.one 9 (.one 14 (.one 15 (.one 16 (.one 17 .done))))))) (by kernel_rfl) (fun _ _ d _ _ h => by cases d <;> exact h) (by kernel_rfl) trivial ?_
              refine Mix.plan_q (by simp only [Mix.pick, Mix.nth]; rfl) ?_
              repeat (go_big_quiet_step (fail))
              refine wpQuiet_nil ?_
              generalize w2.drew = w0 at *
              refine Mix.plan_two (by simp only [Mix.nth]; rfl) (by simp only [Mix.nth]; rfl) (fun K hK => ?_) (fun K hK => ?_)
              · go_simp
                refine hK _ _ trivial ?_
                clear hK K
                refine Mix.plan_one (by simp only [Mix.nth]; rfl) (fun K hK => ?_)
                go_simp
                refine hK _ _ trivial ?_
                clear hK K
                refine Mix.plan_one (by simp only [Mix.nth]; rfl) (fun K hK => ?_)
                go_simp
                first
                  | rw [if_pos q1.out, t1.out]
                  | rw [if_pos q1.out]
                  | rw [if_pos (by omega)]
                  | skip
                refine hK _ _ trivial ?_
                clear hK K
                refine Mix.plan_one (by simp only [Mix.nth]; rfl) (fun K hK => ?_)
                go_simp
                refine hK _ _ trivial ?_
                clear hK K
                refine Mix.plan_one (by simp only [Mix.nth]; rfl) (fun K hK => ?_)
                go_simp
                first
                  | rw [if_pos q2.out, t2.out]
                  | rw [if_pos q2.out]
                  | rw [if_pos (by omega)]
                  | skip
                refine hK _ _ trivial ?_
                clear hK K
                refine Mix.plan_one (by simp only [Mix.nth]; rfl) (fun K hK => ?_)
                go_simp
                refine hK _ _ trivial ?_
                clear hK K
                refine Mix.plan_done ?_
                simp only [List.drop_succ_cons, List.drop_nil]
                go_wp2_with fail
                refine ⟨⟨p, T, (z1, z2) :: T2, rfl, HPP.out.2.symm, ?_, ?_, ?_, HN.out.2⟩, ?_⟩
                · rw [HT.out.1]
                  simp
                · intro t ht
                  rcases List.mem_cons.1 ht with rfl | ht
                  · exact leB_of (by rw [HCD.out]; exact decide_eq_true hc)
                  · exact HT.out.2 t ht
                · simpa [setF] using HN.out.1
                · simp only [RowKit.intOf]
                  omega
              · go_simp
                refine hK _ _ trivial ?_
                clear hK K
                refine Mix.plan_one (by simp only [Mix.nth]; rfl) (fun K hK => ?_)
                go_simp
                refine hK _ _ trivial ?_
                clear hK K
                refine Mix.plan_one (by simp only [Mix.nth]; rfl) (fun K hK => ?_)
                go_simp
                first
                  | rw [if_pos q1.out, t1.out]
                  | rw [if_pos q1.out]
                  | rw [if_pos (by omega)]
                  | skip
                refine hK _ _ trivial ?_
                clear hK K
                refine Mix.plan_one (by simp only [Mix.nth]; rfl) (fun K hK => ?_)
                go_simp
                refine hK _ _ trivial ?_
                clear hK K
                refine Mix.plan_one (by simp only [Mix.nth]; rfl) (fun K hK => ?_)
                go_simp
                first
                  | rw [if_pos q2.out, t2.out]
                  | rw [if_pos q2.out]
                  | rw [if_pos (by omega)]
                  | skip
                refine hK _ _ trivial ?_
                clear hK K
                refine Mix.plan_one (by simp only [Mix.nth]; rfl) (fun K hK => ?_)
                go_simp
                refine hK _ _ trivial ?_
                clear hK K
                refine Mix.plan_done ?_
                simp only [List.drop_succ_cons, List.drop_nil]
                go_wp2_with fail
                refine ⟨⟨p, T, (z1, z2) :: T2, rfl, HPP.out.2.symm, ?_, ?_, ?_, HN.out.2⟩, ?_⟩
                · rw [HT.out.1]
                  simp
                · intro t ht
                  rcases List.mem_cons.1 ht with rfl | ht
                  · exact leB_of (by rw [HCD.out]; exact decide_eq_true hc)
                  · exact HT.out.2 t ht
                · simpa [setF] using HN.out.1
                · simp only [RowKit.intOf]
                  omega
            · go_wp2_with fail
              have hk := HK.out
              refine Sx.wp_region_ext (X := wr) (by kernel_rfl) (by kernel_rfl) ?_
              repeat (go_big_quiet_step (first | (go_at_call 60; with_reducible exact Sx.calls_ext (hk _))))
              refine wpQuiet_nil ?_
              intro _ hw'
              obtain ⟨Y, hw''⟩ := hw'
              subst hw''
              have hB2 := Sx.ext_below wr Y
              clear hk e0 e1 e2 e3
              generalize Sx.ext wr Y = w2 at *
              have hB3 := HFB.out.2.trans (But.of hB2)
              have hF3 := HF1.out.keep hB2
              go_wp2_with fail
              have hzx : Le (z1, z2) (x1, x2) := by
                show ltB _ _ = false
                rw [HCD.out]
                exact decide_eq_false (by omega)
              refine ⟨⟨i + 1, (T ++ [(z1, z2)]) ++ (x1, x2) :: T2, S2', by push_cast; rfl, ?_, by simp only [List.length_append, List.length_cons]; omega, hlt, ?_, ?_, ?_, hB3⟩, ?_⟩
              · have h1 := HS.out.2.2.1
                rw [HT.out.1] at h1
                simp at h1 ⊢
                omega
              · have h1 := HS.out.1
                rw [HT.out.1] at h1
                refine List.Perm.trans ?_ h1
                rw [show (T ++ [(z1, z2)]) ++ (x1, x2) :: T2 ++ S2' = (T ++ [(z1, z2)]) ++ ((x1, x2) :: (T2 ++ S2')) by simp, show (T ++ [(z1, z2)]) ++ T2 ++ (x1, x2) :: S2' = (T ++ [(z1, z2)]) ++ (T2 ++ (x1, x2) :: S2') by simp]
                exact List.Perm.append_left _ List.perm_middle.symm
              · have h1 := HS.out.2.1
                rw [HT.out.1] at h1
                have h2 := insert_srt (A := (T ++ [(z1, z2)]) ++ T2) (x := (x1, x2)) (k := (T ++ [(z1, z2)]).length) h1 (fun t ht => ?_) (fun t ht => ?_)
                · rwa [List.take_left, List.drop_left] at h2
                · rw [List.take_left] at ht
                  obtain ⟨h3, -, -⟩ := List.pairwise_append.1 h1
                  rcases List.mem_append.1 ht with ht | ht
                  · exact leB_tr ((List.pairwise_append.1 h3).2.2 t ht _ (List.mem_singleton.2 rfl)) hzx
                  · simp at ht
                    subst ht
                    exact hzx
                · rw [List.drop_left] at ht
                  exact HT.out.2 t ht
              · simpa using hF3
              · simp only [RowKit.intOf]
                omega
      · obtain rfl : i = b := by omega
        have h2 : S2 = [] := by
          have h1 := hpm.length_eq
          have h2 := HP.out.2.1
          simp at h1 h2
          exact List.length_eq_zero_iff.1 (by omega)
        subst h2
        have HE := Lib.hid (show FR wr g (P ++ S1 ++ Q) ∧ S1.Perm (s0 :: S) from ⟨by simpa using hF, by simpa using hpm⟩)
        have HE2 := Lib.hid (And.intro hsr hB)
        clear hpm hsr hF hB
        go_wp2_with fail
        go_end0
        exact ⟨rfl, S1, HE.out.1, HE.out.2, HE2.out.1, HE2.out.2⟩
end Tr
end Go.Proofs.YtbefgplaaghlbaaGreatDoor
