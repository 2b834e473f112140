/-
  The reference's Mean and Eval, of any expression.
-/
import Derived.Test.YtflhmoelenmomaaGreatDoorMEvI
import Derived.Test.YtflhmoelenmomaaGreatDoorMEvU
import Derived.Test.YtflhmoelenmomaaGreatDoorMRrA
namespace Go.Proofs.YtflhmoelenmomaaGreatDoor
open Go.RowKit Go.Lib
namespace Ev
open Rc

theorem rmean_any (x : E) (hw : Wf x) : Sml x → sizeW x ≤ 20000 → MH x := by
  induction hw with
  | mk k s ks hp hk ih =>
    intro hsm hsz W S v nv l n hS hr hN hn hl hls
    have hih : ∀ u ∈ ks, MH u := fun u hu => ih u hu (by cases hsm with | mk _ _ _ _ _ _ _ h => exact h u hu) (Nat.le_trans (sizeW_kid (k := k) (s := s) hu) hsz)
    have hks : ks.length ≤ 20000 := by
      have h2 := sizeWs_len ks
      rw [sizeW] at hsz
      omega
    have hss : s.size ≤ 140737488355328 := by cases hsm with | mk _ _ _ _ _ h _ _ => exact h
    have hms : ∀ u ∈ ks, ∀ l n t n', mean u l n = .ok t n' → t.size ≤ 256 := fun u hu => mean_small u (hk u hu)
    obtain ⟨kd, σ, sl, m, cap, rfl⟩ := hr.vals
    obtain ⟨e1, e2, e3, _⟩ := rep_mk hr
    subst e1 e2
    by_cases hn1 : n = 1000
    · subst hn1
      rw [mean, if_pos rfl]
      exact rmean_full _ _ _ _ _ _ _
    have hlt : n < 1000 := by omega
    rw [mean, if_neg hn1]
    by_cases h1 : kd = 1
    · subst h1
      rw [if_pos rfl]
      exact rmean_text _ _ _ _ _ _ _ hlt hss
    rw [if_neg h1]
    by_cases h2 : kd = 2
    · subst h2
      rw [if_pos rfl]
      exact rmean_name _ _ _ _ _ _ l _ hlt (by omega) hN hls
    rw [if_neg h2]
    by_cases h3 : kd = 3
    · subst h3
      rw [if_pos rfl]
      exact rmean_cat _ ks hih hms hks _ S _ _ l _ hS hr hN hlt hl hls
    rw [if_neg h3]
    by_cases h4 : kd = 4
    · subst h4
      rw [if_pos rfl]
      have hl4 : ks.length = 4 := by
        simp [partOk] at hp
        exact hp.1
      match ks, hl4, hih, hms, hr with
      | [a, b, c, d], _, hih, hms, hr =>
        exact rmean_if _ a b c d (hih a (by simp)) (hih b (by simp)) (hih c (by simp)) (hih d (by simp)) hms _ S _ _ l _ hS hr hN hlt hl hls
    rw [if_neg h4]
    have h5 : kd = 5 ∧ ks.length = 2 := by
      simp [partOk, h1, h2, h3, h4] at hp
      exact hp.1
    obtain ⟨rfl, hl5⟩ := h5
    rw [if_pos rfl]
    match ks, hl5, hih, hms, hr with
    | [a, b], _, hih, hms, hr =>
      exact rmean_let _ a b (hih a (by simp)) (hih b (by simp)) hms _ S _ _ l _ hS hr hN hlt hl hls
theorem reval_results {tmps : Array Value} {X : World} {x : ByteArray} {n e : Int} (t2 : tmps[2]? = some (.string x)) (t3 : tmps[3]? = some (.int .i64 n)) (t4 : tmps[4]? = some (.int .i64 e)) :
    (results Tryz.f13 tmps).run Tryz.prog X = .ok (.tuple #[.string x, .int .i64 n, .int .i64 e]) X := by
  simp [results, Tryz.results13, go_sem, t2, t3, t4]
set_option maxHeartbeats 2000000 in
set_option maxRecDepth 100000 in
theorem reval_any {x : E} (hx : Sml x) (hw : sizeW x ≤ 20000) (W : World) (S : Nat → Prop) (v : Value) (hS : ∀ b, S b → b < W.heap.size) (hr : RepX W S x v) :
    Calls Tryz.prog 13 #[v] W fun e W' => e = .returned (evalV x) ∧ Below W.heap.size W W' := by
  obtain ⟨kd, s, sl, n, cap, rfl⟩ := hr.vals
  have hA := (Below.refl W.heap.size W).alloc (Nat.le_refl _) (.cells #[.int .i64 kd, .string s, .slice sl n cap] 24)
  obtain ⟨c0, c1, c2, f0, f1, f2⟩ := obj3 (heap_alloc_new W (.cells #[.int .i64 kd, .string s, .slice sl n cap] 24))
  have hg := rgood_any hx hw (W.alloc (.cells #[.int .i64 kd, .string s, .slice sl n cap] 24)) S _ (fun b hb => Nat.lt_of_lt_of_le (hS b hb) hA.size) (hr.move fun b hb => ⟨hb, hA.block b (hS b hb)⟩)
  have HA := Lib.hid hA
  have HS := Lib.hid hS
  have HR := Lib.hid hr
  cases hgd : goodE x with
  | false =>
    rw [hgd] at hg
    have HE := Lib.hid (show evalP x = (⟨#[]⟩, 0, 1) by unfold evalP; rw [if_pos hgd])
    clear hA hS hr hgd
    go_enter Tryz.func13, Tryz.ntmps13
    go_wp2_with (first
      | (go_at_call 23; with_reducible refine hg.mono ?_; rintro e W1 ⟨rfl, hB1⟩; have hB2 := HA.out.trans (hB1.mono HA.out.size); clear hg))
    refine bodyPost_ret (reval_results rfl rfl rfl) rfl ?_
    unfold evalV
    rw [HE.out]
    exact ⟨rfl, hB2⟩
  | true =>
    rw [hgd] at hg
    have HH := Lib.hid (rmean_any x (good_wf hgd) hx hw)
    have HE := Lib.hid (show ansV (mean x [] 0) = evalV x by
      unfold evalV
      rw [eval_good hgd]
      cases mean x [] 0 <;> rfl)
    cases hm : mean x [] 0 with
    | ok t j =>
      have HM := Lib.hid hm
      clear hA hS hr hgd hm
      go_enter Tryz.func13, Tryz.ntmps13
      go_wp2_with (first
        | (go_at_call 23; with_reducible refine hg.mono ?_; rintro e W1 ⟨rfl, hB1⟩; have hB2 := HA.out.trans (hB1.mono HA.out.size); have d0 := (hB1.cell (p := ⟨W.heap.size, 0, none⟩) (by simp)).trans c0; have d1 := (hB1.cell (p := ⟨W.heap.size, 1, none⟩) (by simp)).trans c1; have d2 := (hB1.cell (p := ⟨W.heap.size, 2, none⟩) (by simp)).trans c2; clear hg)
        | (go_at_call 24; refine (HH.out W1 S _ _ [] 0 (fun k hk => Nat.lt_of_lt_of_le (HS.out k hk) hB2.size) (HR.out.move fun k hk => ⟨hk, hB2.block k (HS.out k hk)⟩) (ns_nil _) (Nat.zero_le _) (Nat.zero_le _) (fun p hp => absurd hp (by simp))).mono ?_; rw [HM.out]; simp only [ansV]; rintro e W2 ⟨rfl, hB3⟩; have hB4 := hB2.trans (hB3.mono hB2.size)))
      refine bodyPost_ret (reval_results rfl rfl rfl) rfl ?_
      rw [← HE.out, HM.out]
      exact ⟨rfl, hB4⟩
    | bad j k =>
      have HM := Lib.hid hm
      clear hA hS hr hgd hm
      go_enter Tryz.func13, Tryz.ntmps13
      go_wp2_with (first
        | (go_at_call 23; with_reducible refine hg.mono ?_; rintro e W1 ⟨rfl, hB1⟩; have hB2 := HA.out.trans (hB1.mono HA.out.size); have d0 := (hB1.cell (p := ⟨W.heap.size, 0, none⟩) (by simp)).trans c0; have d1 := (hB1.cell (p := ⟨W.heap.size, 1, none⟩) (by simp)).trans c1; have d2 := (hB1.cell (p := ⟨W.heap.size, 2, none⟩) (by simp)).trans c2; clear hg)
        | (go_at_call 24; refine (HH.out W1 S _ _ [] 0 (fun k hk => Nat.lt_of_lt_of_le (HS.out k hk) hB2.size) (HR.out.move fun k hk => ⟨hk, hB2.block k (HS.out k hk)⟩) (ns_nil _) (Nat.zero_le _) (Nat.zero_le _) (fun p hp => absurd hp (by simp))).mono ?_; rw [HM.out]; simp only [ansV]; rintro e W2 ⟨rfl, hB3⟩; have hB4 := hB2.trans (hB3.mono hB2.size)))
      refine bodyPost_ret (reval_results rfl rfl rfl) rfl ?_
      rw [← HE.out, HM.out]
      exact ⟨rfl, hB4⟩
end Ev
end Go.Proofs.YtflhmoelenmomaaGreatDoor
