/-
  Walk: the reference's Mean: ifs.
-/
import Derived.Test.YtflhmoelenmomaaGreatDoorMEvA
import Derived.Laws.OwnMore
import Derived.Maps.AppendAt
import Derived.Deep.AppendLies
namespace Go.Proofs.YtflhmoelenmomaaGreatDoor
open Go.RowKit Go.Lib
namespace Ev
open Rc

/-- a kid's three cells -/
structure Kid (W : World) (S : Nat → Prop) (b o i : Nat) (u : E) (k : Int) (σ : ByteArray) (sl : Option Addr) (m cap : Nat) : Prop where
  bl : b < W.heap.size
  c0 : W.cell? ⟨b, o + i * 3, none⟩ = some (.int .i64 k)
  c1 : W.cell? ⟨b, o + i * 3 + 1, none⟩ = some (.string σ)
  c2 : W.cell? ⟨b, o + i * 3 + 2, none⟩ = some (.slice sl m cap)
  rep : RepX W S u (.agg #[.int .i64 k, .string σ, .slice sl m cap])
theorem Kid.keep {W W' : World} {S : Nat → Prop} {b o i : Nat} {u : E} {k : Int} {σ : ByteArray} {sl : Option Addr} {m cap : Nat} (h : Kid W S b o i u k σ sl m cap) (hS : ∀ b, S b → b < W.heap.size) (hB : Below W.heap.size W W') : Kid W' S b o i u k σ sl m cap :=
  ⟨Nat.lt_of_lt_of_le h.bl hB.size, (hB.cell (p := ⟨b, _, none⟩) h.bl).trans h.c0, (hB.cell (p := ⟨b, _, none⟩) h.bl).trans h.c1, (hB.cell (p := ⟨b, _, none⟩) h.bl).trans h.c2, h.rep.move fun j hj => ⟨hj, hB.block j (hS j hj)⟩⟩
/-- the kids of an expression in memory -/
theorem kids_of {W : World} {S : Nat → Prop} {k : Int} {s : ByteArray} {u0 : E} {ks : List E} {v : Value} (hS : ∀ b, S b → b < W.heap.size) (hr : RepX W S (.mk k s (u0 :: ks)) v) :
    ∃ b o cap, v = .agg #[.int .i64 k, .string s, .slice (some ⟨b, o, none⟩) (ks.length + 1) cap] ∧ ks.length + 1 ≤ cap ∧ ∀ (i : Nat) u, (u0 :: ks)[i]? = some u → ∃ kd σ sl m cp, Kid W S b o i u kd σ sl m cp := by
  cases hr with
  | mk _ _ _ sl cap x1 y1 z1 hcap hc hrk =>
    obtain ⟨b, o, e, -⟩ := hc 0 u0 rfl
    subst e
    refine ⟨b, o, cap, rfl, hcap, fun i u hu => ?_⟩
    obtain ⟨b', o', e, hSb, d0, d1, d2⟩ := hc i u hu
    cases e
    have hru := hrk i u hu
    obtain ⟨kd, σ, sl', m', cap', hv⟩ := hru.vals
    have hv1 := congrArg (fun v => match v with | .agg a => a.toList | _ => []) hv
    simp at hv1
    obtain ⟨hx1, hy1, hz1⟩ := hv1
    rw [hv] at hru
    exact ⟨kd, σ, sl', m', cap', hS b hSb, d0.trans (congrArg some hx1), d1.trans (congrArg some hy1), d2.trans (congrArg some hz1), hru⟩
set_option maxHeartbeats 4000000 in
set_option maxRecDepth 100000 in
theorem rmean_if (s : ByteArray) (a b c d : E) (ha : MH a) (hb : MH b) (hc : MH c) (hd : MH d) (hsm : ∀ x ∈ [a, b, c, d], ∀ l n t n', mean x l n = .ok t n' → t.size ≤ 256) (W : World) (S : Nat → Prop) (v nv : Value) (l : Sees) (n : Nat) (hS : ∀ b, S b → b < W.heap.size) (hr : RepX W S (.mk 4 s [a, b, c, d]) v) (hN : NS W nv l) (hn : n < 1000) (hl : l.length ≤ n) (hls : ∀ p ∈ l, p.2.size ≤ 256) :
    Calls Tryz.prog 24 #[v, nv, .int .i64 n] W fun e W' => e = .returned (ansV (meanIf [a, b, c, d] l (n + 1))) ∧ Below W.heap.size W W' := by
  obtain ⟨bb, o, cap, rfl, hcap, hk⟩ := kids_of hS hr
  have hA := (Below.refl W.heap.size W).alloc (Nat.le_refl _) (.cells #[.int .i64 4, .string s, .slice (some ⟨bb, o, none⟩) 4 cap] 24)
  have i1 : ((n : Int) == 1000) = false := beq_eq_false_iff_ne.2 (by omega)
  have HK := Lib.hid (fun i u hu => hk i u hu)
  have HN := Lib.hid hN
  have HS := Lib.hid hS
  have HM := Lib.hid hsm
  have HL := Lib.hid hls
  obtain ⟨sv, cv, rfl, -, -, -⟩ := hN.form
  obtain ⟨k0, σ0, sl0, m0, cp0, h0⟩ := hk 0 a rfl
  have hq0 := ha (W.alloc (.cells #[.int .i64 4, .string s, .slice (some ⟨bb, o, none⟩) 4 cap] 24)) S _ _ l (n + 1) (fun b hb => Nat.lt_of_lt_of_le (HS.out b hb) hA.size) (h0.keep HS.out hA).rep (HN.out.keep hA) (by omega) (by omega) HL.out
  rw [show ((n + 1 : Nat) : Int) = (n : Int) + 1 by omega] at hq0
  have g0 := (h0.keep HS.out hA).c0
  have g1 := (h0.keep HS.out hA).c1
  have g2 := (h0.keep HS.out hA).c2
  simp only [Nat.zero_mul, Nat.add_zero] at g0 g1 g2
  obtain ⟨p0, p1, p2, f0, f1, f2⟩ := obj3 (heap_alloc_new W (.cells #[.int .i64 4, .string s, .slice (some ⟨bb, o, none⟩) 4 cap] 24))
  unfold MH at hb hc hd
  have HB := Lib.hid (And.intro hb (And.intro hc hd))
  have hA2 := Lib.hid hA
  clear hN hS hsm hls hr hk h0 ha hb hc hd hA
  have r0 := mean_rg a l (n + 1) (by omega)
  cases hm0 : mean a l (n + 1) with
  | bad n2 e2 =>
    rw [hm0] at hq0 r0
    have he2 : ¬ e2 = 0 := by
      have := mean_er a l (n + 1) n2 e2 hm0
      omega
    have hn2 : n2 ≤ 1000 := r0.2.1
    rw [show meanIf [a, b, c, d] l (n + 1) = .bad n2 e2 by rw [meanIf, hm0]]
    simp only [ansV] at hq0 ⊢
    clear r0 HB HM HK
    go_enter Tryz.func24, Tryz.ntmps24
    go_wp2_with (first
      | (go_at_call 24; with_reducible refine hq0.mono ?_; rintro e W1 ⟨rfl, hB1⟩; have hB2 := hA2.out.trans (hB1.mono hA2.out.size); clear hq0))
    refine bodyPost_ret (mean_results rfl rfl rfl) rfl ?_
    exact ⟨rfl, hB2⟩
  | ok u n1 =>
    rw [hm0] at hq0 r0
    have hn1 : n1 ≤ 1000 := r0.2.1
    have hn1' : n + 1 ≤ n1 := r0.1
    have r1 := mean_rg b l n1 hn1
    simp only [ansV] at hq0
    cases hm1 : mean b l n1 with
    | bad n2 e2 =>
      rw [hm1] at r1
      have he2 : ¬ e2 = 0 := by
        have := mean_er b l n1 n2 e2 hm1
        omega
      have hn2 : n2 ≤ 1000 := r1.2.1
      rw [show meanIf [a, b, c, d] l (n + 1) = .bad n2 e2 by rw [meanIf, hm0]; dsimp only; rw [hm1]]
      simp only [ansV]
      clear r0 r1
      go_enter Tryz.func24, Tryz.ntmps24
      go_wp2_with (first
        | (go_at_call 24; with_reducible refine hq0.mono ?_; rintro e W1 ⟨rfl, hB1⟩; have hB2 := hA2.out.trans (hB1.mono hA2.out.size); obtain ⟨k1, σ1, sl1, m1, cp1, h1⟩ := HK.out 1 b rfl; replace h1 := h1.keep HS.out hB2; have a1 : W1.cell? ⟨bb, o + 3, none⟩ = some (.int .i64 k1) := h1.c0; have b1 : W1.cell? ⟨bb, o + 4, none⟩ = some (.string σ1) := h1.c1; have c1 : W1.cell? ⟨bb, o + 5, none⟩ = some (.slice sl1 m1 cp1) := h1.c2; have b1' : W1.cell? ⟨bb, o + 3 + 1, none⟩ = some (.string σ1) := h1.c1; have c1' : W1.cell? ⟨bb, o + 3 + 2, none⟩ = some (.slice sl1 m1 cp1) := h1.c2; have q1 := (hB1.cell (p := ⟨W.heap.size, 2, none⟩) (by simp)).trans p2; have hq1 := HB.out.1 W1 S _ _ l n1 (fun b hb => Nat.lt_of_lt_of_le (HS.out b hb) hB2.size) h1.rep (HN.out.keep hB2) hn1 (by omega) HL.out; rw [hm1] at hq1; simp only [ansV] at hq1; clear h1; clear hq0)
        | (go_at_call 24; with_reducible refine hq1.mono ?_; rintro e W2 ⟨rfl, hB3⟩; have hB4 := hB2.trans (hB3.mono hB2.size); clear hq1))
      refine bodyPost_ret (mean_results rfl rfl rfl) rfl ?_
      exact ⟨rfl, hB4⟩
    | ok v n2 =>
      rw [hm1] at r1
      have hn2 : n2 ≤ 1000 := r1.2.1
      have hn2' : n1 ≤ n2 := r1.1
      by_cases huv : u = v
      · have j1 : (u.toList == v.toList) = true := by rw [huv]; exact beq_self_eq_true _
        have r2 := mean_rg c l n2 hn2
        have hE : meanIf [a, b, c, d] l (n + 1) = mean c l n2 := by rw [meanIf, hm0]; dsimp only; rw [hm1]; dsimp only; rw [if_pos huv]
        rw [hE]
        cases hm2 : mean c l n2 with
        | bad n3 e3 =>
          rw [hm2] at r2
          have he3 : ¬ e3 = 0 := by
            have := mean_er c l n2 n3 e3 hm2
            omega
          have hn3 : n3 ≤ 1000 := r2.2.1
          simp only [ansV]
          clear r0 r1 r2 huv hE
          go_enter Tryz.func24, Tryz.ntmps24
          go_wp2_with (first
            | (go_at_call 24; with_reducible refine hq0.mono ?_; rintro e W1 ⟨rfl, hB1⟩; have hB2 := hA2.out.trans (hB1.mono hA2.out.size); obtain ⟨k1, σ1, sl1, m1, cp1, h1⟩ := HK.out 1 b rfl; replace h1 := h1.keep HS.out hB2; have a1 : W1.cell? ⟨bb, o + 3, none⟩ = some (.int .i64 k1) := h1.c0; have b1 : W1.cell? ⟨bb, o + 4, none⟩ = some (.string σ1) := h1.c1; have c1 : W1.cell? ⟨bb, o + 5, none⟩ = some (.slice sl1 m1 cp1) := h1.c2; have b1' : W1.cell? ⟨bb, o + 3 + 1, none⟩ = some (.string σ1) := h1.c1; have c1' : W1.cell? ⟨bb, o + 3 + 2, none⟩ = some (.slice sl1 m1 cp1) := h1.c2; have q1 := (hB1.cell (p := ⟨W.heap.size, 2, none⟩) (by simp)).trans p2; have hq1 := HB.out.1 W1 S _ _ l n1 (fun b hb => Nat.lt_of_lt_of_le (HS.out b hb) hB2.size) h1.rep (HN.out.keep hB2) hn1 (by omega) HL.out; rw [hm1] at hq1; simp only [ansV] at hq1; clear h1; clear hq0)
            | (go_at_call 24; with_reducible refine hq1.mono ?_; rintro e W2 ⟨rfl, hB3⟩; have hB4 := hB2.trans (hB3.mono hB2.size); obtain ⟨k2, σ2, sl2, m2, cp2, h2⟩ := HK.out 2 c rfl; replace h2 := h2.keep HS.out hB4; have a2 : W2.cell? ⟨bb, o + 6, none⟩ = some (.int .i64 k2) := h2.c0; have b2 : W2.cell? ⟨bb, o + 7, none⟩ = some (.string σ2) := h2.c1; have c2 : W2.cell? ⟨bb, o + 8, none⟩ = some (.slice sl2 m2 cp2) := h2.c2; have b2' : W2.cell? ⟨bb, o + 6 + 1, none⟩ = some (.string σ2) := h2.c1; have c2' : W2.cell? ⟨bb, o + 6 + 2, none⟩ = some (.slice sl2 m2 cp2) := h2.c2; have q2 := (hB3.cell (p := ⟨W.heap.size, 2, none⟩) (by have := hB1.size; simp at this; show W.heap.size < W1.heap.size; omega)).trans q1; have hq2 := HB.out.2.1 W2 S _ _ l n2 (fun b hb => Nat.lt_of_lt_of_le (HS.out b hb) hB4.size) h2.rep (HN.out.keep hB4) hn2 (by omega) HL.out; rw [hm2] at hq2; simp only [ansV] at hq2; clear h2; clear hq1)
            | (go_at_call 24; with_reducible refine hq2.mono ?_; rintro e W3 ⟨rfl, hB5⟩; have hB6 := hB4.trans (hB5.mono hB4.size); clear hq2))
          refine bodyPost_ret (mean_results rfl rfl rfl) rfl ?_
          exact ⟨rfl, hB6⟩
        | ok t n3 =>
          rw [hm2] at r2
          have hn3 : n3 ≤ 1000 := r2.2.1
          have htz : ¬ (256 : Int) < t.size := by
            have := HM.out c (by simp) _ _ _ _ hm2
            omega
          simp only [ansV]
          clear r0 r1 r2 huv hE
          go_enter Tryz.func24, Tryz.ntmps24
          go_wp2_with (first
            | (go_at_call 24; with_reducible refine hq0.mono ?_; rintro e W1 ⟨rfl, hB1⟩; have hB2 := hA2.out.trans (hB1.mono hA2.out.size); obtain ⟨k1, σ1, sl1, m1, cp1, h1⟩ := HK.out 1 b rfl; replace h1 := h1.keep HS.out hB2; have a1 : W1.cell? ⟨bb, o + 3, none⟩ = some (.int .i64 k1) := h1.c0; have b1 : W1.cell? ⟨bb, o + 4, none⟩ = some (.string σ1) := h1.c1; have c1 : W1.cell? ⟨bb, o + 5, none⟩ = some (.slice sl1 m1 cp1) := h1.c2; have b1' : W1.cell? ⟨bb, o + 3 + 1, none⟩ = some (.string σ1) := h1.c1; have c1' : W1.cell? ⟨bb, o + 3 + 2, none⟩ = some (.slice sl1 m1 cp1) := h1.c2; have q1 := (hB1.cell (p := ⟨W.heap.size, 2, none⟩) (by simp)).trans p2; have hq1 := HB.out.1 W1 S _ _ l n1 (fun b hb => Nat.lt_of_lt_of_le (HS.out b hb) hB2.size) h1.rep (HN.out.keep hB2) hn1 (by omega) HL.out; rw [hm1] at hq1; simp only [ansV] at hq1; clear h1; clear hq0)
            | (go_at_call 24; with_reducible refine hq1.mono ?_; rintro e W2 ⟨rfl, hB3⟩; have hB4 := hB2.trans (hB3.mono hB2.size); obtain ⟨k2, σ2, sl2, m2, cp2, h2⟩ := HK.out 2 c rfl; replace h2 := h2.keep HS.out hB4; have a2 : W2.cell? ⟨bb, o + 6, none⟩ = some (.int .i64 k2) := h2.c0; have b2 : W2.cell? ⟨bb, o + 7, none⟩ = some (.string σ2) := h2.c1; have c2 : W2.cell? ⟨bb, o + 8, none⟩ = some (.slice sl2 m2 cp2) := h2.c2; have b2' : W2.cell? ⟨bb, o + 6 + 1, none⟩ = some (.string σ2) := h2.c1; have c2' : W2.cell? ⟨bb, o + 6 + 2, none⟩ = some (.slice sl2 m2 cp2) := h2.c2; have q2 := (hB3.cell (p := ⟨W.heap.size, 2, none⟩) (by have := hB1.size; simp at this; show W.heap.size < W1.heap.size; omega)).trans q1; have hq2 := HB.out.2.1 W2 S _ _ l n2 (fun b hb => Nat.lt_of_lt_of_le (HS.out b hb) hB4.size) h2.rep (HN.out.keep hB4) hn2 (by omega) HL.out; rw [hm2] at hq2; simp only [ansV] at hq2; clear h2; clear hq1)
            | (go_at_call 24; with_reducible refine hq2.mono ?_; rintro e W3 ⟨rfl, hB5⟩; have hB6 := hB4.trans (hB5.mono hB4.size); clear hq2))
          refine bodyPost_ret (mean_results rfl rfl rfl) rfl ?_
          exact ⟨rfl, hB6⟩
      · have j1 : (u.toList == v.toList) = false := beq_eq_false_iff_ne.2 fun e => huv (by
          rw [ByteArray.toList_eq, ByteArray.toList_eq] at e
          exact ByteArray.ext (Array.toList_inj.1 e))
        have r2 := mean_rg d l n2 hn2
        have hE : meanIf [a, b, c, d] l (n + 1) = mean d l n2 := by rw [meanIf, hm0]; dsimp only; rw [hm1]; dsimp only; rw [if_neg huv]
        rw [hE]
        cases hm2 : mean d l n2 with
        | bad n3 e3 =>
          rw [hm2] at r2
          have he3 : ¬ e3 = 0 := by
            have := mean_er d l n2 n3 e3 hm2
            omega
          have hn3 : n3 ≤ 1000 := r2.2.1
          simp only [ansV]
          clear r0 r1 r2 huv hE
          go_enter Tryz.func24, Tryz.ntmps24
          go_wp2_with (first
            | (go_at_call 24; with_reducible refine hq0.mono ?_; rintro e W1 ⟨rfl, hB1⟩; have hB2 := hA2.out.trans (hB1.mono hA2.out.size); obtain ⟨k1, σ1, sl1, m1, cp1, h1⟩ := HK.out 1 b rfl; replace h1 := h1.keep HS.out hB2; have a1 : W1.cell? ⟨bb, o + 3, none⟩ = some (.int .i64 k1) := h1.c0; have b1 : W1.cell? ⟨bb, o + 4, none⟩ = some (.string σ1) := h1.c1; have c1 : W1.cell? ⟨bb, o + 5, none⟩ = some (.slice sl1 m1 cp1) := h1.c2; have b1' : W1.cell? ⟨bb, o + 3 + 1, none⟩ = some (.string σ1) := h1.c1; have c1' : W1.cell? ⟨bb, o + 3 + 2, none⟩ = some (.slice sl1 m1 cp1) := h1.c2; have q1 := (hB1.cell (p := ⟨W.heap.size, 2, none⟩) (by simp)).trans p2; have hq1 := HB.out.1 W1 S _ _ l n1 (fun b hb => Nat.lt_of_lt_of_le (HS.out b hb) hB2.size) h1.rep (HN.out.keep hB2) hn1 (by omega) HL.out; rw [hm1] at hq1; simp only [ansV] at hq1; clear h1; clear hq0)
            | (go_at_call 24; with_reducible refine hq1.mono ?_; rintro e W2 ⟨rfl, hB3⟩; have hB4 := hB2.trans (hB3.mono hB2.size); obtain ⟨k3, σ3, sl3, m3, cp3, h3⟩ := HK.out 3 d rfl; replace h3 := h3.keep HS.out hB4; have a3 : W2.cell? ⟨bb, o + 9, none⟩ = some (.int .i64 k3) := h3.c0; have b3 : W2.cell? ⟨bb, o + 10, none⟩ = some (.string σ3) := h3.c1; have c3 : W2.cell? ⟨bb, o + 11, none⟩ = some (.slice sl3 m3 cp3) := h3.c2; have b3' : W2.cell? ⟨bb, o + 9 + 1, none⟩ = some (.string σ3) := h3.c1; have c3' : W2.cell? ⟨bb, o + 9 + 2, none⟩ = some (.slice sl3 m3 cp3) := h3.c2; have q3 := (hB3.cell (p := ⟨W.heap.size, 2, none⟩) (by have := hB1.size; simp at this; show W.heap.size < W1.heap.size; omega)).trans q1; have hq3 := HB.out.2.2 W2 S _ _ l n2 (fun b hb => Nat.lt_of_lt_of_le (HS.out b hb) hB4.size) h3.rep (HN.out.keep hB4) hn2 (by omega) HL.out; rw [hm2] at hq3; simp only [ansV] at hq3; clear h3; clear hq1)
            | (go_at_call 24; with_reducible refine hq3.mono ?_; rintro e W3 ⟨rfl, hB5⟩; have hB6 := hB4.trans (hB5.mono hB4.size); clear hq3))
          refine bodyPost_ret (mean_results rfl rfl rfl) rfl ?_
          exact ⟨rfl, hB6⟩
        | ok t n3 =>
          rw [hm2] at r2
          have hn3 : n3 ≤ 1000 := r2.2.1
          have htz : ¬ (256 : Int) < t.size := by
            have := HM.out d (by simp) _ _ _ _ hm2
            omega
          simp only [ansV]
          clear r0 r1 r2 huv hE
          go_enter Tryz.func24, Tryz.ntmps24
          go_wp2_with (first
            | (go_at_call 24; with_reducible refine hq0.mono ?_; rintro e W1 ⟨rfl, hB1⟩; have hB2 := hA2.out.trans (hB1.mono hA2.out.size); obtain ⟨k1, σ1, sl1, m1, cp1, h1⟩ := HK.out 1 b rfl; replace h1 := h1.keep HS.out hB2; have a1 : W1.cell? ⟨bb, o + 3, none⟩ = some (.int .i64 k1) := h1.c0; have b1 : W1.cell? ⟨bb, o + 4, none⟩ = some (.string σ1) := h1.c1; have c1 : W1.cell? ⟨bb, o + 5, none⟩ = some (.slice sl1 m1 cp1) := h1.c2; have b1' : W1.cell? ⟨bb, o + 3 + 1, none⟩ = some (.string σ1) := h1.c1; have c1' : W1.cell? ⟨bb, o + 3 + 2, none⟩ = some (.slice sl1 m1 cp1) := h1.c2; have q1 := (hB1.cell (p := ⟨W.heap.size, 2, none⟩) (by simp)).trans p2; have hq1 := HB.out.1 W1 S _ _ l n1 (fun b hb => Nat.lt_of_lt_of_le (HS.out b hb) hB2.size) h1.rep (HN.out.keep hB2) hn1 (by omega) HL.out; rw [hm1] at hq1; simp only [ansV] at hq1; clear h1; clear hq0)
            | (go_at_call 24; with_reducible refine hq1.mono ?_; rintro e W2 ⟨rfl, hB3⟩; have hB4 := hB2.trans (hB3.mono hB2.size); obtain ⟨k3, σ3, sl3, m3, cp3, h3⟩ := HK.out 3 d rfl; replace h3 := h3.keep HS.out hB4; have a3 : W2.cell? ⟨bb, o + 9, none⟩ = some (.int .i64 k3) := h3.c0; have b3 : W2.cell? ⟨bb, o + 10, none⟩ = some (.string σ3) := h3.c1; have c3 : W2.cell? ⟨bb, o + 11, none⟩ = some (.slice sl3 m3 cp3) := h3.c2; have b3' : W2.cell? ⟨bb, o + 9 + 1, none⟩ = some (.string σ3) := h3.c1; have c3' : W2.cell? ⟨bb, o + 9 + 2, none⟩ = some (.slice sl3 m3 cp3) := h3.c2; have q3 := (hB3.cell (p := ⟨W.heap.size, 2, none⟩) (by have := hB1.size; simp at this; show W.heap.size < W1.heap.size; omega)).trans q1; have hq3 := HB.out.2.2 W2 S _ _ l n2 (fun b hb => Nat.lt_of_lt_of_le (HS.out b hb) hB4.size) h3.rep (HN.out.keep hB4) hn2 (by omega) HL.out; rw [hm2] at hq3; simp only [ansV] at hq3; clear h3; clear hq1)
            | (go_at_call 24; with_reducible refine hq3.mono ?_; rintro e W3 ⟨rfl, hB5⟩; have hB6 := hB4.trans (hB5.mono hB4.size); clear hq3))
          refine bodyPost_ret (mean_results rfl rfl rfl) rfl ?_
          exact ⟨rfl, hB6⟩
end Ev
end Go.Proofs.YtflhmoelenmomaaGreatDoor

/-
  Names that stand for texts: a row of one's own, one behind another.
-/
namespace Go.Proofs.YtflhmoelenmomaaGreatDoor
open Go.RowKit Go.Lib
namespace Ev
open Rc

abbrev N2 := ByteArray × ByteArray
theorem info_name : (Tryz.prog.info? 94).map (fun i => (i.zero, i.size, i.bytes)) = some (some (.agg #[.string ⟨#[]⟩, .string ⟨#[]⟩]), 2, 32) := by kernel_rfl
def rowN (r : List N2) : List Value := r.flatMap fun g => [.string g.1, .string g.2]
theorem rowN_len : ∀ l : List N2, (rowN l).length = l.length * 2
  | [] => rfl
  | a :: l => by
    have := rowN_len l
    simp only [rowN, List.flatMap_cons, List.length_append, List.length_cons, List.length_nil] at *
    omega
theorem rowN_app (a b : List N2) : rowN (a ++ b) = rowN a ++ rowN b := List.flatMap_append
theorem rowN_at : ∀ (l : List N2) (k : Nat) (a : N2), l[k]? = some a → (rowN l)[k * 2]? = some (.string a.1) ∧ (rowN l)[k * 2 + 1]? = some (.string a.2)
  | [], k, a, h => by simp at h
  | b :: l, 0, a, h => by simp at h; subst h; exact ⟨rfl, rfl⟩
  | b :: l, k + 1, a, h => by
    have ih := rowN_at l k a (by simpa using h)
    rw [show (k + 1) * 2 = k * 2 + 2 by omega]
    exact ih
theorem rowN_one (l : List N2) : ∀ v ∈ rowN l, v.oneCell' = true := by
  intro v hv
  obtain ⟨p, _, hp⟩ := List.mem_flatMap.1 hv
  simp at hp
  rcases hp with rfl | rfl <;> rfl
/-- names of one's own, the oldest first -/
def NO (W : World) (B : Nat) (v : Value) (l : List N2) : Prop := W.ownsRow B 94 2 v l.length (rowN l)
theorem NO.ns {W : World} {B : Nat} {v : Value} {l : Sees} (h : NO W B v l.reverse) : NS W v l := by
  have h0 := h
  rcases h.2 with ⟨rfl, hn⟩ | ⟨g, cap, cur, rfl, hb, hg, hc, _⟩
  · have hl : l = [] := by simpa using hn
    subst hl
    exact ns_nil W
  · refine ⟨some ⟨g, 0, none⟩, cap, by simp, by simpa using hc, fun e => (by cases e), fun i p hp => ⟨g, 0, rfl, (Array.getElem?_eq_some_iff.1 hg).1, ?_⟩⟩
    obtain ⟨h1, h2⟩ := rowN_at l.reverse i p hp
    have k1 := World.ownsRow.cells h0 (g := g) rfl _ _ h1
    have k2 := World.ownsRow.cells h0 (g := g) rfl _ _ h2
    have hadd : ∀ n, (⟨g, 0, none⟩ : Addr).add n = ⟨g, n, none⟩ := fun n => by unfold Addr.add; split <;> simp_all
    rw [hadd] at k1 k2
    simp only [Nat.zero_add]
    exact ⟨k1, k2⟩
theorem NS.cells {W : World} {a : Addr} {n c : Nat} {l : Sees} (h : NS W (.slice (some a) n c) l) : ∀ j u, (rowN l.reverse)[j]? = some u → W.cell? (a.add j) = some u := by
  obtain ⟨sl, cap, hv, hn, _, hf⟩ := h.form
  intro j u hj
  have hjl : j < l.length * 2 := by have := (List.getElem?_eq_some_iff.1 hj).1; rw [rowN_len] at this; simpa using this
  have hk : j / 2 < l.reverse.length := by simp; omega
  obtain ⟨b, o, e, hb, h3, h4⟩ := hf (j / 2) l.reverse[j / 2] (List.getElem?_eq_getElem hk)
  cases hv
  cases e
  have hr := rowN_at l.reverse (j / 2) _ (List.getElem?_eq_getElem hk)
  have hadd : ∀ n, (⟨b, o, none⟩ : Addr).add n = ⟨b, o + n, none⟩ := fun n => by unfold Addr.add; split <;> simp_all
  rw [hadd]
  rcases Nat.mod_two_eq_zero_or_one j with hm | hm
  · rw [show j = j / 2 * 2 by omega, hr.1] at hj
    rw [show o + j = o + j / 2 * 2 by omega, ← hj]
    exact h3
  · rw [show j = j / 2 * 2 + 1 by omega, hr.2] at hj
    rw [show o + j = o + j / 2 * 2 + 1 by omega, ← hj]
    exact h4
end Ev
end Go.Proofs.YtflhmoelenmomaaGreatDoor

/-
  The machine in memory: frames in a row, the block of the machine.
-/
namespace Go.Proofs.YtflhmoelenmomaaGreatDoor
open Go.RowKit Go.Lib
namespace Ev
open Rc

/-- a frame's five cells -/
structure FV where
  kd : Int
  σ : ByteArray
  ka : Option Addr
  kn : Nat
  kc : Nat
  va : Option Addr
  vn : Nat
  vc : Nat
  sp : Option Addr
abbrev FV.ks (q : FV) : Value := .slice q.ka q.kn q.kc
abbrev FV.vs (q : FV) : Value := .slice q.va q.vn q.vc
def FV.cells (q : FV) : List Value := [.int .i64 q.kd, .string q.σ, q.ks, q.vs, .pointer q.sp]
def rowF (l : List FV) : List Value := l.flatMap FV.cells
theorem rowF_len : ∀ l : List FV, (rowF l).length = l.length * 5
  | [] => rfl
  | a :: l => by
    have := rowF_len l
    simp only [rowF, List.flatMap_cons, List.length_append, List.length_cons, FV.cells, List.length_nil] at *
    omega
theorem rowF_app (a b : List FV) : rowF (a ++ b) = rowF a ++ rowF b := List.flatMap_append
theorem rowF_at : ∀ (l : List FV) (k : Nat) (a : FV), l[k]? = some a → ∀ j u, a.cells[j]? = some u → (rowF l)[k * 5 + j]? = some u
  | [], k, a, h, _, _, _ => by simp at h
  | b :: l, 0, a, h, j, u, hu => by
    simp at h
    subst h
    have hj := (List.getElem?_eq_some_iff.1 hu).1
    show (b.cells ++ rowF l)[0 * 5 + j]? = some u
    rw [Nat.zero_mul, Nat.zero_add, List.getElem?_append_left hj]
    exact hu
  | b :: l, k + 1, a, h, j, u, hu => by
    have ih := rowF_at l k a (by simpa using h) j u hu
    show (b.cells ++ rowF l)[(k + 1) * 5 + j]? = some u
    rw [List.getElem?_append_right (by show 5 ≤ _; omega), show (k + 1) * 5 + j - b.cells.length = k * 5 + j by show (k + 1) * 5 + j - 5 = _; omega]
    exact ih
theorem rowF_one (l : List FV) : ∀ v ∈ rowF l, v.oneCell' = true := by
  intro v hv
  obtain ⟨p, _, hp⟩ := List.mem_flatMap.1 hv
  simp [FV.cells] at hp
  rcases hp with rfl | rfl | rfl | rfl | rfl <;> rfl
/-- texts in a row of one's own -/
def TO (W : World) (B : Nat) (v : Value) (l : List ByteArray) : Prop := W.ownsRow B 9 1 v l.length (l.map Value.string)
/-- a frame in memory -/
structure FO (W : World) (S : Nat → Prop) (B : Nat) (q : FV) (f : Fr) : Prop where
  rep : RepX W S f.x (.agg #[.int .i64 q.kd, .string q.σ, q.ks])
  vals : TO W B q.vs f.vals
  sees : Lk W (.pointer q.sp) f.sees
/-- the machine in memory: its block b, the stack sv (the first one begun first), what was begun, the fault -/
structure MI (W0 W : World) (S : Nat → Prop) (b : Nat) (sv : Value) (qs : List FV) (st : List Fr) (n : Nat) (flt : Int) : Prop where
  lo : W0.heap.size ≤ b
  lt : b < W.heap.size
  obj : W.heap[b]? = some (.cells #[sv, .int .i64 n, .int .i64 flt] 62 (0, 0))
  row : W.ownsRow (b + 1) 87 5 sv qs.length (rowF qs)
  len : qs.length = st.length
  fr : ∀ (i : Nat) (q : FV) (f : Fr), qs[i]? = some q → st.reverse[i]? = some f → FO W S (b + 1) q f
  /-- the texts' blocks are different ones, and none is the stack's -/
  apart : ∀ (i j : Nat) (q p : FV), qs[i]? = some q → qs[j]? = some p → i ≠ j → q.vs.ownBlock = none ∨ q.vs.ownBlock ≠ p.vs.ownBlock
  off : ∀ (i : Nat) (q : FV), qs[i]? = some q → q.vs.ownBlock = none ∨ q.vs.ownBlock ≠ sv.ownBlock
  below : Below W0.heap.size W0 W
end Ev
end Go.Proofs.YtflhmoelenmomaaGreatDoor

/-
  The machine in memory: what stands when its own block changes; begin where no more may be begun.
-/
namespace Go.Proofs.YtflhmoelenmomaaGreatDoor
open Go.RowKit Go.Lib
namespace Ev
open Rc

theorem Lk.move {W W' : World} {v : Value} {l : Sees} (h : Lk W v l) (hW : ∀ (g : Nat) (cs : Array Value), W.heap[g]? = some (Obj.cells cs 91 (0, 0)) → W'.heap[g]? = W.heap[g]?) : Lk W' v l := by
  induction h with
  | nil => exact .nil
  | cons g a t p l hb hp _ ih => exact .cons g a t p l ((hW g _ hb).trans hb) hp ih
theorem own_move {W W' : World} {B e size n : Nat} {v : Value} {xs : List Value} (h : W.ownsRow B e size v n xs) (hW : ∀ (g : Nat) (cs : Array Value), W.heap[g]? = some (Obj.cells cs e (0, 0)) → W'.heap[g]? = W.heap[g]?) : W'.ownsRow B e size v n xs := by
  refine ⟨h.1, h.2.imp id ?_⟩
  rintro ⟨g, cap, cur, rfl, h1, h2, h3⟩
  exact ⟨g, cap, cur, rfl, h1, (hW g _ h2).trans h2, h3⟩
/-- a change of the machine's own block alone -/
theorem MI.own {W0 W W' : World} {S : Nat → Prop} {b : Nat} {sv : Value} {qs : List FV} {st : List Fr} {n n' : Nat} {flt flt' : Int} (h : MI W0 W S b sv qs st n flt) (hS : ∀ k, S k → k < W0.heap.size) (hb : W'.heap[b]? = some (.cells #[sv, .int .i64 n', .int .i64 flt'] 62 (0, 0)))
    (hk : ∀ k, k ≠ b → W'.heap[k]? = W.heap[k]?) (hs : W'.heap.size = W.heap.size) (hB : Below W0.heap.size W0 W') : MI W0 W' S b sv qs st n' flt' := by
  have hne : ∀ {T : TypeId}, T ≠ 62 → ∀ (g : Nat) (cs : Array Value), W.heap[g]? = some (Obj.cells cs T (0, 0)) → W'.heap[g]? = W.heap[g]? := by
    intro T hT g cs hg
    refine hk g fun e => hT ?_
    subst e
    rw [h.obj] at hg
    cases hg
    rfl
  refine ⟨h.lo, by rw [hs]; exact h.lt, hb, own_move h.row (hne (by decide)), h.len, fun i q f hq hf => ?_, h.apart, h.off, hB⟩
  have ho := h.fr i q f hq hf
  exact ⟨ho.rep.move fun k hk' => ⟨hk', hk k (by have := hS k hk'; have := h.lo; omega)⟩, own_move ho.vals (hne (by decide)), ho.sees.move (hne (by decide))⟩
/-- all that was made since leaves the machine as it is -/
theorem MI.keep {W0 W W' : World} {S : Nat → Prop} {b : Nat} {sv : Value} {qs : List FV} {st : List Fr} {n : Nat} {flt : Int} (h : MI W0 W S b sv qs st n flt) (hS : ∀ k, S k → k < W0.heap.size) (hB : Below W.heap.size W W') : MI W0 W' S b sv qs st n flt := by
  have hs0 : W0.heap.size ≤ W.heap.size := h.below.size
  have hm : ∀ {T : TypeId} (g : Nat) (cs : Array Value), W.heap[g]? = some (Obj.cells cs T (0, 0)) → W'.heap[g]? = W.heap[g]? := fun g cs hg => hB.block g (Array.getElem?_eq_some_iff.1 hg).1
  refine ⟨h.lo, Nat.lt_of_lt_of_le h.lt hB.size, (hB.block b h.lt).trans h.obj, own_move h.row hm, h.len, fun i q f hq hf => ?_, h.apart, h.off, h.below.trans (hB.mono hs0)⟩
  have ho := h.fr i q f hq hf
  exact ⟨ho.rep.move fun k hk => ⟨hk, hB.block k (Nat.lt_of_lt_of_le (hS k hk) hs0)⟩, own_move ho.vals hm, ho.sees.move hm⟩
theorem MI.fault {W0 W : World} {S : Nat → Prop} {b : Nat} {sv : Value} {qs : List FV} {st : List Fr} {n : Nat} {flt : Int} (h : MI W0 W S b sv qs st n flt) (hS : ∀ k, S k → k < W0.heap.size) (e : Int) : MI W0 (W.setCell ⟨b, 2, none⟩ (.int .i64 e)) S b sv qs st n e :=
  h.own hS (heap_setCell_same W b 2 _ _ _ h.obj) (fun k hk => Below.heap_setCell _ _ _ _ hk) (by simp) (h.below.setCell (p := ⟨b, 2, none⟩) h.lo _)
set_option maxHeartbeats 1000000 in
set_option maxRecDepth 100000 in
theorem begin_full {W0 W : World} {S : Nat → Prop} {b : Nat} {sv : Value} {qs : List FV} {st : List Fr} (h : MI W0 W S b sv qs st 1000 0) (hS : ∀ k, S k → k < W0.heap.size) (kd : Int) (s : ByteArray) (sl : Option Addr) (m cap : Nat) (sp : Value) :
    Calls Tryz.prog 21 #[.pointer (some ⟨b, 0, none⟩), .agg #[.int .i64 kd, .string s, .slice sl m cap], sp] W fun e W' => e = .returned (.tuple #[]) ∧ MI W0 W' S b sv qs st 1000 52 := by
  have h1 := h.keep hS ((Below.refl W.heap.size W).alloc (Nat.le_refl _) (.cells #[.int .i64 kd, .string s, .slice sl m cap] 24))
  obtain ⟨c0, c1, c2, f0, f1, f2⟩ := obj3 h1.obj
  have H1 := Lib.hid h1
  have HS := Lib.hid hS
  clear h h1 hS
  go_enter Tryz.func21, Tryz.ntmps21
  go_wp2_with fail
  refine bodyPost_ret (results_none rfl _ _ _) rfl ?_
  exact ⟨rfl, H1.out.fault HS.out 52⟩
end Ev
end Go.Proofs.YtflhmoelenmomaaGreatDoor

/-
  The machine in memory: a frame more, a frame less, a text more. No walk.
-/
namespace Go.Proofs.YtflhmoelenmomaaGreatDoor
open Go.RowKit Go.Lib
namespace Ev
open Rc

theorem own_type {W : World} {B e size n g : Nat} {v : Value} {xs : List Value} (h : W.ownsRow B e size v n xs) (hv : v.ownBlock = some g) : ∃ cs, W.heap[g]? = some (Obj.cells cs e (0, 0)) := by
  rcases h.2 with ⟨rfl, _⟩ | ⟨g', cap, cur, rfl, _, h2, _⟩
  · simp [Value.ownBlock] at hv
  · simp [Value.ownBlock] at hv
    subst hv
    exact ⟨_, h2⟩
theorem own_block' {W W' : World} {B e size n : Nat} {v : Value} {xs : List Value} (h : W.ownsRow B e size v n xs) (hW : ∀ g, v.ownBlock = some g → W'.heap[g]? = W.heap[g]?) : W'.ownsRow B e size v n xs := by
  refine ⟨h.1, h.2.imp id ?_⟩
  rintro ⟨g, cap, cur, rfl, h1, h2, h3⟩
  exact ⟨g, cap, cur, rfl, h1, (hW g rfl).trans h2, h3⟩
theorem FO.step {W W' : World} {S : Nat → Prop} {B : Nat} {q : FV} {f : Fr} (h : FO W S B q f) (hS : ∀ k, S k → W'.heap[k]? = W.heap[k]?) (hL : ∀ (g : Nat) (cs : Array Value), W.heap[g]? = some (Obj.cells cs 91 (0, 0)) → W'.heap[g]? = W.heap[g]?) (hv : ∀ g, q.vs.ownBlock = some g → W'.heap[g]? = W.heap[g]?) : FO W' S B q f :=
  ⟨h.rep.move fun k hk => ⟨hk, hS k hk⟩, own_block' h.vals hv, h.sees.move hL⟩
theorem MI.svb {W0 W : World} {S : Nat → Prop} {b : Nat} {sv : Value} {qs : List FV} {st : List Fr} {n : Nat} {flt : Int} (h : MI W0 W S b sv qs st n flt) {g : Nat} (hg : sv.ownBlock = some g) : b + 1 ≤ g ∧ g < W.heap.size := h.row.lt g hg
theorem MI.vsb {W0 W : World} {S : Nat → Prop} {b : Nat} {sv : Value} {qs : List FV} {st : List Fr} {n : Nat} {flt : Int} (h : MI W0 W S b sv qs st n flt) {i : Nat} {q : FV} (hq : qs[i]? = some q) {g : Nat} (hg : q.vs.ownBlock = some g) : b + 1 ≤ g ∧ g < W.heap.size ∧ ∃ cs, W.heap[g]? = some (Obj.cells cs 9 (0, 0)) := by
  have hi : i < st.reverse.length := by have := (List.getElem?_eq_some_iff.1 hq).1; have := h.len; simp; omega
  have ho := h.fr i q _ hq (List.getElem?_eq_getElem hi)
  exact ⟨(ho.vals.lt g hg).1, (ho.vals.lt g hg).2, own_type ho.vals hg⟩
/-- a frame more -/
theorem MI.push {W0 w w' : World} {S : Nat → Prop} {b : Nat} {sv : Value} {qs : List FV} {st : List Fr} {n : Nat} {flt : Int} (h : MI W0 w S b sv qs st n flt) (hS : ∀ k, S k → k < W0.heap.size) (hg : w.grownBy w' sv.ownBlock) {g cap : Nat} {q : FV} {f : Fr}
    (hown : w'.ownsRow (b + 1) 87 5 (.slice (some ⟨g, 0, none⟩) (qs.length + 1) cap) (qs.length + 1) (rowF qs ++ q.cells)) (hat : sv.ownBlock = some g ∨ g = w.heap.size) (hq : FO w S (b + 1) q f) (hvn : q.va = none) :
    MI W0 (w'.setCell ⟨b, 0, none⟩ (.slice (some ⟨g, 0, none⟩) (qs.length + 1) cap)) S b (.slice (some ⟨g, 0, none⟩) (qs.length + 1) cap) (qs ++ [q]) (f :: st) n flt := by
  have hlo := h.lo
  have hb : w'.heap[b]? = w.heap[b]? := hg.block b h.lt fun e => by have := (h.svb e.symm).1; omega
  have hvq : q.vs.ownBlock = none := by show (Value.slice q.va _ _).ownBlock = none; rw [hvn]; rfl
  have hne : ∀ k, k < w.heap.size → k ≠ b → sv.ownBlock ≠ some k → (w'.setCell ⟨b, 0, none⟩ (.slice (some ⟨g, 0, none⟩) (qs.length + 1) cap)).heap[k]? = w.heap[k]? := fun k h1 h2 h3 =>
    (Below.heap_setCell _ _ _ _ h2).trans (hg.block k h1 fun e => h3 e.symm)
  have hT : ∀ {T : TypeId}, T ≠ 62 → T ≠ 87 → ∀ (g' : Nat) (cs : Array Value), w.heap[g']? = some (Obj.cells cs T (0, 0)) → (w'.setCell ⟨b, 0, none⟩ (.slice (some ⟨g, 0, none⟩) (qs.length + 1) cap)).heap[g']? = w.heap[g']? := by
    intro T h1 h2 g' cs hc
    refine hne g' (Array.getElem?_eq_some_iff.1 hc).1 (fun e => h1 ?_) (fun e => h2 ?_)
    · subst e
      rw [h.obj] at hc
      cases hc
      rfl
    · obtain ⟨cs', h3⟩ := own_type h.row e
      rw [hc] at h3
      cases h3
      rfl
  have hF : ∀ (q : FV) (f : Fr), FO w S (b + 1) q f → FO (w'.setCell ⟨b, 0, none⟩ (.slice (some ⟨g, 0, none⟩) (qs.length + 1) cap)) S (b + 1) q f := fun q f ho =>
    ho.step (fun k hk => hne k (by have := hS k hk; have := h.below.size; omega) (by have := hS k hk; omega) (fun e => by have := (h.svb e).1; have := hS k hk; omega)) (hT (by decide) (by decide)) fun g' hg' => by
      obtain ⟨cs, h3⟩ := own_type ho.vals hg'
      exact hT (by decide) (by decide) g' cs h3
  refine ⟨hlo, by have := hg.size; have := h.lt; simp; omega, heap_setCell_same _ b 0 _ _ _ (hb.trans h.obj), ?_, by simp [h.len], ?_, ?_, ?_, ?_⟩
  · rw [rowF_app, List.length_append]
    exact ownsRow_setCell_below (by simpa [rowF] using hown) (show b < b + 1 by omega) _
  · intro i p f' hp hf'
    rw [List.reverse_cons] at hf'
    by_cases hi : i < qs.length
    · rw [List.getElem?_append_left hi] at hp
      rw [List.getElem?_append_left (by simp [← h.len]; exact hi)] at hf'
      exact hF p f' (h.fr i p f' hp hf')
    · rw [List.getElem?_append_right (by omega)] at hp
      rw [List.getElem?_append_right (by simp [← h.len]; omega)] at hf'
      have h0 : i - qs.length = 0 := by
        have := (List.getElem?_eq_some_iff.1 hp).1
        simp at this
        omega
      have h1 : i - st.reverse.length = 0 := by simp [← h.len]; omega
      rw [h0] at hp
      rw [h1] at hf'
      simp at hp hf'
      subst hp hf'
      exact hF _ _ hq
  · intro i j p r hp hr hij
    by_cases hi : i < qs.length
    · rw [List.getElem?_append_left hi] at hp
      by_cases hj : j < qs.length
      · rw [List.getElem?_append_left hj] at hr
        exact h.apart i j p r hp hr hij
      · rw [List.getElem?_append_right (by omega)] at hr
        have h0 : j - qs.length = 0 := by
          have := (List.getElem?_eq_some_iff.1 hr).1
          simp at this
          omega
        rw [h0] at hr
        simp at hr
        subst hr
        rw [hvq]
        cases p.vs.ownBlock
        · exact .inl rfl
        · exact .inr (by simp)
    · rw [List.getElem?_append_right (by omega)] at hp
      have h0 : i - qs.length = 0 := by
        have := (List.getElem?_eq_some_iff.1 hp).1
        simp at this
        omega
      rw [h0] at hp
      simp at hp
      subst hp
      exact .inl hvq
  · intro i p hp
    by_cases hi : i < qs.length
    · rw [List.getElem?_append_left hi] at hp
      rcases h.off i p hp with h1 | h1
      · exact .inl h1
      · cases hpb : p.vs.ownBlock with
        | none => exact .inl rfl
        | some k =>
          right
          show some k ≠ some g
          intro e
          cases e
          rcases hat with e | e
          · exact h1 (hpb.trans e.symm)
          · have := (h.vsb hp hpb).2.1
            omega
    · rw [List.getElem?_append_right (by omega)] at hp
      have h0 : i - qs.length = 0 := by
        have := (List.getElem?_eq_some_iff.1 hp).1
        simp at this
        omega
      rw [h0] at hp
      simp at hp
      subst hp
      exact .inl hvq
  · exact (h.below.grown hg h.below.size (fun k e => by have := (h.svb e).1; omega)).setCell (p := ⟨b, 0, none⟩) hlo _
/-- the last frame less -/
theorem MI.pop {W0 w : World} {S : Nat → Prop} {b g cap : Nat} {qs : List FV} {q : FV} {f : Fr} {st : List Fr} {n : Nat} {flt : Int} (h : MI W0 w S b (.slice (some ⟨g, 0, none⟩) (qs.length + 1) cap) (qs ++ [q]) (f :: st) n flt) (hS : ∀ k, S k → k < W0.heap.size) :
    MI W0 (w.setCell ⟨b, 0, none⟩ (.slice (some ⟨g, 0, none⟩) qs.length cap)) S b (.slice (some ⟨g, 0, none⟩) qs.length cap) qs st n flt := by
  have hlo := h.lo
  have hl : qs.length = st.length := by have := h.len; simpa using this
  have hgb : b + 1 ≤ g := (h.svb rfl).1
  have hne : ∀ k, k ≠ b → (w.setCell ⟨b, 0, none⟩ (.slice (some ⟨g, 0, none⟩) qs.length cap)).heap[k]? = w.heap[k]? := fun k h2 => Below.heap_setCell _ _ _ _ h2
  have hrow := h.row
  rw [rowF_app, List.length_append] at hrow
  refine ⟨hlo, by have := h.lt; simp; omega, heap_setCell_same _ b 0 _ _ _ h.obj, ?_, hl, ?_, ?_, ?_, ?_⟩
  · exact ownsRow_setCell_below (ownsRow_pop (by rw [rowF_len]) hrow) (show b < b + 1 by omega) _
  · intro i p f' hp hf'
    have hi := (List.getElem?_eq_some_iff.1 hp).1
    have ho := h.fr i p f' (by rw [List.getElem?_append_left hi]; exact hp) (by rw [List.reverse_cons, List.getElem?_append_left (by simp; omega)]; exact hf')
    refine ho.step (fun k hk => hne k (by have := hS k hk; omega)) (fun g' cs hc => hne g' fun e => ?_) (fun g' hg' => hne g' fun e => ?_)
    · subst e
      rw [h.obj] at hc
      cases hc
    · have := (ho.vals.lt g' hg').1
      omega
  · intro i j p r hp hr hij
    have hi := (List.getElem?_eq_some_iff.1 hp).1
    have hj := (List.getElem?_eq_some_iff.1 hr).1
    exact h.apart i j p r (by rw [List.getElem?_append_left hi]; exact hp) (by rw [List.getElem?_append_left hj]; exact hr) hij
  · intro i p hp
    have hi := (List.getElem?_eq_some_iff.1 hp).1
    exact h.off i p (by rw [List.getElem?_append_left hi]; exact hp)
  · exact h.below.setCell (p := ⟨b, 0, none⟩) hlo _
theorem rowF_set (qs : List FV) (q : FV) (va : Option Addr) (vn vc : Nat) : (rowF (qs ++ [q])).set (qs.length * 5 + 3) (.slice va vn vc) = rowF (qs ++ [{ q with va := va, vn := vn, vc := vc }]) := by
  rw [rowF_app, rowF_app, List.set_append, if_neg (by rw [rowF_len]; omega), rowF_len]
  congr 1
  rw [show qs.length * 5 + 3 - qs.length * 5 = 3 by omega]
  rfl
/-- a text more for the last frame -/
theorem MI.val {W0 w w' : World} {S : Nat → Prop} {b g cap : Nat} {qs : List FV} {q : FV} {f : Fr} {st : List Fr} {n : Nat} {flt : Int} (h : MI W0 w S b (.slice (some ⟨g, 0, none⟩) (qs.length + 1) cap) (qs ++ [q]) (f :: st) n flt) (hS : ∀ k, S k → k < W0.heap.size) (hg : w.grownBy w' q.vs.ownBlock) {G c : Nat} {s : ByteArray}
    (hown : TO w' (b + 1) (.slice (some ⟨G, 0, none⟩) (f.vals.length + 1) c) (f.vals ++ [s])) (hat : q.vs.ownBlock = some G ∨ G = w.heap.size) :
    MI W0 (w'.setCell ⟨g, qs.length * 5 + 3, none⟩ (.slice (some ⟨G, 0, none⟩) (f.vals.length + 1) c)) S b (.slice (some ⟨g, 0, none⟩) (qs.length + 1) cap) (qs ++ [{ q with va := some ⟨G, 0, none⟩, vn := f.vals.length + 1, vc := c }]) (⟨f.x, f.vals ++ [s], f.sees⟩ :: st) n flt := by
  have hlo := h.lo
  have hl : qs.length = st.length := by have := h.len; simpa using this
  have hgb : b + 1 ≤ g ∧ g < w.heap.size := h.svb rfl
  have hq : (qs ++ [q])[qs.length]? = some q := by simp
  have hqo : FO w S (b + 1) q f := h.fr qs.length q f hq (by rw [hl]; simp)
  have hoff := h.off _ _ hq
  have hkeep : ∀ k, k < w.heap.size → k ≠ g → q.vs.ownBlock ≠ some k → (w'.setCell ⟨g, qs.length * 5 + 3, none⟩ (.slice (some ⟨G, 0, none⟩) (f.vals.length + 1) c)).heap[k]? = w.heap[k]? := fun k h1 h2 h3 =>
    (Below.heap_setCell _ _ _ _ h2).trans (hg.block k h1 fun e => h3 e.symm)
  have hsg : w'.heap[g]? = w.heap[g]? := hg.block g hgb.2 fun e => by
    rcases hoff with h1 | h1
    · rw [h1] at e; cases e
    · exact h1 (e.symm)
  have hT : ∀ {T : TypeId}, T ≠ 9 → T ≠ 87 → ∀ (g' : Nat) (cs : Array Value), w.heap[g']? = some (Obj.cells cs T (0, 0)) → (w'.setCell ⟨g, qs.length * 5 + 3, none⟩ (.slice (some ⟨G, 0, none⟩) (f.vals.length + 1) c)).heap[g']? = w.heap[g']? := by
    intro T h1 h2 g' cs hc
    refine hkeep g' (Array.getElem?_eq_some_iff.1 hc).1 (fun e => h2 ?_) (fun e => h1 ?_)
    · subst e
      obtain ⟨cs', h3⟩ := own_type h.row (g := g') rfl
      rw [hc] at h3
      cases h3
      rfl
    · obtain ⟨cs', h3⟩ := own_type hqo.vals e
      rw [hc] at h3
      cases h3
      rfl
  have hrow : w'.ownsRow (b + 1) 87 5 (.slice (some ⟨g, 0, none⟩) (qs.length + 1) cap) (qs.length + 1) (rowF (qs ++ [q])) := by
    have := own_block' h.row (W' := w') (fun g' hg' => by cases hg'; exact hsg)
    simpa using this
  have hGlt : G < w'.heap.size ∧ G ≠ g := by
    refine ⟨(hown.lt G rfl).2, fun e => ?_⟩
    rcases hat with h1 | h1
    · rcases hoff with h2 | h2
      · rw [h2] at h1; cases h1
      · exact h2 (by rw [h1, e]; rfl)
    · omega
  have hSk : ∀ k, S k → (w'.setCell ⟨g, qs.length * 5 + 3, none⟩ (.slice (some ⟨G, 0, none⟩) (f.vals.length + 1) c)).heap[k]? = w.heap[k]? := fun k hk =>
    hkeep k (by have := hS k hk; have := h.below.size; omega) (by have := hS k hk; omega) (fun e => by have := (hqo.vals.lt k e).1; have := hS k hk; omega)
  refine ⟨hlo, by have := hg.size; have := h.lt; simp; omega, ?_, ?_, by simpa using h.len, ?_, ?_, ?_, ?_⟩
  · exact (hT (by decide) (by decide) b _ h.obj).trans h.obj
  · have h1 := (hrow.stored (qs.length * 5 + 3) (.slice (some ⟨G, 0, none⟩) (f.vals.length + 1) c)).1
    rw [rowF_set] at h1
    simpa using h1
  · intro i p f' hp hf'
    rw [List.reverse_cons] at hf'
    by_cases hi : i < qs.length
    · rw [List.getElem?_append_left hi] at hp
      rw [List.getElem?_append_left (by simp; omega)] at hf'
      have hp' : (qs ++ [q])[i]? = some p := by rw [List.getElem?_append_left hi]; exact hp
      have ho := h.fr i p f' hp' (by rw [List.reverse_cons, List.getElem?_append_left (by simp; omega)]; exact hf')
      refine ho.step hSk (hT (by decide) (by decide)) fun g' hg' => ?_
      refine hkeep g' (ho.vals.lt g' hg').2 (fun e => ?_) (fun e => ?_)
      · subst e
        rcases h.off i p hp' with h1 | h1
        · rw [h1] at hg'; cases hg'
        · exact h1 hg'
      · rcases h.apart i qs.length p q hp' hq (by omega) with h1 | h1
        · rw [h1] at hg'; cases hg'
        · exact h1 (hg'.trans e.symm)
    · rw [List.getElem?_append_right (by omega)] at hp
      rw [List.getElem?_append_right (by simp; omega)] at hf'
      have h0 : i - qs.length = 0 := by
        have := (List.getElem?_eq_some_iff.1 hp).1
        simp at this
        omega
      have h1 : i - st.reverse.length = 0 := by simp; omega
      rw [h0] at hp
      rw [h1] at hf'
      simp at hp hf'
      subst hp hf'
      refine ⟨hqo.rep.move fun k hk => ⟨hk, hSk k hk⟩, ?_, hqo.sees.move (hT (by decide) (by decide))⟩
      exact own_block' hown fun g' hg' => by cases hg'; exact Below.heap_setCell _ _ _ _ hGlt.2
  · intro i j p r hp hr hij
    have hold : ∀ (i : Nat) (p : FV), i < qs.length → qs[i]? = some p → p.vs.ownBlock = none ∨ p.vs.ownBlock ≠ some G := fun i p hi hp => by
      have hp' : (qs ++ [q])[i]? = some p := by rw [List.getElem?_append_left hi]; exact hp
      cases hpb : p.vs.ownBlock with
      | none => exact .inl rfl
      | some k =>
        right
        intro e
        cases e
        rcases hat with h1 | h1
        · rcases h.apart i qs.length p q hp' hq (by omega) with h2 | h2
          · rw [h2] at hpb; cases hpb
          · exact h2 (hpb.trans h1.symm)
        · have := (h.vsb hp' hpb).2.1
          omega
    by_cases hi : i < qs.length
    · rw [List.getElem?_append_left hi] at hp
      by_cases hj : j < qs.length
      · rw [List.getElem?_append_left hj] at hr
        exact h.apart i j p r (by rw [List.getElem?_append_left hi]; exact hp) (by rw [List.getElem?_append_left hj]; exact hr) hij
      · rw [List.getElem?_append_right (by omega)] at hr
        have h0 : j - qs.length = 0 := by
          have := (List.getElem?_eq_some_iff.1 hr).1
          simp at this
          omega
        rw [h0] at hr
        simp at hr
        subst hr
        exact hold i p hi hp
    · rw [List.getElem?_append_right (by omega)] at hp
      have h0 : i - qs.length = 0 := by
        have := (List.getElem?_eq_some_iff.1 hp).1
        simp at this
        omega
      rw [h0] at hp
      simp at hp
      have hj : j < qs.length := by
        have := (List.getElem?_eq_some_iff.1 hr).1
        simp at this
        omega
      rw [List.getElem?_append_left hj] at hr
      subst hp
      right
      rcases hold j r hj hr with h1 | h1
      · rw [h1]
        intro e
        cases e
      · exact fun e => h1 e.symm
  · intro i p hp
    by_cases hi : i < qs.length
    · rw [List.getElem?_append_left hi] at hp
      exact h.off i p (by rw [List.getElem?_append_left hi]; exact hp)
    · rw [List.getElem?_append_right (by omega)] at hp
      have h0 : i - qs.length = 0 := by
        have := (List.getElem?_eq_some_iff.1 hp).1
        simp at this
        omega
      rw [h0] at hp
      simp at hp
      subst hp
      right
      show some G ≠ some g
      intro e
      cases e
      exact hGlt.2 rfl
  · exact (h.below.grown hg h.below.size (fun k e => by have := (hqo.vals.lt k e).1; omega)).setCell (p := ⟨g, qs.length * 5 + 3, none⟩) (by show W0.heap.size ≤ g; omega) _
end Ev
end Go.Proofs.YtflhmoelenmomaaGreatDoor
