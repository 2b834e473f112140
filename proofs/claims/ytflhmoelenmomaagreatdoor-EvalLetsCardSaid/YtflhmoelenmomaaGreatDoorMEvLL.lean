/-
  The law EvalLets. (printed by gen_EvLL.py)
-/
import Derived.Test.YtflhmoelenmomaaGreatDoorMEvPw
import Derived.Test.YtflhmoelenmomaaGreatDoorMEvI
import Derived.Deep.DeepCutAuto
namespace Go.Proofs.YtflhmoelenmomaaGreatDoor
open Go.RowKit Go.Lib
namespace Ev
open Rc

/-- the let and its argument in memory -/
structure LW (W wx : World) (A B : Nat) (y t : ByteArray) (kd : Int) (σ : ByteArray) (sl : Option Addr) (n m : Nat) : Prop where
  below : Below W.heap.size W wx
  bx : wx.heap[W.heap.size]? = some (.cells #[.int .i64 kd, .string σ, .slice sl n m] 24 (0, 0))
  let_ : wx.heap[A]? = some (.cells #[.int .i64 5, .string y, .slice (some ⟨B, 0, none⟩) 2 2] 24 (0, 0))
  arr : wx.heap[B]? = some (.cells #[.int .i64 1, .string t, .slice none 0 0, .int .i64 kd, .string σ, .slice sl n m] 24 (0, 0))
theorem LW.keep {W wx w' : World} {A B : Nat} {y t : ByteArray} {kd : Int} {σ : ByteArray} {sl : Option Addr} {n m : Nat} (h : LW W wx A B y t kd σ sl n m) (hb : Below wx.heap.size wx w') : LW W w' A B y t kd σ sl n m :=
  ⟨h.below.trans (hb.mono h.below.size), (hb.block _ (Array.getElem?_eq_some_iff.1 h.bx).1).trans h.bx, (hb.block _ (Array.getElem?_eq_some_iff.1 h.let_).1).trans h.let_, (hb.block _ (Array.getElem?_eq_some_iff.1 h.arr).1).trans h.arr⟩
theorem LW.rep {W wx : World} {A B : Nat} {y t : ByteArray} {kd : Int} {σ : ByteArray} {sl : Option Addr} {n m : Nat} (h : LW W wx A B y t kd σ sl n m) {x : E} (hr : RepX W (fun b => b < W.heap.size) x (.agg #[.int .i64 kd, .string σ, .slice sl n m])) :
    RepX wx (fun b => b < wx.heap.size) (.mk 5 y [.mk 1 t [], x]) (.agg #[.int .i64 5, .string y, .slice (some ⟨B, 0, none⟩) 2 2]) := by
  have hB := (Array.getElem?_eq_some_iff.1 h.arr).1
  have ha := h.arr
  refine RepX.mk (W := wx) (S := fun b => b < wx.heap.size) 5 y [.mk 1 t [], x] (some ⟨B, 0, none⟩) 2 (fun i => if i = 0 then .int .i64 1 else .int .i64 kd) (fun i => if i = 0 then .string t else .string σ) (fun i => if i = 0 then .slice none 0 0 else .slice sl n m) (by simp) (fun i u hu => ?_) (fun i u hu => ?_)
  · refine ⟨B, 0, rfl, hB, ?_⟩
    match i, hu with
    | 0, _ => exact ⟨by simp [World.cell?, ha], by simp [World.cell?, ha], by simp [World.cell?, ha]⟩
    | 1, _ => exact ⟨by simp [World.cell?, ha], by simp [World.cell?, ha], by simp [World.cell?, ha]⟩
    | i + 2, hu => simp at hu
  · match i, hu with
    | 0, hu =>
      simp at hu
      subst hu
      exact RepX.leaf _ _ _ _
    | 1, hu =>
      simp at hu
      subst hu
      exact hr.move fun b hb => ⟨Nat.lt_of_lt_of_le hb h.below.size, h.below.block b hb⟩
    | i + 2, hu => simp at hu
/-- the let is made: its three cells are written into a block that is there -/
theorem LW.made {W w : World} {A B : Nat} {y t : ByteArray} {kd : Int} {σ : ByteArray} {sl : Option Addr} {n m : Nat} {u0 u1 u2 : Value} (hb : Below W.heap.size W w) (bx : w.heap[W.heap.size]? = some (.cells #[.int .i64 kd, .string σ, .slice sl n m] 24 (0, 0)))
    (hA : w.heap[A]? = some (.cells #[u0, u1, u2] 24 (0, 0))) (hB : w.heap[B]? = some (.cells #[.int .i64 1, .string t, .slice none 0 0, .int .i64 kd, .string σ, .slice sl n m] 24 (0, 0))) (h1 : W.heap.size < A) (h2 : B ≠ A) :
    LW W (put3 w A (.int .i64 5) (.string y) (.slice (some ⟨B, 0, none⟩) 2 2)) A B y t kd σ sl n m :=
  ⟨put3_below hb (by omega) _ _ _, (put3_old _ _ _ (by omega)).trans bx, put3_same _ _ _ hA, (put3_old _ _ _ h2).trans hB⟩
theorem ans_52 {m : M} (h : (ans m).2.2 = 52) : ∃ n, m = .bad n 52 := by
  cases m with
  | ok s n => cases h
  | bad n e => exact ⟨n, by rw [show e = 52 from h]⟩
set_option maxHeartbeats 8000000 in
set_option maxRecDepth 100000 in
theorem letslaw_any {x : E} {y t : ByteArray} {v : Value} (hx : Sml x) (hy : y.size ≤ 140737488355328) (ht : t.size ≤ 140737488355328) (W : World) (hr : RepX W (fun b => b < W.heap.size) x v) (hE : Vs.Env W) :
    Calls Tryz.prog 6 #[.string y, .string t, v] W fun e W' => e = .returned (.bool true) ∧ Below W.heap.size W W' := by
  obtain ⟨kd, σ, sl, n, m, rfl⟩ := hr.vals
  have hA := (Below.refl W.heap.size W).alloc (Nat.le_refl _) (.cells #[.int .i64 kd, .string σ, .slice sl n m] 24)
  have hX := heap_alloc_new W (.cells #[.int .i64 kd, .string σ, .slice sl n m] 24)
  have hal := alive_any (W.alloc (.cells #[.int .i64 kd, .string σ, .slice sl n m] 24)) (hE.alloc _)
  have HR := Lib.hid hr
  have HX := Lib.hid hx
  have HLX := Lib.hid (show Sml (.mk 5 y [.mk 1 t [], x]) from .mk 5 y [.mk 1 t [], x] (by decide) (by decide) hy (by simp) (fun u hu => by
    simp at hu
    rcases hu with rfl | rfl
    · exact .mk 1 t [] (by decide) (by decide) ht (by simp) (fun u hu => by cases hu)
    · exact hx))
  clear hr hx hE
  go_enter Tryz.func6, Tryz.ntmps6
  go_upto_region 3 with (first
    | (go_at_call 10; with_reducible refine hal.mono ?_; rintro e w1 ⟨he, hb1⟩; subst he; have hB := hA.trans (hb1.mono hA.size); have hX1 := (hb1.block W.heap.size (by simp)).trans hX; clear hb1 hal))
  clear hA hX
  go_cut [7] (fun s wx => ∃ A B, s = .pointer (some ⟨A, 0, none⟩) ∧ LW W wx A B y t kd σ sl n m)
  case first =>
    have hl0 : W.heap.size < w1.heap.size := (Array.getElem?_eq_some_iff.1 hX1).1
    obtain ⟨c0, c1, c2, -, -, -⟩ := obj3 hX1
    have e0 := Kp.cell (w := w1) (K := fun k => k = W.heap.size) (a := ⟨W.heap.size, 0, none⟩) rfl c0
    have e1 := Kp.cell (w := w1) (K := fun k => k = W.heap.size) (a := ⟨W.heap.size, 1, none⟩) rfl c1
    have e2 := Kp.cell (w := w1) (K := fun k => k = W.heap.size) (a := ⟨W.heap.size, 2, none⟩) rfl c2
    clear c0 c1 c2
    refine Mix.plan_region (fun w' => ∃ Y, w' = Kp.kp w1 (fun k => k = W.heap.size) Y) 7 (.q [0, 1, 3] (.two 2 (.two 4 (.two 5 (.one 6 .done) 6 (.one 5 .done)) 6 (.one 4 (.one 5 .done))) 6 (.one 2 (.one 4 (.one 5 .done))))) (by kernel_rfl) (fun _ _ d _ _ h => by cases d <;> exact h) (by kernel_rfl) (Kp.of fun _ _ => rfl) ?_
    refine Mix.plan_q (by simp only [Mix.pick, Mix.nth]; rfl) ?_
    repeat (go_big_quiet_step (fail))
    refine wpQuiet_nil ?_
    clear e0 e1 e2
    have hb0 : Below w1.heap.size w1 w1.drew := (Below.refl _ _).drew
    generalize w1.drew = w0 at *
    refine Mix.plan_two (by simp only [Mix.nth]; rfl) (by simp only [Mix.nth]; rfl) (fun K hK => ?_) (fun K hK => ?_)
    · go_simp
      refine (ltext_any t _).mono ?_
      rintro e w2 ⟨rfl, hq2⟩
      have hb2 : Below w1.heap.size w1 w2 := hb0.trans (hq2.mono hb0.size)
      have hz2 := hq2.size
      refine hK _ _ (Kp.of fun k hk => by subst hk; exact hb2.block _ hl0) ?_
      clear hK K
      refine Mix.plan_two (by simp only [Mix.nth]; rfl) (by simp only [Mix.nth]; rfl) (fun K hK => ?_) (fun K hK => ?_)
      · go_simp
        refine hK _ _ (Kp.of fun k hk => by subst hk; exact (heap_alloc_old w2 _ (Nat.lt_of_lt_of_le hl0 hb2.size)).trans (hb2.block _ hl0)) ?_
        clear hK K
        have hb4 : Below w1.heap.size w1 (w2.alloc (.cells #[.int .i64 1, .string t, .slice none 0 0, .int .i64 kd, .string σ, .slice sl n m] 24)) := hb2.alloc hb2.size _
        have hX4 := heap_alloc_new w2 (.cells #[.int .i64 1, .string t, .slice none 0 0, .int .i64 kd, .string σ, .slice sl n m] 24)
        have hz4 := Lib.hid (show (w2.alloc (.cells #[.int .i64 1, .string t, .slice none 0 0, .int .i64 kd, .string σ, .slice sl n m] 24)).heap.size = w2.heap.size + 1 by simp)
        generalize hw4 : w2.alloc (.cells #[.int .i64 1, .string t, .slice none 0 0, .int .i64 kd, .string σ, .slice sl n m] 24) = w4 at *
        clear hw4
        refine Mix.plan_two (by simp only [Mix.nth]; rfl) (by simp only [Mix.nth]; rfl) (fun K hK => ?_) (fun K hK => ?_)
        · go_simp
          refine hK _ _ (Kp.of fun k hk => by subst hk; exact hb4.block _ hl0) ?_
          clear hK K
          refine Mix.plan_one (by simp only [Mix.nth]; rfl) (fun K hK => ?_)
          go_simp
          refine hK _ _ (Kp.of fun k hk => by subst hk; exact (heap_alloc_old w4 _ (Nat.lt_of_lt_of_le hl0 hb4.size)).trans (hb4.block _ hl0)) ?_
          clear hK K
          have hb6 : Below w1.heap.size w1 (w4.alloc (.cells #[.int .i64 0, .string ⟨#[]⟩, .slice none 0 0] 24)) := hb4.alloc hb4.size _
          have hX6 := heap_alloc_new w4 (.cells #[.int .i64 0, .string ⟨#[]⟩, .slice none 0 0] 24)
          have hz6 := Lib.hid (show (w4.alloc (.cells #[.int .i64 0, .string ⟨#[]⟩, .slice none 0 0] 24)).heap.size = w4.heap.size + 1 by simp)
          have hg6 : w4.heap.size < (w4.alloc (.cells #[.int .i64 0, .string ⟨#[]⟩, .slice none 0 0] 24)).heap.size := by simp
          have hl6 := Nat.lt_of_lt_of_le hl0 hb4.size
          have hB6 := (heap_alloc_old w4 (.cells #[.int .i64 0, .string ⟨#[]⟩, .slice none 0 0] 24) (by have q0 := hz4.out; omega)).trans hX4
          generalize hw6 : w4.alloc (.cells #[.int .i64 0, .string ⟨#[]⟩, .slice none 0 0] 24) = w6 at *
          clear hw6
          refine Mix.plan_done ?_
          simp only [List.drop_succ_cons]
          obtain ⟨a0, a1, a2, a3, a4, a5⟩ := obj3 hX6
          go_wp2_with fail
          go_meet
          exact ⟨_, _, rfl, LW.made (hB.trans (hb6.mono hB.size)) ((hb6.block _ hl0).trans hX1) hX6 hB6 (by have q0 := hz4.out; have q1 := hz6.out; omega) (by have q0 := hz4.out; have q1 := hz6.out; omega)⟩
        · go_simp
          refine hK _ _ (Kp.of fun k hk => by subst hk; exact (heap_alloc_old w4 _ (Nat.lt_of_lt_of_le hl0 hb4.size)).trans (hb4.block _ hl0)) ?_
          clear hK K
          have hb6 : Below w1.heap.size w1 (w4.alloc (.cells #[.int .i64 0, .string ⟨#[]⟩, .slice none 0 0] 24)) := hb4.alloc hb4.size _
          have hX6 := heap_alloc_new w4 (.cells #[.int .i64 0, .string ⟨#[]⟩, .slice none 0 0] 24)
          have hz6 := Lib.hid (show (w4.alloc (.cells #[.int .i64 0, .string ⟨#[]⟩, .slice none 0 0] 24)).heap.size = w4.heap.size + 1 by simp)
          have hg6 : w4.heap.size < (w4.alloc (.cells #[.int .i64 0, .string ⟨#[]⟩, .slice none 0 0] 24)).heap.size := by simp
          have hl6 := Nat.lt_of_lt_of_le hl0 hb4.size
          have hB6 := (heap_alloc_old w4 (.cells #[.int .i64 0, .string ⟨#[]⟩, .slice none 0 0] 24) (by have q0 := hz4.out; omega)).trans hX4
          generalize hw6 : w4.alloc (.cells #[.int .i64 0, .string ⟨#[]⟩, .slice none 0 0] 24) = w6 at *
          clear hw6
          refine Mix.plan_one (by simp only [Mix.nth]; rfl) (fun K hK => ?_)
          go_simp
          refine hK _ _ (Kp.of fun k hk => by subst hk; exact hb6.block _ hl0) ?_
          clear hK K
          refine Mix.plan_done ?_
          simp only [List.drop_succ_cons]
          obtain ⟨a0, a1, a2, a3, a4, a5⟩ := obj3 hX6
          go_wp2_with fail
          go_meet
          exact ⟨_, _, rfl, LW.made (hB.trans (hb6.mono hB.size)) ((hb6.block _ hl0).trans hX1) hX6 hB6 (by have q0 := hz4.out; have q1 := hz6.out; omega) (by have q0 := hz4.out; have q1 := hz6.out; omega)⟩
      · go_simp
        refine hK _ _ (Kp.of fun k hk => by subst hk; exact (heap_alloc_old w2 _ (Nat.lt_of_lt_of_le hl0 hb2.size)).trans (hb2.block _ hl0)) ?_
        clear hK K
        have hb6 : Below w1.heap.size w1 (w2.alloc (.cells #[.int .i64 0, .string ⟨#[]⟩, .slice none 0 0] 24)) := hb2.alloc hb2.size _
        have hX6 := heap_alloc_new w2 (.cells #[.int .i64 0, .string ⟨#[]⟩, .slice none 0 0] 24)
        have hz6 := Lib.hid (show (w2.alloc (.cells #[.int .i64 0, .string ⟨#[]⟩, .slice none 0 0] 24)).heap.size = w2.heap.size + 1 by simp)
        have hg6 : w2.heap.size < (w2.alloc (.cells #[.int .i64 0, .string ⟨#[]⟩, .slice none 0 0] 24)).heap.size := by simp
        have hl6 := Nat.lt_of_lt_of_le hl0 hb2.size
        generalize hw6 : w2.alloc (.cells #[.int .i64 0, .string ⟨#[]⟩, .slice none 0 0] 24) = w6 at *
        clear hw6
        refine Mix.plan_one (by simp only [Mix.nth]; rfl) (fun K hK => ?_)
        go_simp
        refine hK _ _ (Kp.of fun k hk => by subst hk; exact (heap_alloc_old w6 _ (Nat.lt_of_lt_of_le hl0 hb6.size)).trans (hb6.block _ hl0)) ?_
        clear hK K
        have hb4 : Below w1.heap.size w1 (w6.alloc (.cells #[.int .i64 1, .string t, .slice none 0 0, .int .i64 kd, .string σ, .slice sl n m] 24)) := hb6.alloc hb6.size _
        have hX4 := heap_alloc_new w6 (.cells #[.int .i64 1, .string t, .slice none 0 0, .int .i64 kd, .string σ, .slice sl n m] 24)
        have hz4 := Lib.hid (show (w6.alloc (.cells #[.int .i64 1, .string t, .slice none 0 0, .int .i64 kd, .string σ, .slice sl n m] 24)).heap.size = w6.heap.size + 1 by simp)
        have hA4 := (heap_alloc_old w6 (.cells #[.int .i64 1, .string t, .slice none 0 0, .int .i64 kd, .string σ, .slice sl n m] 24) (by have q0 := hz6.out; omega)).trans hX6
        generalize hw4 : w6.alloc (.cells #[.int .i64 1, .string t, .slice none 0 0, .int .i64 kd, .string σ, .slice sl n m] 24) = w4 at *
        clear hw4
        refine Mix.plan_one (by simp only [Mix.nth]; rfl) (fun K hK => ?_)
        go_simp
        refine hK _ _ (Kp.of fun k hk => by subst hk; exact hb4.block _ hl0) ?_
        clear hK K
        refine Mix.plan_done ?_
        simp only [List.drop_succ_cons]
        obtain ⟨a0, a1, a2, a3, a4, a5⟩ := obj3 hA4
        go_wp2_with fail
        go_meet
        exact ⟨_, _, rfl, LW.made (hB.trans (hb4.mono hB.size)) ((hb4.block _ hl0).trans hX1) hA4 hX4 (by have q0 := hz6.out; have q1 := hz4.out; omega) (by have q0 := hz6.out; have q1 := hz4.out; omega)⟩
    · go_simp
      refine hK _ _ (Kp.of fun k hk => by subst hk; exact (heap_alloc_old w0 _ (Nat.lt_of_lt_of_le hl0 hb0.size)).trans (hb0.block _ hl0)) ?_
      clear hK K
      have hb6 : Below w1.heap.size w1 (w0.alloc (.cells #[.int .i64 0, .string ⟨#[]⟩, .slice none 0 0] 24)) := hb0.alloc hb0.size _
      have hX6 := heap_alloc_new w0 (.cells #[.int .i64 0, .string ⟨#[]⟩, .slice none 0 0] 24)
      have hz6 := Lib.hid (show (w0.alloc (.cells #[.int .i64 0, .string ⟨#[]⟩, .slice none 0 0] 24)).heap.size = w0.heap.size + 1 by simp)
      have hg6 : w0.heap.size < (w0.alloc (.cells #[.int .i64 0, .string ⟨#[]⟩, .slice none 0 0] 24)).heap.size := by simp
      have hl6 := Nat.lt_of_lt_of_le hl0 hb0.size
      generalize hw6 : w0.alloc (.cells #[.int .i64 0, .string ⟨#[]⟩, .slice none 0 0] 24) = w6 at *
      clear hw6
      refine Mix.plan_one (by simp only [Mix.nth]; rfl) (fun K hK => ?_)
      go_simp
      refine (ltext_any t _).mono ?_
      rintro e w2 ⟨rfl, hq2⟩
      have hb2 : Below w1.heap.size w1 w2 := hb6.trans (hq2.mono hb6.size)
      have hz2 := hq2.size
      refine hK _ _ (Kp.of fun k hk => by subst hk; exact hb2.block _ hl0) ?_
      clear hK K
      refine Mix.plan_one (by simp only [Mix.nth]; rfl) (fun K hK => ?_)
      go_simp
      refine hK _ _ (Kp.of fun k hk => by subst hk; exact (heap_alloc_old w2 _ (Nat.lt_of_lt_of_le hl0 hb2.size)).trans (hb2.block _ hl0)) ?_
      clear hK K
      have hb4 : Below w1.heap.size w1 (w2.alloc (.cells #[.int .i64 1, .string t, .slice none 0 0, .int .i64 kd, .string σ, .slice sl n m] 24)) := hb2.alloc hb2.size _
      have hX4 := heap_alloc_new w2 (.cells #[.int .i64 1, .string t, .slice none 0 0, .int .i64 kd, .string σ, .slice sl n m] 24)
      have hz4 := Lib.hid (show (w2.alloc (.cells #[.int .i64 1, .string t, .slice none 0 0, .int .i64 kd, .string σ, .slice sl n m] 24)).heap.size = w2.heap.size + 1 by simp)
      have hA4 := (heap_alloc_old w2 (.cells #[.int .i64 1, .string t, .slice none 0 0, .int .i64 kd, .string σ, .slice sl n m] 24) (by have q0 := hz6.out; omega)).trans ((hq2.block _ (by have q0 := hz6.out; omega)).trans hX6)
      generalize hw4 : w2.alloc (.cells #[.int .i64 1, .string t, .slice none 0 0, .int .i64 kd, .string σ, .slice sl n m] 24) = w4 at *
      clear hw4
      refine Mix.plan_one (by simp only [Mix.nth]; rfl) (fun K hK => ?_)
      go_simp
      refine hK _ _ (Kp.of fun k hk => by subst hk; exact hb4.block _ hl0) ?_
      clear hK K
      refine Mix.plan_done ?_
      simp only [List.drop_succ_cons]
      obtain ⟨a0, a1, a2, a3, a4, a5⟩ := obj3 hA4
      go_wp2_with fail
      go_meet
      exact ⟨_, _, rfl, LW.made (hB.trans (hb4.mono hB.size)) ((hb4.block _ hl0).trans hX1) hA4 hX4 (by have q0 := hz6.out; have q1 := hz4.out; omega) (by have q0 := hz6.out; have q1 := hz4.out; omega)⟩
  obtain ⟨A, B, rfl, hL⟩ := hcut
  rename_i wc
  clear hB hX1
  have hBW := hL.below
  have hQ := Below.refl wc.heap.size wc
  have HC := Lib.hid (fun (w : World) (hb : Below wc.heap.size wc w) => And.intro (obj3 (hL.keep hb).bx) (obj3 (hL.keep hb).let_))
  obtain ⟨⟨c0, c1, c2, -, -, -⟩, d0, d1, d2, -, -, -⟩ := HC.out _ hQ
  have hrep := hL.rep HR.out
  have HS := Lib.hid (fun (w : World) (hb : Below wc.heap.size wc w) => hrep.move (W' := w) (S' := fun b => b < wc.heap.size) fun k hk => ⟨hk, hb.block k hk⟩)
  have hw := weigh_any HLX.out wc (fun b => b < wc.heap.size) _ 4096 (by decide) (by decide) (fun k hk => hk) hrep
  have HL := Lib.hid hL
  clear hrep hL
  by_cases hneg : weigh (.mk 5 y [.mk 1 t [], x]) 4096 0 < 0
  · go_wp2_with (first
      | (go_at_call 11; with_reducible refine hw.mono ?_; rintro e w5 ⟨he, hb9⟩; subst he; replace hQ := hQ.trans (hb9.mono hQ.size); clear c0 c1 c2 d0 d1 d2; obtain ⟨⟨c0, c1, c2, -, -, -⟩, d0, d1, d2, -, -, -⟩ := HC.out _ hQ; clear hb9))
    go_ret
    exact ⟨rfl, hBW.trans (hQ.mono hBW.size)⟩
  have hsz := (weigh_le (.mk 5 y [.mk 1 t [], x]) 4096 0).2 (by omega)
  have hsz2 : sizeW (.mk 5 y [.mk 1 t [], x]) ≤ 20000 := by omega
  have hsz3 : sizeW x + t.size ≤ 4094 := by
    have e : sizeW (.mk 5 y [.mk 1 t [], x]) = 1 + y.size + (1 + t.size + 0 + (sizeW x + 0)) := by
      rw [sizeW, sizeWs, sizeWs, sizeWs, sizeW, sizeWs]
    rw [e] at hsz
    omega
  have HGD := Lib.hid (fun (w : World) (hb : Below wc.heap.size wc w) => good_any HLX.out hsz2 w (fun b => b < wc.heap.size) _ (fun k hk => Nat.lt_of_lt_of_le hk hb.size) (HS.out w hb))
  have HSZ := Lib.hid (And.intro hsz2 hsz3)
  clear hsz hsz2 hsz3
  cases hgd : goodE (.mk 5 y [.mk 1 t [], x]) with
  | false =>
    rw [hgd] at HGD
    clear hgd
    go_wp2_with (first
      | (go_at_call 11; with_reducible refine hw.mono ?_; rintro e w5 ⟨he, hb9⟩; subst he; replace hQ := hQ.trans (hb9.mono hQ.size); clear c0 c1 c2 d0 d1 d2; obtain ⟨⟨c0, c1, c2, -, -, -⟩, d0, d1, d2, -, -, -⟩ := HC.out _ hQ; clear hb9)
      | (go_at_call 17; with_reducible refine (HGD.out _ hQ).mono ?_; rintro e w6 ⟨he, hb9⟩; subst he; replace hQ := hQ.trans (hb9.mono hQ.size); clear c0 c1 c2 d0 d1 d2; obtain ⟨⟨c0, c1, c2, -, -, -⟩, d0, d1, d2, -, -, -⟩ := HC.out _ hQ; clear hb9))
    go_ret
    exact ⟨rfl, hBW.trans (hQ.mono hBW.size)⟩
  | true =>
    rw [hgd] at HGD
    by_cases h256 : 256 < t.size
    · clear hgd
      go_wp2_with (first
        | (go_at_call 11; with_reducible refine hw.mono ?_; rintro e w5 ⟨he, hb9⟩; subst he; replace hQ := hQ.trans (hb9.mono hQ.size); clear c0 c1 c2 d0 d1 d2; obtain ⟨⟨c0, c1, c2, -, -, -⟩, d0, d1, d2, -, -, -⟩ := HC.out _ hQ; clear hb9)
        | (go_at_call 17; with_reducible refine (HGD.out _ hQ).mono ?_; rintro e w6 ⟨he, hb9⟩; subst he; replace hQ := hQ.trans (hb9.mono hQ.size); clear c0 c1 c2 d0 d1 d2; obtain ⟨⟨c0, c1, c2, -, -, -⟩, d0, d1, d2, -, -, -⟩ := HC.out _ hQ; clear hb9))
      go_ret
      exact ⟨rfl, hBW.trans (hQ.mono hBW.size)⟩
    have hgx : goodE x = true := good_kids hgd x (by simp)
    have HV := Lib.hid (fun (w : World) (hb : Below wc.heap.size wc w) => eval_any HLX.out HSZ.out.1 w (fun b => b < wc.heap.size) _ (fun k hk => Nat.lt_of_lt_of_le hk hb.size) (HS.out w hb))
    have HP := Lib.hid (fun (w : World) (hb : Below wc.heap.size wc w) => put_any2 y t HX.out (by have := HSZ.out.2; omega) w (fun b => b < wc.heap.size) _ (fun k hk => Nat.lt_of_lt_of_le hk hb.size) (HR.out.move (W' := w) (S' := fun b => b < wc.heap.size) fun k hk => ⟨Nat.lt_of_lt_of_le hk HL.out.below.size, (HL.out.below.trans (hb.mono HL.out.below.size)).block k hk⟩))
    have HVP := Lib.hid (fun (w : World) (v : Value) (h : RepX w (fun b => b < w.heap.size) (putE y t x) v) => put_eval y t HX.out (by omega) HSZ.out.2 w v h)
    have hme : evalP (.mk 5 y [.mk 1 t [], x]) = ans (shift 2 (mean (putE y t x) [] 0)) := by rw [eval_ans hgd, let_law hgx (by omega)]
    have hmp : evalP (putE y t x) = ans (mean (putE y t x) [] 0) := eval_ans (good_put y t hgx)
    have hrg := mean_rg (putE y t x) [] 0 (by decide)
    have hsh := ans_shift hrg 2
    have hcn := ans_cnt (mean (putE y t x) [] 0)
    have h52 : (ans (mean (putE y t x) [] 0)).2.2 = 52 → cnt (mean (putE y t x) [] 0) = 1000 := fun h => by
      obtain ⟨k, hk⟩ := ans_52 h
      rw [hk] at hrg ⊢
      exact hrg.2.2 k rfl
    unfold evalV at HV HVP
    rw [hme] at HV
    rw [hmp] at HVP
    have hrn := hrg.2.1
    clear hme hmp hrg hgx hgd
    generalize shift 2 (mean (putE y t x) [] 0) = Z at *
    generalize ans (mean (putE y t x) [] 0) = Y at *
    generalize cnt (mean (putE y t x) [] 0) = nn at *
    obtain ⟨u, j, g⟩ := Y
    dsimp only at hcn h52
    subst hcn
    by_cases hov : 1000 < 2 + j
    · rw [hsh.1 hov] at HV
      have hov2 : (1000 : Int) ≤ (j : Int) + 2 := by omega
      clear hsh hov h52
      go_wp2_with (first
        | (go_at_call 11; with_reducible refine hw.mono ?_; rintro e w5 ⟨he, hb9⟩; subst he; replace hQ := hQ.trans (hb9.mono hQ.size); clear c0 c1 c2 d0 d1 d2; obtain ⟨⟨c0, c1, c2, -, -, -⟩, d0, d1, d2, -, -, -⟩ := HC.out _ hQ; clear hb9)
        | (go_at_call 17; with_reducible refine (HGD.out _ hQ).mono ?_; rintro e w6 ⟨he, hb9⟩; subst he; replace hQ := hQ.trans (hb9.mono hQ.size); clear c0 c1 c2 d0 d1 d2; obtain ⟨⟨c0, c1, c2, -, -, -⟩, d0, d1, d2, -, -, -⟩ := HC.out _ hQ; clear hb9)
        | (go_at_call 19; with_reducible refine (HP.out _ hQ).mono ?_; rintro e w8 ⟨v8, he, hr8, hb9⟩; subst he; have hr8' := hr8.sub (S' := fun b => b < w8.heap.size) (fun b hb => by have h1 := hQ.size; have h2 := hb9.size; rcases hb with hb | hb; exact Nat.lt_of_lt_of_le hb (by omega); exact hb.2); replace hQ := hQ.trans (hb9.mono hQ.size); clear c0 c1 c2 d0 d1 d2; obtain ⟨⟨c0, c1, c2, -, -, -⟩, d0, d1, d2, -, -, -⟩ := HC.out _ hQ; clear hb9; clear hr8)
        | (go_at_call 12; with_reducible refine (HVP.out _ _ hr8').mono ?_; rintro e w9 ⟨he, hb9⟩; subst he; replace hQ := hQ.trans (hb9.mono hQ.size); clear hb9)
        | (go_at_call 12; with_reducible refine (HV.out _ hQ).mono ?_; rintro e w7 ⟨he, hb9⟩; subst he; replace hQ := hQ.trans (hb9.mono hQ.size); clear c0 c1 c2 d0 d1 d2; obtain ⟨⟨c0, c1, c2, -, -, -⟩, d0, d1, d2, -, -, -⟩ := HC.out _ hQ; clear hb9))
      go_ret
      exact ⟨rfl, hBW.trans (hQ.mono hBW.size)⟩
    · rw [hsh.2 hov] at HV
      have hg : (g == 52) = false := beq_eq_false_iff_ne.2 fun e => by have := h52 e; omega
      have hj2 : ((j + 2 : Nat) : Int) = (j : Int) + 2 := by push_cast; rfl
      simp only [hj2] at HV
      clear hsh hov h52 hj2
      go_wp2_with (first
        | (go_at_call 11; with_reducible refine hw.mono ?_; rintro e w5 ⟨he, hb9⟩; subst he; replace hQ := hQ.trans (hb9.mono hQ.size); clear c0 c1 c2 d0 d1 d2; obtain ⟨⟨c0, c1, c2, -, -, -⟩, d0, d1, d2, -, -, -⟩ := HC.out _ hQ; clear hb9)
        | (go_at_call 17; with_reducible refine (HGD.out _ hQ).mono ?_; rintro e w6 ⟨he, hb9⟩; subst he; replace hQ := hQ.trans (hb9.mono hQ.size); clear c0 c1 c2 d0 d1 d2; obtain ⟨⟨c0, c1, c2, -, -, -⟩, d0, d1, d2, -, -, -⟩ := HC.out _ hQ; clear hb9)
        | (go_at_call 19; with_reducible refine (HP.out _ hQ).mono ?_; rintro e w8 ⟨v8, he, hr8, hb9⟩; subst he; have hr8' := hr8.sub (S' := fun b => b < w8.heap.size) (fun b hb => by have h1 := hQ.size; have h2 := hb9.size; rcases hb with hb | hb; exact Nat.lt_of_lt_of_le hb (by omega); exact hb.2); replace hQ := hQ.trans (hb9.mono hQ.size); clear c0 c1 c2 d0 d1 d2; obtain ⟨⟨c0, c1, c2, -, -, -⟩, d0, d1, d2, -, -, -⟩ := HC.out _ hQ; clear hb9; clear hr8)
        | (go_at_call 12; with_reducible refine (HVP.out _ _ hr8').mono ?_; rintro e w9 ⟨he, hb9⟩; subst he; replace hQ := hQ.trans (hb9.mono hQ.size); clear hb9)
        | (go_at_call 12; with_reducible refine (HV.out _ hQ).mono ?_; rintro e w7 ⟨he, hb9⟩; subst he; replace hQ := hQ.trans (hb9.mono hQ.size); clear c0 c1 c2 d0 d1 d2; obtain ⟨⟨c0, c1, c2, -, -, -⟩, d0, d1, d2, -, -, -⟩ := HC.out _ hQ; clear hb9))
      go_ret
      exact ⟨rfl, hBW.trans (hQ.mono hBW.size)⟩
end Ev
end Go.Proofs.YtflhmoelenmomaaGreatDoor
