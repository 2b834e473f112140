/-
  The law AsmLines, for every instruction.
-/
import Derived.Test.YtipcockcndnipaaDoorMAmP
namespace Go.Proofs.YtipcockcndnipaaDoor
open Go.RowKit
namespace Aw
open As

theorem ps_one (W : World) (x : Cd.I) (h0 : -9223372036854775808 ≤ x.n) (h1 : x.n ≤ 9223372036854775807) : Cd.PS (W.alloc (.cells #[.int .i64 x.op, .int .i64 x.n, .string x.s] 23)) (.slice (some ⟨W.heap.size, 0, none⟩) 1 1) [x] := by
  refine ⟨by simp, fun y hy => by rw [List.mem_singleton.1 hy]; exact ⟨h0, h1⟩, some ⟨W.heap.size, 0, none⟩, 1, rfl, fun k y hk => ?_⟩
  match k, hk with
  | 0, hk =>
    simp at hk
    subst hk
    exact ⟨W.heap.size, 0, rfl, by simp, by simp, by simp, by simp⟩
theorem ps_at {W : World} {sl : Option Addr} {n cap : Nat} {x : Cd.I} (h : Cd.PS W (.slice sl n cap) [x]) : n = 1 ∧ ∃ b o, sl = some ⟨b, o, none⟩ ∧ b < W.heap.size ∧ W.cell? ⟨b, o, none⟩ = some (.int .i64 x.op) ∧ W.cell? ⟨b, o + 1, none⟩ = some (.int .i64 x.n) ∧ W.cell? ⟨b, o + 2, none⟩ = some (.string x.s) := by
  obtain ⟨sl', cap', e, hf⟩ := h.form
  cases e
  obtain ⟨b, o, rfl, hb, h3⟩ := hf 0 x rfl
  exact ⟨rfl, b, o, rfl, hb, by simpa using h3.c0, by simpa using h3.c1, by simpa using h3.c2⟩
set_option maxHeartbeats 8000000 in
set_option maxRecDepth 100000 in
theorem lineslaw_any (x : Cd.I) (W : World) (h0 : -9223372036854775808 ≤ x.n) (h1 : x.n ≤ 9223372036854775807) (hE : Env W) :
    Calls Tryd.prog 3 #[Cd.IV x] W fun e W' => e = .returned (.bool true) ∧ Below W.heap.size W W' := by
  have hA0 : Below W.heap.size W (W.alloc (.cells #[.int .i64 x.op, .int .i64 x.n, .string x.s] 23)) := (Below.refl _ _).alloc (Nat.le_refl _) _
  have hal := alive_any _ (hE.below hA0)
  by_cases hl : 4096 < x.s.size
  · have j1 : (4096 : Int) < x.s.size := by omega
    clear hl
    go_enter Tryd.func3, Tryd.ntmps3
    go_wp2_with (first
      | (go_at_call 4; refine hal.mono ?_; clear hal; rintro e w1 ⟨rfl, hb1⟩; obtain ⟨c0, c1, c2, -, -, -⟩ := obj_three ((hb1.block W.heap.size (by simp)).trans (heap_alloc_new W _)); have hB1 := hA0.trans (hb1.mono hA0.size)))
    go_ret
    exact ⟨rfl, hB1⟩
  have j1 : ¬ (4096 : Int) < x.s.size := by omega
  have hD := fun (w : World) (h : Below W.heap.size W w) => disassemble_any [x] _ _ (ps_one w x h0 h1) (hE.below (h.trans (((Below.refl w.heap.size w).alloc (Nat.le_refl _) (.cells #[.int .i64 x.op, .int .i64 x.n, .string x.s] 23)).mono h.size)))
  unfold DQ at hD
  have HNB := Lib.hid (show ∀ y ∈ [x], -9223372036854775808 ≤ y.n ∧ y.n ≤ 9223372036854775807 from fun y hy => by rw [List.mem_singleton.1 hy]; exact ⟨h0, h1⟩)
  by_cases hc : (Cd.check [x]).2 = 0
  rotate_left
  · rw [if_neg hc] at hD
    obtain ⟨ce, hce⟩ : ∃ ce, ce = (Cd.check [x]).2 := ⟨_, rfl⟩
    rw [← hce] at hc hD
    have htt := Sx.emp_tt (a := (⟨#[]⟩ : ByteArray)) rfl
    clear hce hl
    go_enter Tryd.func3, Tryd.ntmps3
    go_wp2_with (first
      | (go_at_call 4; refine hal.mono ?_; clear hal; rintro e w1 ⟨rfl, hb1⟩; obtain ⟨c0, c1, c2, -, -, -⟩ := obj_three ((hb1.block W.heap.size (by simp)).trans (heap_alloc_new W _)); have hB1 := hA0.trans (hb1.mono hA0.size); have hA1 : Below W.heap.size W (w1.alloc (.cells #[.int .i64 x.op, .int .i64 x.n, .string x.s] 23)) := hB1.alloc hB1.size _)
      | (go_at_call 5; refine (hD _ hB1).mono ?_; clear hD; rintro e w2 ⟨rfl, hb2⟩))
    go_ret
    exact ⟨rfl, hA1.trans (hb2.mono hA1.size)⟩
  obtain ⟨hck, -, -⟩ := chk_zero hc
  have HALL := Lib.hid (right_all hc HNB.out)
  have hdl := dis_le hc HNB.out
  rw [hc, if_pos rfl] at hD
  obtain ⟨t, ht⟩ : ∃ t : ByteArray, t = ⟨(disL [x]).toArray⟩ := ⟨_, rfl⟩
  have htd : t.data.toList = disL [x] := by rw [ht]
  rw [← ht] at hD
  have htz : t.size ≤ 1000 := by rw [Lib.size_eq, htd]; simpa using hdl
  have e1 : asmP (t ++ ⟨#[59, 32, 98, 101, 104, 105, 110, 100, 32, 105, 116]⟩ : ByteArray).data.toList = ([x], 0, 0) := by
    have h9 := asm_behind hck (by simp) HALL.out [32, 98, 101, 104, 105, 110, 100, 32, 105, 116] (by decide) (by rw [List.length_append, ← htd, ← Lib.size_eq]; simp; omega)
    rw [← htd] at h9
    simpa [ByteArray.data_append] using h9
  have e2 : asmP (t.extract 0 (t.size - 1)).data.toList = ([x], 0, 0) := by
    have h9 := asm_cut (by simp) hck (by simp) HALL.out (by rw [← htd, List.length_dropLast, ← Lib.size_eq]; omega)
    rw [← htd] at h9
    rw [cut_last]
    exact h9
  have h1t : 1 ≤ t.size := by
    have h9 : (disL [x]).length ≠ 0 := by simp [disL, disF, bitL]
    rw [Lib.size_eq, htd]
    omega
  have hA1 := fun (w : World) (h : Below W.heap.size W w) => assemble_any (t ++ ⟨#[59, 32, 98, 101, 104, 105, 110, 100, 32, 105, 116]⟩) w (hE.below h)
  have hA2 := fun (w : World) (h : Below W.heap.size W w) => assemble_any (t.extract 0 (t.size - 1)) w (hE.below h)
  unfold AQ at hA1 hA2
  rw [e1] at hA1
  rw [e2] at hA2
  have m1 : ¬ 9223372036854775807 < t.size + 11 := by omega
  have w1 : IntKind.i64.wrap ((t.size : Int) - 1) = (t.size : Int) - 1 := IntWalk.i64_in _ (by omega)
  have n1 : (0 : Int) ≤ (t.size : Int) - 1 := by omega
  have t1 : ((t.size : Int) - 1).toNat = t.size - 1 := by omega
  have b3 : (t.size : Int) - 1 ≤ t.size := by omega
  have htt := Sx.seq_tt (a := x.s) (b := x.s) rfl
  clear hck hc hdl ht htd e1 e2 hl
  go_enter Tryd.func3, Tryd.ntmps3
  go_wp2_with (first
    | (go_at_call 4; refine hal.mono ?_; clear hal; rintro e w1 ⟨rfl, hb1⟩; have hx1 := (hb1.block W.heap.size (by simp)).trans (heap_alloc_new W (.cells #[.int .i64 x.op, .int .i64 x.n, .string x.s] 23)); obtain ⟨c0, c1, c2, -, -, -⟩ := obj_three hx1; have HX1 := Lib.hid hx1; clear hx1; have hB1 := hA0.trans (hb1.mono hA0.size); have hA3 : Below w1.heap.size w1 (w1.alloc (.cells #[.int .i64 x.op, .int .i64 x.n, .string x.s] 23)) := (Below.refl _ _).alloc (Nat.le_refl _) _; clear hb1)
    | (go_at_call 5; refine (hD _ hB1).mono ?_; clear hD; rintro e w2 ⟨rfl, hb2⟩; have hb12 := hA3.trans (hb2.mono hA3.size); clear hb2 hA3)
    | (go_at_call 6; refine (hA1 _ (hB1.trans (hb12.mono hB1.size))).mono ?_; clear hA1; rintro e w3 ⟨v3, rfl, hP3, hb3⟩; have hb13 := hb12.trans (hb3.mono hb12.size); obtain ⟨sl3, cp3, rfl, -⟩ := hP3.form; have HP3 := Lib.hid hP3; clear hP3 hb3)
    | (go_at_call 6; refine (hA2 _ (hB1.trans (hb13.mono hB1.size))).mono ?_; clear hA2; rintro e w4 ⟨v4, rfl, hP4, hb4⟩; have hb14 := hb13.trans (hb4.mono hb13.size); obtain ⟨sl4, cp4, rfl, -⟩ := hP4.form; have HP4 := Lib.hid hP4; obtain ⟨-, b, o, rfl, -, g0, g1, g2⟩ := ps_at hP4; obtain ⟨-, b', o', rfl, -, g3, g4, g5⟩ := ps_at (HP3.out.below hb4); obtain ⟨y0, y1, y2, -, -, -⟩ := obj_three ((hb14.block W.heap.size (Array.getElem?_eq_some_iff.1 HX1.out).1).trans HX1.out); clear hP4 hb4 c0 c1 c2))
  go_quiet (fail)
  go_wp2_with fail
  go_ret
  exact ⟨rfl, Sx.below_drewN (hB1.trans (hb14.mono hB1.size)) _⟩
end Aw
end Go.Proofs.YtipcockcndnipaaDoor
