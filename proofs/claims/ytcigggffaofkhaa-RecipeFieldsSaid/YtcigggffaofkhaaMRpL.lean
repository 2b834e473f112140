/-
  Walks: great; the law RecipePrints. (printed by gen_RpL.py)
-/
import Derived.Test.YtcigggffaofkhaaMRpK
import Derived.Test.YtcigggffaofkhaaMRrU
namespace Go.Proofs.Ytcigggffaofkhaa
open Go.RowKit
namespace Rc

/-- what is left of a budget when a recipe's weight is taken away -/
def gF (l : List (Int × E × E)) (m : Int) : Int := l.foldl (fun m f => if m < 0 then m else weigh f.2.2 (weigh f.2.1 m 0) 0) m
theorem gF_neg {l : List (Int × E × E)} {m : Int} (h : m < 0) : gF l m = m := by
  induction l with
  | nil => rfl
  | cons f l ih => unfold gF at *; rw [List.foldl_cons, if_pos h]; exact ih
theorem gF_take {l : List (Int × E × E)} {k : Nat} {t : Int × E × E} {m : Int} (h : l[k]? = some t) (hn : ¬ gF (l.take k) m < 0) : gF (l.take (k + 1)) m = weigh t.2.2 (weigh t.2.1 (gF (l.take k) m) 0) 0 := by
  obtain ⟨hk, e⟩ := List.getElem?_eq_some_iff.1 h
  unfold gF at *
  rw [List.take_succ_eq_append_getElem hk, e, List.foldl_append, List.foldl_cons, List.foldl_nil, if_neg hn]
theorem gF_le (l : List (Int × E × E)) : ∀ m : Int, gF l m ≤ max m (-1) ∧ (0 ≤ gF l m → gF l m ≤ m ∧ ∀ f ∈ l, (sizeW f.2.1 : Int) ≤ m ∧ (sizeW f.2.2 : Int) ≤ m) := by
  induction l with
  | nil => intro m; unfold gF; exact ⟨by show m ≤ _; omega, fun _ => ⟨Int.le_refl _, by simp⟩⟩
  | cons f l ih =>
    intro m
    by_cases hm : m < 0
    · rw [gF_neg hm]; exact ⟨by omega, fun h => by omega⟩
    · have e : gF (f :: l) m = gF l (weigh f.2.2 (weigh f.2.1 m 0) 0) := by unfold gF; rw [List.foldl_cons, if_neg hm]
      rw [e]
      have h1 := weigh_le f.2.1 m 0
      have h2 := weigh_le f.2.2 (weigh f.2.1 m 0) 0
      have h3 := ih (weigh f.2.2 (weigh f.2.1 m 0) 0)
      refine ⟨by omega, fun h => ?_⟩
      obtain ⟨a, b⟩ := h3.2 h
      have h4 := h2.2 (by omega)
      have h5 := h1.2 (by omega)
      refine ⟨by omega, fun g hg => ?_⟩
      rcases List.mem_cons.1 hg with rfl | hg
      · omega
      · have := b g hg; omega
/-- light enough to be walked -/
def Wt (x : Src) : Prop := sizeW x.name ≤ 16384 ∧ sizeW x.version ≤ 16384 ∧ x.fields.length ≤ 100 ∧ ∀ f ∈ x.fields, sizeW f.2.1 ≤ 16384 ∧ sizeW f.2.2 ≤ 16384
theorem wt_of {x : Src} (h0 : 0 ≤ gF x.fields (weigh x.version (weigh x.name 16384 0) 0)) (hl : x.fields.length ≤ 100) : Wt x := by
  have h1 := weigh_le x.name 16384 0
  have h2 := weigh_le x.version (weigh x.name 16384 0) 0
  obtain ⟨h3, h4⟩ := gF_le x.fields (weigh x.version (weigh x.name 16384 0) 0)
  obtain ⟨a, b⟩ := h4 h0
  have h5 := h2.2 (by omega)
  have h6 := h1.2 (by omega)
  exact ⟨by omega, by omega, hl, fun f hf => by have := b f hf; omega⟩
theorem lim_of {x : Src} (h : SmlS x) (w : Wt x) : Lim x := by
  obtain ⟨a, b, c, d⟩ := h
  obtain ⟨e, f, g, i⟩ := w
  exact ⟨a, b, by omega, by omega, c, fun t ht => ⟨(d t ht).1, (d t ht).2.1, (d t ht).2.2, by have := i t ht; omega, by have := i t ht; omega⟩⟩
theorem wfold_lo {x : E} (hx : Sml x) {m : Int} (h : -140737488355330 ≤ m) : -300000000000000 ≤ weigh x m 0 := by
  have := weigh_ge hx m 0
  omega
/-- what great answers -/
def GT (W : World) (x : Src) (e : Ending) (W' : World) : Prop := ∃ g, e = .returned (.bool g) ∧ (g = false → Wt x) ∧ Below W.heap.size W W'
set_option maxHeartbeats 4000000 in
set_option maxRecDepth 100000 in
theorem great_any {x : Src} (hx : SmlS x) (W : World) (S : Nat → Prop) (v : Value) (hS : ∀ b, S b → b < W.heap.size) (hr : RepR W S x v) : Calls Try.prog 16 #[v] W fun e W' => GT W x e W' := by
  obtain ⟨k1, σ1, sl1, n1, c1, k2, σ2, sl2, n2, c2, sl, n, c, rfl, rn, rv, rf, -⟩ := hr
  obtain ⟨s1, s2, s3, s4⟩ := hx
  have hq := QV.start W #[.int .i64 k1, .string σ1, .slice sl1 n1 c1, .int .i64 k2, .string σ2, .slice sl2 n2 c2, .slice sl n c]
  have HS := Lib.hid hS
  have HF := Lib.hid rf
  have HT := Lib.hid s4
  have hnn := Lib.hid rf.1
  have hn0 : n ≤ 140737488355328 := by rw [rf.1]; exact s3
  have a0 := obj_cell (i := 0) hq.bx rfl
  have a1 := obj_cell (i := 1) hq.bx rfl
  have a2 := obj_cell (i := 2) hq.bx rfl
  have a3 := obj_cell (i := 3) hq.bx rfl
  have a4 := obj_cell (i := 4) hq.bx rfl
  have a5 := obj_cell (i := 5) hq.bx rfl
  have a6 := obj_cell (i := 6) hq.bx rfl
  have hz1 := weigh_ge s1 16384 0
  have hz2 := weigh_le x.name 16384 0
  have hz3 := weigh_ge s2 (weigh x.name 16384 0) 0
  have hz4 := weigh_le x.version (weigh x.name 16384 0) 0
  obtain ⟨X, hXe⟩ : ∃ X, X = W.alloc (.cells #[.int .i64 k1, .string σ1, .slice sl1 n1 c1, .int .i64 k2, .string σ2, .slice sl2 n2 c2, .slice sl n c] 29) := ⟨_, rfl⟩
  have hk1 : ∀ Y, Calls Try.prog 37 #[.agg #[.int .i64 k1, .string σ1, .slice sl1 n1 c1], .int .i64 16384, .int .i64 0] (Sx.ext X Y) fun e W' => e = .returned (.int .i64 (weigh x.name 16384 0)) ∧ Below (Sx.ext X Y).heap.size (Sx.ext X Y) W' := fun Y => by
    rw [← hXe] at hq
    exact weigh_any s1 _ S _ 16384 (by decide) (by decide) (fun b hb => Nat.lt_of_lt_of_le (hS b hb) (Nat.le_trans hq.below.size (Sx.ext_below X Y).size)) (rn.move fun b hb => ⟨hb, ((Sx.ext_below X Y).block b (Nat.lt_of_lt_of_le (hS b hb) hq.below.size)).trans (hq.below.block b (hS b hb))⟩)
  have hk2 : ∀ Y, Calls Try.prog 37 #[.agg #[.int .i64 k2, .string σ2, .slice sl2 n2 c2], .int .i64 (weigh x.name 16384 0), .int .i64 0] (Sx.ext X Y) fun e W' => e = .returned (.int .i64 (weigh x.version (weigh x.name 16384 0) 0)) ∧ Below (Sx.ext X Y).heap.size (Sx.ext X Y) W' := fun Y => by
    rw [← hXe] at hq
    exact weigh_any s2 _ S _ _ (by omega) (by omega) (fun b hb => Nat.lt_of_lt_of_le (hS b hb) (Nat.le_trans hq.below.size (Sx.ext_below X Y).size)) (rv.move fun b hb => ⟨hb, ((Sx.ext_below X Y).block b (Nat.lt_of_lt_of_le (hS b hb) hq.below.size)).trans (hq.below.block b (hS b hb))⟩)
  have HW0 := Lib.hid (show -300000000000000 ≤ weigh x.version (weigh x.name 16384 0) 0 ∧ weigh x.version (weigh x.name 16384 0) 0 ≤ 16384 by omega)
  have HWT := Lib.hid (fun h => wt_of (x := x) h)
  clear hz1 hz2 hz3 hz4 s1 s2 s3 s4 rn rv rf hS
  generalize weigh x.version (weigh x.name 16384 0) 0 = m0 at *
  generalize weigh x.name 16384 0 = m00 at *
  rw [← hXe] at hq a0 a1 a2 a3 a4 a5 a6
  go_enter Try.func16, Try.ntmps16
  go_wp2_with fail
  change Code.wp _ _ _ _ (W.alloc (.cells #[.int .i64 k1, .string σ1, .slice sl1 n1 c1, .int .i64 k2, .string σ2, .slice sl2 n2 c2, .slice sl n c] 29))
  rw [← hXe]
  clear hXe
  have q0 := Sx.ext_cell a0
  have q1 := Sx.ext_cell a1
  have q2 := Sx.ext_cell a2
  have q3 := Sx.ext_cell a3
  have q4 := Sx.ext_cell a4
  have q5 := Sx.ext_cell a5
  clear a0 a1 a2 a3 a4 a5 a6
  refine Sx.wp_region_ext (X := X) (by kernel_rfl) (by kernel_rfl) ?_
  repeat (go_big_quiet_step ((go_at_call 37; first | with_reducible exact Sx.calls_ext (hk1 _) | with_reducible exact Sx.calls_ext (hk2 _))))
  refine wpQuiet_nil ?_
  intro _ hw'
  obtain ⟨Y, hw''⟩ := hw'
  subst hw''
  replace hq := hq.keep (Sx.ext_below X Y)
  clear hk1 hk2 q0 q1 q2 q3 q4 q5
  generalize Sx.ext X Y = wo at *
  go_wp2_with fail
  go_loopw [3, 4] (fun l i w => ∃ (k : Nat) (m : Int), k ≤ n ∧ k ≤ 100 ∧ i = .int .i64 k ∧ l = .int .i64 m ∧ m = gF (x.fields.take k) m0 ∧ m ≤ 16384 ∧ -600000000000000 ≤ m ∧ QV W w #[.int .i64 k1, .string σ1, .slice sl1 n1 c1, .int .i64 k2, .string σ2, .slice sl2 n2 c2, .slice sl n c]) (fun _ i _ => 101 - (intOf i).toNat)
  case atStart => exact ⟨0, m0, Nat.zero_le _, Nat.zero_le _, rfl, rfl, rfl, HW0.out.2, by have := HW0.out.1; omega, hq⟩
  case round =>
    obtain ⟨k, m, hk, hk2, rfl, rfl, hm, hm2, hm3, hq'⟩ := hrel
    have HM := Lib.hid hm
    clear hq hm
    have hq := hq'
    clear hq'
    have a0 := obj_cell (i := 0) hq.bx rfl
    have a1 := obj_cell (i := 1) hq.bx rfl
    have a2 := obj_cell (i := 2) hq.bx rfl
    have a3 := obj_cell (i := 3) hq.bx rfl
    have a4 := obj_cell (i := 4) hq.bx rfl
    have a5 := obj_cell (i := 5) hq.bx rfl
    have a6 := obj_cell (i := 6) hq.bx rfl
    by_cases hlt : k < n
    · have j1 : decide ((k : Int) < (n : Int)) = true := by simp; omega
      by_cases hneg : m < 0
      · have j2 : decide ((0 : Int) ≤ m) = false := by simp; omega
        have j3 : decide (m < (0 : Int)) = true := by simp; omega
        clear hneg
        go_wp2_with fail
        go_ret
        exact ⟨true, rfl, (fun h => by cases h), hq.below⟩
      · have j2 : decide ((0 : Int) ≤ m) = true := by simp; omega
        have j3 : decide (m < (0 : Int)) = false := by simp; omega
        by_cases h100 : k < 100
        · have j4 : decide ((k : Int) < (100 : Int)) = true := by simp; omega
          obtain ⟨t, ht⟩ : ∃ t, x.fields[k]? = some t := ⟨x.fields[k]'(by rw [← hnn.out]; exact hlt), List.getElem?_eq_getElem _⟩
          obtain ⟨bk, o, q, rfl, hbl, hqf, hcs⟩ := HF.out.2 k t ht
          have HFW := Lib.hid (HT.out t (List.mem_of_getElem? ht))
          obtain ⟨q1, ⟨q2, q3, q4⟩, q5, q6, q7⟩ := q
          obtain ⟨y1, y2, y3⟩ := hqf
          simp only at y1 y2 y3
          obtain ⟨u1, τ1, vl1, e1, d1, hv⟩ := y2.vals
          simp only [Value.agg.injEq, Array.mk.injEq, List.cons.injEq, and_true] at hv
          obtain ⟨rfl, rfl, rfl⟩ := hv
          obtain ⟨u2, τ2, vl2, e2, d2, hv⟩ := y3.vals
          simp only [Value.agg.injEq, Array.mk.injEq, List.cons.injEq, and_true] at hv
          obtain ⟨rfl, rfl, rfl⟩ := hv
          subst y1
          have g1 := Sx.ext_cell ((hq.below.cell (p := ⟨bk, o + k * 7 + 1, none⟩) (HS.out bk hbl)).trans (hcs 1 _ rfl))
          have g2 := Sx.ext_cell ((hq.below.cell (p := ⟨bk, o + k * 7 + 2, none⟩) (HS.out bk hbl)).trans (hcs 2 _ rfl))
          have g3 := Sx.ext_cell ((hq.below.cell (p := ⟨bk, o + k * 7 + 3, none⟩) (HS.out bk hbl)).trans (hcs 3 _ rfl))
          have g4 := Sx.ext_cell ((hq.below.cell (p := ⟨bk, o + k * 7 + 4, none⟩) (HS.out bk hbl)).trans (hcs 4 _ rfl))
          have g5 := Sx.ext_cell ((hq.below.cell (p := ⟨bk, o + k * 7 + 5, none⟩) (HS.out bk hbl)).trans (hcs 5 _ rfl))
          have g6 := Sx.ext_cell ((hq.below.cell (p := ⟨bk, o + k * 7 + 6, none⟩) (HS.out bk hbl)).trans (hcs 6 _ rfl))
          have HTK := Lib.hid (gF_take ht (m := m0) (by rw [← HM.out]; exact hneg))
          rw [← HM.out] at HTK
          clear hcs ht
          have hz1 := weigh_ge HFW.out.2.1 m 0
          have hz2 := weigh_le t.2.1 m 0
          have hz3 := weigh_ge HFW.out.2.2 (weigh t.2.1 m 0) 0
          have hz4 := weigh_le t.2.2 (weigh t.2.1 m 0) 0
          have hk1 : ∀ Y, Calls Try.prog 37 #[.agg #[.int .i64 u1, .string τ1, .slice vl1 e1 d1], .int .i64 m, .int .i64 0] (Sx.ext wr Y) fun e W' => e = .returned (.int .i64 (weigh t.2.1 m 0)) ∧ Below (Sx.ext wr Y).heap.size (Sx.ext wr Y) W' := fun Y =>
            weigh_any HFW.out.2.1 _ S _ m (by omega) (by omega) (fun b hb => Nat.lt_of_lt_of_le (HS.out b hb) (Nat.le_trans hq.below.size (Sx.ext_below wr Y).size)) (y2.move fun b hb => ⟨hb, ((Sx.ext_below wr Y).block b (Nat.lt_of_lt_of_le (HS.out b hb) hq.below.size)).trans (hq.below.block b (HS.out b hb))⟩)
          have hk2 : ∀ Y, Calls Try.prog 37 #[.agg #[.int .i64 u2, .string τ2, .slice vl2 e2 d2], .int .i64 (weigh t.2.1 m 0), .int .i64 0] (Sx.ext wr Y) fun e W' => e = .returned (.int .i64 (weigh t.2.2 (weigh t.2.1 m 0) 0)) ∧ Below (Sx.ext wr Y).heap.size (Sx.ext wr Y) W' := fun Y =>
            weigh_any HFW.out.2.2 _ S _ _ (by omega) (by omega) (fun b hb => Nat.lt_of_lt_of_le (HS.out b hb) (Nat.le_trans hq.below.size (Sx.ext_below wr Y).size)) (y3.move fun b hb => ⟨hb, ((Sx.ext_below wr Y).block b (Nat.lt_of_lt_of_le (HS.out b hb) hq.below.size)).trans (hq.below.block b (HS.out b hb))⟩)
          have HZ := Lib.hid (show weigh t.2.2 (weigh t.2.1 m 0) 0 ≤ 16384 ∧ -600000000000000 ≤ weigh t.2.2 (weigh t.2.1 m 0) 0 by omega)
          have hkw : IntKind.i64.wrap ((k : Int) + 1) = (k : Int) + 1 := IntWalk.i64_in _ (by omega)
          clear hz1 hz2 hz3 hz4 y2 y3 hneg
          generalize weigh t.2.2 (weigh t.2.1 m 0) 0 = m2 at *
          generalize weigh t.2.1 m 0 = m1 at *
          have s6 := Sx.ext_cell a6
          go_wp2_with fail
          clear a0 a1 a2 a3 a4 a5 a6
          refine Sx.wp_region_ext (X := wr) (by kernel_rfl) (by kernel_rfl) ?_
          repeat (go_big_quiet_step ((go_at_call 37; first | with_reducible exact Sx.calls_ext (hk1 _) | with_reducible exact Sx.calls_ext (hk2 _))))
          refine wpQuiet_nil ?_
          intro _ hw'
          obtain ⟨Y, hw''⟩ := hw'
          subst hw''
          replace hq := hq.keep (Sx.ext_below wr Y)
          clear hk1 hk2 s6 g1 g2 g3 g4 g5 g6
          generalize Sx.ext wr Y = w9 at *
          go_wp2_with fail
          go_roundw
          case rel => exact ⟨k + 1, m2, by omega, by omega, by go_num, rfl, HTK.out.symm, HZ.out.1, HZ.out.2, hq⟩
          case measure => simp [intOf]; omega
        · have j4 : decide ((k : Int) < (100 : Int)) = false := by simp; omega
          by_cases h101 : 100 < n
          · have j5 : decide ((100 : Int) < (n : Int)) = true := by simp; omega
            clear hneg h100 h101
            go_wp2_with fail
            go_ret
            exact ⟨true, rfl, (fun h => by cases h), hq.below⟩
          · omega
    · have j1 : decide ((k : Int) < (n : Int)) = false := by simp; omega
      obtain rfl : k = n := by omega
      have hnl : x.fields.take k = x.fields := List.take_of_length_le (by rw [← hnn.out]; exact Nat.le_refl _)
      rw [hnl] at HM
      clear hnl
      by_cases hneg : m < 0
      · have j3 : decide (m < (0 : Int)) = true := by simp; omega
        clear hneg
        go_wp2_with fail
        go_ret
        exact ⟨true, rfl, (fun h => by cases h), hq.below⟩
      · have j3 : decide (m < (0 : Int)) = false := by simp; omega
        have j5 : decide ((100 : Int) < (k : Int)) = false := by simp; omega
        have HF := Lib.hid (HWT.out (by rw [← HM.out]; omega) (by rw [← hnn.out]; exact hk2))
        clear hneg
        go_wp2_with fail
        go_ret
        exact ⟨false, rfl, (fun _ => HF.out), hq.below⟩
end Rc
end Go.Proofs.Ytcigggffaofkhaa
