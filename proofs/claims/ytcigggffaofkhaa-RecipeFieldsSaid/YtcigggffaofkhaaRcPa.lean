/-
  Walk: Parse.
-/
import Derived.Test.YtcigggffaofkhaaRcZ
namespace Go.Proofs.Ytcigggffaofkhaa
open Go.RowKit
namespace Rc

theorem assert_stop (v : Value) (w : World) : (Instr.typeAssert (.iface 56 v) 20 56 true).run Try.prog w = .ok (.tuple #[v, .bool true]) w := rfl
theorem drew_set (W : World) (a : Addr) (v : Value) : (W.setCell a v).drew = W.drew.setCell a v := rfl
/-- the first result is written: nothing -/
def out0 (w : World) (g0 : Nat) : World := ((((((w.setCell ⟨g0, 0, none⟩ (.int .i64 0)).setCell ⟨g0, 1, none⟩ (.string ⟨#[]⟩)).setCell ⟨g0, 2, none⟩ (.slice none 0 0)).setCell ⟨g0, 3, none⟩ (.int .i64 0)).setCell ⟨g0, 4, none⟩ (.string ⟨#[]⟩)).setCell ⟨g0, 5, none⟩ (.slice none 0 0)).setCell ⟨g0, 6, none⟩ (.slice none 0 0)
/-- the three results are written -/
def outs (w : World) (g0 g1 g2 : Nat) (p f : Int) : World := ((out0 w g0).setCell ⟨g1, 0, none⟩ (.int .i64 p)).setCell ⟨g2, 0, none⟩ (.int .i64 f)
theorem out0_heap (w : World) (g0 k : Nat) (h : k ≠ g0) : (out0 w g0).heap[k]? = w.heap[k]? := by
  unfold out0
  rw [Below.heap_setCell _ _ _ _ h, Below.heap_setCell _ _ _ _ h, Below.heap_setCell _ _ _ _ h, Below.heap_setCell _ _ _ _ h, Below.heap_setCell _ _ _ _ h, Below.heap_setCell _ _ _ _ h, Below.heap_setCell _ _ _ _ h]
theorem outs_heap (w : World) (g0 g1 g2 k : Nat) (p f : Int) (h : k ≠ g0) (h1 : k ≠ g1) (h2 : k ≠ g2) : (outs w g0 g1 g2 p f).heap[k]? = w.heap[k]? := by
  unfold outs
  rw [Below.heap_setCell _ _ _ _ h2, Below.heap_setCell _ _ _ _ h1]
  exact out0_heap w g0 k h
theorem out1_heap (w : World) (g0 g1 k : Nat) (p : Int) (h : k ≠ g0) (h1 : k ≠ g1) : ((out0 w g0).setCell ⟨g1, 0, none⟩ (.int .i64 p)).heap[k]? = w.heap[k]? := by
  rw [Below.heap_setCell _ _ _ _ h1]
  exact out0_heap w g0 k h
/-- a world in which block g is as in wr -/
noncomputable def ko (wr : World) (g : Nat) (Y : World) : World := open Classical in if Y.heap[g]? = wr.heap[g]? then Y else wr
theorem ko_cell {wr : World} {g o : Nat} {v : Value} (h : wr.cell? ⟨g, o, none⟩ = some v) (Y : World) : (ko wr g Y).cell? ⟨g, o, none⟩ = some v := by
  refine (World.cell?_of_block ?_).trans h
  unfold ko
  split
  · assumption
  · rfl
theorem ko_drew {wr Y : World} {g : Nat} (h : Y.heap[g]? = wr.heap[g]?) : ∃ Y', Y.drew = ko wr g Y' := ⟨Y.drew, by unfold ko; rw [if_pos (show Y.drew.heap[g]? = wr.heap[g]? from h)]⟩
theorem ko_of {wr Y : World} {g : Nat} (h : Y.heap[g]? = wr.heap[g]?) : ∃ Y', Y = ko wr g Y' := ⟨Y, by unfold ko; rw [if_pos h]⟩
set_option maxHeartbeats 1000000 in
theorem catch_panic (g0 g1 g2 : Nat) (p : Nat) (f : Int) (w : World) (hc : ∀ j v, zeroS[j]? = some v → ∃ u, w.cell? ⟨g0, j, none⟩ = some u) (h1 : ∃ u, w.cell? ⟨g1, 0, none⟩ = some u) (h2 : ∃ u, w.cell? ⟨g2, 0, none⟩ = some u) (f0 : ∀ j, w.frozen? ⟨g0, j, none⟩ = false) (f1 : w.frozen? ⟨g1, 0, none⟩ = false) (f2 : w.frozen? ⟨g2, 0, none⟩ = false) (n01 : g0 ≠ g1) (n02 : g0 ≠ g2) (n12 : g1 ≠ g2) :
    CallsD Try.prog 28 #[.pointer (some ⟨g0, 0, none⟩), .pointer (some ⟨g1, 0, none⟩), .pointer (some ⟨g2, 0, none⟩)] (.panicking (stopC p f)) w fun e u' w' => e = .returned (.tuple #[]) ∧ u' = .panicking [{ v := .iface 56 (.agg #[.int .i64 p, .int .i64 f]), recovered := true }] ∧
      w' = outs (w.alloc (.cells #[.int .i64 p, .int .i64 f] 56)).drew g0 g1 g2 p f := by
  have hta := assert_stop (.agg #[.int .i64 p, .int .i64 f])
  obtain ⟨u0, c0⟩ := hc 0 _ rfl
  obtain ⟨u1, c1⟩ := hc 1 _ rfl
  obtain ⟨u2, c2⟩ := hc 2 _ rfl
  obtain ⟨u3, c3⟩ := hc 3 _ rfl
  obtain ⟨u4, c4⟩ := hc 4 _ rfl
  obtain ⟨u5, c5⟩ := hc 5 _ rfl
  obtain ⟨u6, c6⟩ := hc 6 _ rfl
  obtain ⟨u7, c7⟩ := h1
  obtain ⟨u8, c8⟩ := h2
  refine callsD_of_wpS Try.func28 rfl fun d₀ cs hu => ?_
  apply wpS_seq
  apply wpS_region
  simp [wpOpsS, go_sem, recoverD, hu, stopC, Try.ntmps28, Exit.thenS]
  refine wpS_of_wp ?_
  change Code.wp _ _ _ { tmps := #[.pointer (some ⟨g0, 0, none⟩), .pointer (some ⟨g1, 0, none⟩), .pointer (some ⟨g2, 0, none⟩), undef, undef, undef, .iface 56 (.agg #[.int .i64 p, .int .i64 f]), undef, undef, undef, undef, undef, undef, undef, undef, undef, undef], defers := [] } _
  have hn := heap_alloc_new w (.cells #[.int .i64 p, .int .i64 f] 56)
  have x0 : (w.alloc (.cells #[.int .i64 p, .int .i64 f] 56)).cell? ⟨w.heap.size, 0, none⟩ = some (.int .i64 p) := by simp only [World.cell?, hn]; rfl
  have x1 : (w.alloc (.cells #[.int .i64 p, .int .i64 f] 56)).cell? ⟨w.heap.size, 1, none⟩ = some (.int .i64 f) := by simp only [World.cell?, hn]; rfl
  have k0 := ko_cell x0
  have k1 := ko_cell x1
  have n0 : w.heap.size ≠ g0 := fun e => by have := World.block_lt_of_cell? w _ c0; simp at this; omega
  have n1 : w.heap.size ≠ g1 := fun e => by have := World.block_lt_of_cell? w _ c7; simp at this; omega
  have n2 : w.heap.size ≠ g2 := fun e => by have := World.block_lt_of_cell? w _ c8; simp at this; omega
  have hal : ∀ (g j : Nat) (u : Value), w.cell? ⟨g, j, none⟩ = some u → (w.alloc (.cells #[.int .i64 p, .int .i64 f] 56)).cell? ⟨g, j, none⟩ = some u := fun g j u h =>
    (World.cell?_of_block (show (w.alloc _).heap[g]? = w.heap[g]? from heap_alloc_old w _ (World.block_lt_of_cell? w _ h))).trans h
  have haf : ∀ (g j : Nat) (u : Value), w.cell? ⟨g, 0, none⟩ = some u → (w.alloc (.cells #[.int .i64 p, .int .i64 f] 56)).frozen? ⟨g, j, none⟩ = w.frozen? ⟨g, j, none⟩ := fun g j u h =>
    World.frozen?_of_block (show (w.alloc _).heap[g]? = w.heap[g]? from heap_alloc_old w _ (World.block_lt_of_cell? w _ h))
  have d0 := hal _ _ _ c0
  have d1 := hal _ _ _ c1
  have d2 := hal _ _ _ c2
  have d3 := hal _ _ _ c3
  have d4 := hal _ _ _ c4
  have d5 := hal _ _ _ c5
  have d6 := hal _ _ _ c6
  have d7 := hal _ _ _ c7
  have d8 := hal _ _ _ c8
  have e0 := fun j => (haf _ j _ c0).trans (f0 j)
  have e1 := (haf _ 0 _ c7).trans f1
  have e2 := (haf _ 0 _ c8).trans f2
  clear hc hal haf c0 c1 c2 c3 c4 c5 c6 c7 c8 f0 f1 f2 hn
  go_wp2_with fail
  generalize hwr : w.alloc (.cells #[.int .i64 p, .int .i64 f] 56) = wr at *
  have HWR := Lib.hid hwr
  clear hwr
  refine Mix.region (fun w' => ∃ Y, w' = ko wr w.heap.size Y) 8 [1, 0, 0, 0, 0, 1, 1, 1] [true, false] (by kernel_rfl) (fun _ _ d _ _ h => by cases d <;> exact h) (by rfl) (by kernel_rfl) (ko_of rfl) ?_
  simp only [Mix.selP_cons, Mix.selP_nil, Mix.sel_cons, Mix.sel_nil, Nat.reduceBEq, Nat.reduceAdd, cond_true, cond_false, List.drop_succ_cons, List.drop_nil]
  refine Mix.parts_q ?_
  repeat (go_big_quiet_step (fail))
  refine wpQuiet_nil ?_
  refine Mix.parts_e ?_
  clear k0 k1
  refine Mix.eff_step (fun K hK => ?_)
  go_simp
  refine hK _ _ (ko_of rfl) ?_
  clear hK K
  have h0 := out0_heap wr g0 _ n0
  have h1 := out1_heap wr g0 g1 _ p n0 n1
  have h2 := outs_heap wr g0 g1 g2 _ p f n0 n1 n2
  have H0 := ko_drew h0
  have H1 := ko_drew h1
  have H2 := ko_drew h2
  clear h0 h1 h2
  generalize hC : (fun w' => ∃ Y, w' = ko wr w.heap.size Y) = C at *
  have H0 : C (out0 wr g0).drew := by rw [← hC]; exact H0
  have H1 : C ((out0 wr g0).setCell ⟨g1, 0, none⟩ (.int .i64 p)).drew := by rw [← hC]; exact H1
  have H2 : C (outs wr g0 g1 g2 p f).drew := by rw [← hC]; exact H2
  clear hC n0 n1 n2
  refine Mix.eff_step (fun K hK => ?_)
  go_simp
  refine hK _ (out0 wr g0).drew H0 ?_
  clear hK K
  have h_e7 := out0_heap wr g0 g1 (Ne.symm n01)
  have e7 := (World.cell?_of_block (a := ⟨g1, 0, none⟩) h_e7).trans d7
  have h_e8 := out0_heap wr g0 g2 (Ne.symm n02)
  have e8 := (World.cell?_of_block (a := ⟨g2, 0, none⟩) h_e8).trans d8
  have i1 := (World.frozen?_of_block (a := ⟨g1, 0, none⟩) h_e7).trans e1
  have i2 := (World.frozen?_of_block (a := ⟨g2, 0, none⟩) h_e8).trans e2
  clear h_e7 h_e8
  have HE := Lib.hid (show ∀ x y, outs wr g0 g1 g2 x y = ((out0 wr g0).setCell ⟨g1, 0, none⟩ (.int .i64 x)).setCell ⟨g2, 0, none⟩ (.int .i64 y) from fun _ _ => rfl)
  rw [HE.out] at H2
  clear H0 d0 d1 d2 d3 d4 d5 d6 d7 d8 e0 e1 e2 x0 x1
  have HR := Lib.hid (show outs wr g0 g1 g2 p f = ((out0 wr g0).setCell ⟨g1, 0, none⟩ (.int .i64 p)).setCell ⟨g2, 0, none⟩ (.int .i64 f) from HE.out _ _)
  clear HE
  generalize hw1 : out0 wr g0 = w1 at *
  clear hw1
  have H1 := Lib.hid H1
  have H2 := Lib.hid H2
  refine Mix.eff_step (fun K hK => ?_)
  go_simp
  refine hK _ _ H1.out ?_
  clear hK K
  refine Mix.eff_step (fun K hK => ?_)
  go_simp
  refine hK _ _ H2.out ?_
  clear hK K
  refine Mix.eff_nil (Mix.parts_n ?_)
  go_wp2_with fail
  refine ⟨rfl, _, rfl, .tuple #[], by simp [results, Try.results28, go_sem], rfl, rfl, ?_⟩
  rw [← HR.out]
  rw [HWR.out]
  unfold outs out0
  simp only [drew_set]
set_option maxHeartbeats 1000000 in
theorem catch_ret (g0 g1 g2 : Nat) (w : World) :
    CallsD Try.prog 28 #[.pointer (some ⟨g0, 0, none⟩), .pointer (some ⟨g1, 0, none⟩), .pointer (some ⟨g2, 0, none⟩)] .returning w fun e u' w' => e = .returned (.tuple #[]) ∧ u' = .returning ∧ w' = w := by
  refine callsD_of_wpS Try.func28 rfl fun d₀ cs hu => ?_
  apply wpS_seq
  apply wpS_region
  simp [wpOpsS, go_sem, recoverD, hu, Try.ntmps28, Exit.thenS]
  refine wpS_of_wp ?_
  go_wp2_with fail
  refine ⟨rfl, .returning, ?_, .tuple #[], by simp [results, Try.results28, go_sem], rfl, rfl, rfl⟩
  rw [← hu]
end Rc
end Go.Proofs.Ytcigggffaofkhaa
