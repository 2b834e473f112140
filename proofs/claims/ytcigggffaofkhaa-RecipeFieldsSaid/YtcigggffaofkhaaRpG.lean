/-
  Walks: Print's deferred call; what Print's memory is like.
-/
import Derived.Test.YtcigggffaofkhaaRpF
import Derived.Test.YtcigggffaofkhaaRcPc
namespace Go.Proofs.Ytcigggffaofkhaa
open Go.RowKit
namespace Rc

/-- the results are written: no text, an error -/
def outq (w : World) (g1 g2 : Nat) (f : Int) : World := (w.setCell ⟨g1, 0, none⟩ (.string ⟨#[]⟩)).setCell ⟨g2, 0, none⟩ (.int .i64 f)
set_option maxHeartbeats 1000000 in
theorem catchp_panic (g1 g2 : Nat) (p : Nat) (f : Int) (w : World) (h1 : ∃ u, w.cell? ⟨g1, 0, none⟩ = some u) (h2 : ∃ u, w.cell? ⟨g2, 0, none⟩ = some u) (f1 : w.frozen? ⟨g1, 0, none⟩ = false) (f2 : w.frozen? ⟨g2, 0, none⟩ = false) (n12 : g1 ≠ g2) :
    CallsD Try.prog 38 #[.pointer (some ⟨g1, 0, none⟩), .pointer (some ⟨g2, 0, none⟩)] (.panicking (stopC p f)) w fun e u' w' => e = .returned (.tuple #[]) ∧ u' = .panicking [{ v := .iface 56 (.agg #[.int .i64 p, .int .i64 f]), recovered := true }] ∧
      w' = outq (w.alloc (.cells #[.int .i64 p, .int .i64 f] 56)).drew g1 g2 f := by
  have hta := assert_stop (.agg #[.int .i64 p, .int .i64 f])
  obtain ⟨u7, c7⟩ := h1
  obtain ⟨u8, c8⟩ := h2
  refine callsD_of_wpS Try.func38 rfl fun d₀ cs hu => ?_
  apply wpS_seq
  apply wpS_region
  simp [wpOpsS, go_sem, recoverD, hu, stopC, Try.ntmps38, Exit.thenS]
  refine wpS_of_wp ?_
  change Code.wp _ _ _ { tmps := #[.pointer (some ⟨g1, 0, none⟩), .pointer (some ⟨g2, 0, none⟩), undef, undef, undef, .iface 56 (.agg #[.int .i64 p, .int .i64 f]), undef, undef, undef, undef, undef, undef, undef], defers := [] } _
  have hn := heap_alloc_new w (.cells #[.int .i64 p, .int .i64 f] 56)
  have x0 : (w.alloc (.cells #[.int .i64 p, .int .i64 f] 56)).cell? ⟨w.heap.size, 0, none⟩ = some (.int .i64 p) := by simp only [World.cell?, hn]; rfl
  have x1 : (w.alloc (.cells #[.int .i64 p, .int .i64 f] 56)).cell? ⟨w.heap.size, 1, none⟩ = some (.int .i64 f) := by simp only [World.cell?, hn]; rfl
  have k1 := ko_cell x1
  have n1 : w.heap.size ≠ g1 := fun e => by have := World.block_lt_of_cell? w _ c7; simp at this; omega
  have n2 : w.heap.size ≠ g2 := fun e => by have := World.block_lt_of_cell? w _ c8; simp at this; omega
  have hal : ∀ (g j : Nat) (u : Value), w.cell? ⟨g, j, none⟩ = some u → (w.alloc (.cells #[.int .i64 p, .int .i64 f] 56)).cell? ⟨g, j, none⟩ = some u := fun g j u h =>
    (World.cell?_of_block (show (w.alloc _).heap[g]? = w.heap[g]? from heap_alloc_old w _ (World.block_lt_of_cell? w _ h))).trans h
  have haf : ∀ (g j : Nat) (u : Value), w.cell? ⟨g, 0, none⟩ = some u → (w.alloc (.cells #[.int .i64 p, .int .i64 f] 56)).frozen? ⟨g, j, none⟩ = w.frozen? ⟨g, j, none⟩ := fun g j u h =>
    World.frozen?_of_block (show (w.alloc _).heap[g]? = w.heap[g]? from heap_alloc_old w _ (World.block_lt_of_cell? w _ h))
  have d7 := hal _ _ _ c7
  have d8 := hal _ _ _ c8
  have e1 := (haf _ 0 _ c7).trans f1
  have e2 := (haf _ 0 _ c8).trans f2
  clear hal haf c7 c8 f1 f2 hn
  go_wp2_with fail
  generalize hwr : w.alloc (.cells #[.int .i64 p, .int .i64 f] 56) = wr at *
  have HWR := Lib.hid hwr
  clear hwr
  refine Mix.region (fun w' => ∃ Y, w' = ko wr w.heap.size Y) 4 [0, 0, 1, 1] [true, false] (by kernel_rfl) (fun _ _ d _ _ h => by cases d <;> exact h) (by rfl) (by kernel_rfl) (ko_of rfl) ?_
  simp only [Mix.selP_cons, Mix.selP_nil, Mix.sel_cons, Mix.sel_nil, Nat.reduceBEq, Nat.reduceAdd, cond_true, cond_false, List.drop_succ_cons, List.drop_nil]
  refine Mix.parts_q ?_
  repeat (go_big_quiet_step (fail))
  refine wpQuiet_nil ?_
  refine Mix.parts_e ?_
  clear k1
  have h1 : (wr.setCell ⟨g1, 0, none⟩ (.string ⟨#[]⟩)).heap[w.heap.size]? = wr.heap[w.heap.size]? := Below.heap_setCell _ _ _ _ n1
  have h2 : (outq wr g1 g2 f).heap[w.heap.size]? = wr.heap[w.heap.size]? := (Below.heap_setCell _ _ _ _ n2).trans h1
  have H1 := Lib.hid (ko_drew h1)
  have H2 := Lib.hid (ko_drew h2)
  clear h1 h2
  refine Mix.eff_step (fun K hK => ?_)
  go_simp
  refine hK _ _ H1.out ?_
  clear hK K
  refine Mix.eff_step (fun K hK => ?_)
  go_simp
  refine hK _ _ H2.out ?_
  clear hK K
  refine Mix.eff_nil (Mix.parts_n ?_)
  go_wp2_with fail
  refine ⟨rfl, _, rfl, .tuple #[], by simp [results, Try.results38, go_sem], rfl, rfl, ?_⟩
  rw [HWR.out]
  unfold outq
  simp only [drew_set]
set_option maxHeartbeats 1000000 in
theorem catchp_ret (g1 g2 : Nat) (w : World) :
    CallsD Try.prog 38 #[.pointer (some ⟨g1, 0, none⟩), .pointer (some ⟨g2, 0, none⟩)] .returning w fun e u' w' => e = .returned (.tuple #[]) ∧ u' = .returning ∧ w' = w := by
  refine callsD_of_wpS Try.func38 rfl fun d₀ cs hu => ?_
  apply wpS_seq
  apply wpS_region
  simp [wpOpsS, go_sem, recoverD, hu, Try.ntmps38, Exit.thenS]
  refine wpS_of_wp ?_
  go_wp2_with fail
  refine ⟨rfl, .returning, ?_, .tuple #[], by simp [results, Try.results38, go_sem], rfl, rfl, rfl⟩
  rw [← hu]
/-- Print's own blocks: the argument, the results -/
structure QW (W w : World) (cs : Array Value) : Prop where
  below : Below W.heap.size W w
  bx : w.heap[W.heap.size]? = some (.cells cs 29 (0, 0))
  b1 : w.heap[W.heap.size + 1]? = some (.cells #[.string ⟨#[]⟩] 9 (0, 0))
  b2 : w.heap[W.heap.size + 1 + 1]? = some (.cells #[.int .i64 0] 30 (0, 0))
  sz : W.heap.size + 3 ≤ w.heap.size
theorem QW.start (W : World) (cs : Array Value) : QW W (((W.alloc (.cells cs 29)).alloc (.cells #[.string ⟨#[]⟩] 9)).alloc (.cells #[.int .i64 0] 30)) cs := by
  refine ⟨(((Below.refl _ _).alloc (Nat.le_refl _) _).alloc (by simp) _).alloc (by simp; omega) _, ?_, ?_, ?_, by simp⟩
  · rw [heap_alloc_old _ _ (by simp; omega), heap_alloc_old _ _ (by simp)]
    exact heap_alloc_new W _
  · rw [heap_alloc_old _ _ (by simp)]
    have := heap_alloc_new (W.alloc (.cells cs 29)) (.cells #[.string ⟨#[]⟩] 9)
    simpa using this
  · have := heap_alloc_new ((W.alloc (.cells cs 29)).alloc (.cells #[.string ⟨#[]⟩] 9)) (.cells #[.int .i64 0] 30)
    simpa using this
theorem QW.keep {W w w' : World} {cs : Array Value} (h : QW W w cs) (hb : Below w.heap.size w w') : QW W w' cs := by
  have := h.sz
  exact ⟨h.below.trans (hb.mono h.below.size), (hb.block _ (by omega)).trans h.bx, (hb.block _ (by omega)).trans h.b1, (hb.block _ (by omega)).trans h.b2, Nat.le_trans h.sz hb.size⟩
theorem QW.fr {W w w' : World} {cs : Array Value} {b : Nat} (h : QW W w cs) (hf : Fr w w' b) (hb : W.heap.size + 3 ≤ b) : QW W w' cs :=
  ⟨h.below.trans (hf.below.mono (by omega)), (hf.below.block _ (by omega)).trans h.bx, (hf.below.block _ (by omega)).trans h.b1, (hf.below.block _ (by omega)).trans h.b2, Nat.le_trans h.sz hf.below.size⟩
/-- what Print answers -/
def PO (W : World) (x : Src) (e : Ending) (W' : World) : Prop := Below W.heap.size W W' ∧ e = .returned (.tuple #[.string ⟨(printP x).1.toArray⟩, .int .i64 (printP x).2])
abbrev defsP (W : World) : List Deferred := [{ target := .fn (.func 38) #[.pointer (some ⟨W.heap.size + 1, 0, none⟩), .pointer (some ⟨W.heap.size + 1 + 1, 0, none⟩)], args := #[] }]
/-- Print's end behind a panic -/
theorem print_gave {W w1 : World} {cs : Array Value} (h : QW W w1 cs) {x : Src} (hx : printP x = ([], 3)) (tmps : Array Value) (h2 : tmps[2]? = some (.pointer (some ⟨W.heap.size + 1, 0, none⟩))) (h3 : tmps[3]? = some (.pointer (some ⟨W.heap.size + 1 + 1, 0, none⟩))) :
    bodyPostD Try.prog Try.f17 (fun e W' => PO W x e W') (.panic (stopC 0 3)) { tmps := tmps, defers := defsP W } w1 := by
  have q7 : w1.cell? ⟨W.heap.size + 1, 0, none⟩ = some (.string ⟨#[]⟩) := by simp [World.cell?, h.b1]
  have q8 : w1.cell? ⟨W.heap.size + 1 + 1, 0, none⟩ = some (.int .i64 0) := by simp [World.cell?, h.b2]
  have qg : w1.frozen? ⟨W.heap.size + 1, 0, none⟩ = false := by simp [World.frozen?, h.b1]
  have qh : w1.frozen? ⟨W.heap.size + 1 + 1, 0, none⟩ = false := by simp [World.frozen?, h.b2]
  have hsz := h.sz
  refine leaves_cons (f := 38) (args := #[.pointer (some ⟨W.heap.size + 1, 0, none⟩), .pointer (some ⟨W.heap.size + 1 + 1, 0, none⟩)]) (by simp) (by simp [go_sem]) ?_
  refine (catchp_panic (W.heap.size + 1) (W.heap.size + 1 + 1) 0 3 w1 ⟨_, q7⟩ ⟨_, q8⟩ qg qh (by omega)).mono ?_
  have o7 : ((w1.alloc (.cells #[.int .i64 (0 : Nat), .int .i64 3] 56)).drew).cell? ⟨W.heap.size + 1, 0, none⟩ = some (.string ⟨#[]⟩) :=
    (World.cell?_of_block (show (w1.alloc (.cells #[.int .i64 (0 : Nat), .int .i64 3] 56)).heap[W.heap.size + 1]? = _ from heap_alloc_old w1 _ (by omega))).trans q7
  have o8 : ((w1.alloc (.cells #[.int .i64 (0 : Nat), .int .i64 3] 56)).drew).cell? ⟨W.heap.size + 1 + 1, 0, none⟩ = some (.int .i64 0) :=
    (World.cell?_of_block (show (w1.alloc (.cells #[.int .i64 (0 : Nat), .int .i64 3] 56)).heap[W.heap.size + 1 + 1]? = _ from heap_alloc_old w1 _ (by omega))).trans q8
  have r7 : (outq (w1.alloc (.cells #[.int .i64 (0 : Nat), .int .i64 3] 56)).drew (W.heap.size + 1) (W.heap.size + 1 + 1) 3).cell? ⟨W.heap.size + 1, 0, none⟩ = some (.string ⟨#[]⟩) :=
    cell_far (by show W.heap.size + 1 ≠ W.heap.size + 1 + 1; omega) (World.cell?_setCell_same _ _ _ o7)
  have r8 : (outq (w1.alloc (.cells #[.int .i64 (0 : Nat), .int .i64 3] 56)).drew (W.heap.size + 1) (W.heap.size + 1 + 1) 3).cell? ⟨W.heap.size + 1 + 1, 0, none⟩ = some (.int .i64 3) :=
    World.cell?_setCell_same _ _ _ (cell_far (by show W.heap.size + 1 + 1 ≠ W.heap.size + 1; omega) o8)
  have hbel : Below W.heap.size W (outq (w1.alloc (.cells #[.int .i64 (0 : Nat), .int .i64 3] 56)).drew (W.heap.size + 1) (W.heap.size + 1 + 1) 3) :=
    (((h.below.alloc (by omega) (.cells #[.int .i64 (0 : Nat), .int .i64 3] 56))).drew.setCell (p := ⟨W.heap.size + 1, 0, none⟩) (Nat.le_succ _) _).setCell (p := ⟨W.heap.size + 1 + 1, 0, none⟩) (by show W.heap.size ≤ W.heap.size + 1 + 1; omega) _
  generalize outq (w1.alloc (.cells #[.int .i64 (0 : Nat), .int .i64 3] 56)).drew (W.heap.size + 1) (W.heap.size + 1 + 1) 3 = w9 at *
  rintro e u' w'' ⟨rfl, rfl, rfl⟩
  refine ⟨.tuple #[.string ⟨#[]⟩, .int .i64 3], by simp [results, Try.results17, go_sem, h2, h3, r7, r8], ?_⟩
  refine ⟨hbel, ?_⟩
  rw [hx]
/-- Print's end behind its last words -/
theorem print_done {W w9 : World} {x : Src} {s : ByteArray} (hx : printP x = (s.data.toList, 0)) (hb : Below W.heap.size W w9) (r7 : w9.cell? ⟨W.heap.size + 1, 0, none⟩ = some (.string s)) (r8 : w9.cell? ⟨W.heap.size + 1 + 1, 0, none⟩ = some (.int .i64 0)) (tmps : Array Value) (h2 : tmps[2]? = some (.pointer (some ⟨W.heap.size + 1, 0, none⟩))) (h3 : tmps[3]? = some (.pointer (some ⟨W.heap.size + 1 + 1, 0, none⟩))) :
    bodyPostD Try.prog Try.f17 (fun e W' => PO W x e W') .ret { tmps := tmps, defers := defsP W } w9 := by
  refine leaves_cons (f := 38) (args := #[.pointer (some ⟨W.heap.size + 1, 0, none⟩), .pointer (some ⟨W.heap.size + 1 + 1, 0, none⟩)]) (by simp) (by simp [go_sem]) ?_
  refine (catchp_ret (W.heap.size + 1) (W.heap.size + 1 + 1) w9).mono ?_
  rintro e u' w'' ⟨rfl, rfl, rfl⟩
  refine ⟨.tuple #[.string s, .int .i64 0], by simp [results, Try.results17, go_sem, h2, h3, r7, r8], hb, ?_⟩
  rw [hx]
end Rc
end Go.Proofs.Ytcigggffaofkhaa
