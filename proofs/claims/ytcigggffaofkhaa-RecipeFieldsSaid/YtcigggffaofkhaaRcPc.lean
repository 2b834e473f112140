/-
  Walk: Parse.
-/
import Derived.Test.YtcigggffaofkhaaRcPa
namespace Go.Proofs.Ytcigggffaofkhaa
open Go.RowKit
namespace Rc

abbrev zeroR (s : ByteArray) : Array Value := #[.string s, .int .i64 0, .bool false, .string ⟨#[]⟩, .int .i64 0, .int .i64 0]
/-- what Parse answers -/
def PA (W : World) (o : Out) (e : Ending) (W' : World) : Prop := Below W.heap.size W W' ∧ match o with
  | .ok x => ∃ v, e = .returned (.tuple #[v, .int .i64 0, .int .i64 0]) ∧ RepR W' (fun j => W.heap.size ≤ j ∧ j < W'.heap.size) x v
  | .bad p f => e = .returned (.tuple #[.agg zeroS, .int .i64 p, .int .i64 f])
abbrev W4 (W : World) (s : ByteArray) : World := (((W.alloc (.cells zeroS 29)).alloc (.cells #[.int .i64 0] 3)).alloc (.cells #[.int .i64 0] 30)).alloc (.cells (zeroR s) 61)
/-- the three results' blocks -/
structure PW (W W' : World) : Prop where
  below : Below W.heap.size W W'
  b0 : W'.heap[W.heap.size]? = some (.cells zeroS 29 (0, 0))
  b1 : W'.heap[W.heap.size + 1]? = some (.cells #[.int .i64 0] 3 (0, 0))
  b2 : W'.heap[W.heap.size + 2]? = some (.cells #[.int .i64 0] 30 (0, 0))
  sz : W.heap.size + 4 ≤ W'.heap.size
theorem PW.start (W : World) (s : ByteArray) : PW W (W4 W s) := by
  refine ⟨((((Below.refl _ _).alloc (Nat.le_refl _) _).alloc (by simp) _).alloc (by simp; omega) _).alloc (by simp; omega) _, ?_, ?_, ?_, by simp⟩
  · rw [heap_alloc_old _ _ (by simp; omega), heap_alloc_old _ _ (by simp; omega), heap_alloc_old _ _ (by simp)]
    exact heap_alloc_new W _
  · rw [heap_alloc_old _ _ (by simp), heap_alloc_old _ _ (by simp)]
    have := heap_alloc_new (W.alloc (.cells zeroS 29)) (.cells #[.int .i64 0] 3)
    simpa using this
  · rw [heap_alloc_old _ _ (by simp)]
    have := heap_alloc_new ((W.alloc (.cells zeroS 29)).alloc (.cells #[.int .i64 0] 3)) (.cells #[.int .i64 0] 30)
    simpa using this
theorem rk_start (W : World) (s : ByteArray) : RK (W4 W s) (W.heap.size + 3) s t00 0 := by
  have hn := heap_alloc_new (((W.alloc (.cells zeroS 29)).alloc (.cells #[.int .i64 0] 3)).alloc (.cells #[.int .i64 0] 30)) (.cells (zeroR s) 61)
  have e : (((W.alloc (.cells zeroS 29)).alloc (.cells #[.int .i64 0] 3)).alloc (.cells #[.int .i64 0] 30)).heap.size = W.heap.size + 3 := by simp
  rw [e] at hn
  refine ⟨by simp, ?_, ?_, ?_, ?_, ?_, ?_, fun j => ?_⟩
  all_goals (first | simp only [World.cell?, hn] | simp only [World.frozen?, hn])
  all_goals rfl
theorem PW.fq {W W1 W2 : World} (h : PW W W1) (hf : Fq W1 W2 (W.heap.size + 3)) : PW W W2 := by
  have hz := h.sz
  have hs := hf.below.size
  refine ⟨h.below.trans (hf.below.mono (by omega)), ?_, ?_, ?_, by omega⟩
  · rw [hf.block _ (by omega) (by omega)]; exact h.b0
  · rw [hf.block _ (by omega) (by omega)]; exact h.b1
  · rw [hf.block _ (by omega) (by omega)]; exact h.b2
theorem cell_far {W : World} {q p : Addr} {v u : Value} (hne : p.block ≠ q.block) (h : W.cell? p = some v) : (W.setCell q u).cell? p = some v :=
  (World.cell?_of_block (Below.heap_setCell _ _ _ _ hne)).trans h
theorem cell_off {W : World} {g i j : Nat} {v u : Value} (hne : j ≠ i) (h : W.cell? ⟨g, j, none⟩ = some v) : (W.setCell ⟨g, i, none⟩ u).cell? ⟨g, j, none⟩ = some v := by
  rw [World.cell?_setCell_other _ _ _ _ (by first | (simp; done) | (simp; omega))]
  exact h
/-- seven cells that are stored -/
theorem set7 {W : World} {g : Nat} {o0 o1 o2 o3 o4 o5 o6 v0 v1 v2 v3 v4 v5 v6 : Value} (h0 : W.cell? ⟨g, 0, none⟩ = some o0) (h1 : W.cell? ⟨g, 1, none⟩ = some o1) (h2 : W.cell? ⟨g, 2, none⟩ = some o2) (h3 : W.cell? ⟨g, 3, none⟩ = some o3) (h4 : W.cell? ⟨g, 4, none⟩ = some o4) (h5 : W.cell? ⟨g, 5, none⟩ = some o5) (h6 : W.cell? ⟨g, 6, none⟩ = some o6) :
    ∀ j v, #[v0, v1, v2, v3, v4, v5, v6][j]? = some v → (((((((W.setCell ⟨g, 0, none⟩ v0).setCell ⟨g, 1, none⟩ v1).setCell ⟨g, 2, none⟩ v2).setCell ⟨g, 3, none⟩ v3).setCell ⟨g, 4, none⟩ v4).setCell ⟨g, 5, none⟩ v5).setCell ⟨g, 6, none⟩ v6).cell? ⟨g, j, none⟩ = some v := by
  intro j v hv
  match j, hv with
  | 0, hv => cases hv; exact cell_off (by decide) (cell_off (by decide) (cell_off (by decide) (cell_off (by decide) (cell_off (by decide) (cell_off (by decide) (World.cell?_setCell_same _ _ _ h0))))))
  | 1, hv => cases hv; exact cell_off (by decide) (cell_off (by decide) (cell_off (by decide) (cell_off (by decide) (cell_off (by decide) (World.cell?_setCell_same _ _ _ (cell_off (by decide) h1))))))
  | 2, hv => cases hv; exact cell_off (by decide) (cell_off (by decide) (cell_off (by decide) (cell_off (by decide) (World.cell?_setCell_same _ _ _ (cell_off (by decide) (cell_off (by decide) h2))))))
  | 3, hv => cases hv; exact cell_off (by decide) (cell_off (by decide) (cell_off (by decide) (World.cell?_setCell_same _ _ _ (cell_off (by decide) (cell_off (by decide) (cell_off (by decide) h3))))))
  | 4, hv => cases hv; exact cell_off (by decide) (cell_off (by decide) (World.cell?_setCell_same _ _ _ (cell_off (by decide) (cell_off (by decide) (cell_off (by decide) (cell_off (by decide) h4))))))
  | 5, hv => cases hv; exact cell_off (by decide) (World.cell?_setCell_same _ _ _ (cell_off (by decide) (cell_off (by decide) (cell_off (by decide) (cell_off (by decide) (cell_off (by decide) h5))))))
  | 6, hv => cases hv; exact World.cell?_setCell_same _ _ _ (cell_off (by decide) (cell_off (by decide) (cell_off (by decide) (cell_off (by decide) (cell_off (by decide) (cell_off (by decide) h6))))))
  | j + 7, hv => simp at hv
set_option maxHeartbeats 1000000 in
set_option maxRecDepth 100000 in
theorem parse_any (s : ByteArray) (W : World) : Calls Try.prog 12 #[.string s] W fun e W' => PA W (parseP s.data.toList) e W' := by
  have hmf : ∀ (fn : Fn) (first cap : Array Value) (w : World), (Instr.makeFunc fn first cap).run Try.prog w = .ok (.func fn first cap) w := fun _ _ _ _ => rfl
  have hz := Lib.size_eq s
  by_cases hs : s.size ≤ 4096
  rotate_left
  · have k1 : decide ((4096 : Int) < s.size) = true := by simp; omega
    have k2 : (4096 : Int) < s.size := by omega
    have HP := Lib.hid (show parseP s.data.toList = .bad 0 3 by unfold parseP; rw [if_pos (by omega)])
    clear hz
    go_enter_defers Try.func12, Try.ntmps12
    go_wp2_with fail
    refine ⟨.tuple #[.agg zeroS, .int .i64 0, .int .i64 3], by simp [results, Try.results12, go_sem], ?_⟩
    rw [HP.out]
    refine ⟨?_, rfl⟩
    exact (((Below.refl _ _).alloc (Nat.le_refl _) _).alloc (by simp) _).alloc (by simp; omega) _
  · have k1 : decide ((4096 : Int) < s.size) = false := by simp; omega
    have HN := Lib.hid (show ¬ 4096 < s.data.toList.length by omega)
    have hsrc := source_any s hs _ _ (rk_start W s)
    have hpw := PW.start W s
    clear hz
    go_enter_defers Try.func12, Try.ntmps12
    go_wp2_with fail
    refine Calls.mono hsrc ?_
    clear hsrc
    intro e w1 hx
    rcases res_or (sourceP s.data.toList) with ⟨p, f, hr⟩ | ⟨x, t, hr⟩
    · rw [hr] at hx
      obtain ⟨rfl, hS, hF⟩ := hx
      have HP := Lib.hid (show parseP s.data.toList = .bad p f by unfold parseP; rw [if_neg HN.out, hr])
      have hq := hpw.fq hF
      obtain ⟨m', tx', ts', tp', d', hS⟩ := hS
      clear hr hF hpw
      have hcell : ∀ j v, zeroS[j]? = some v → w1.cell? ⟨W.heap.size, j, none⟩ = some v := fun j v hv => by simp [World.cell?, hq.b0, hv]
      have qf : ∀ j, w1.frozen? ⟨W.heap.size, j, none⟩ = false := fun j => by simp [World.frozen?, hq.b0]
      have q7 : w1.cell? ⟨W.heap.size + 1, 0, none⟩ = some (.int .i64 0) := by simp [World.cell?, hq.b1]
      have q8 : w1.cell? ⟨W.heap.size + 1 + 1, 0, none⟩ = some (.int .i64 0) := by simp [World.cell?, hq.b2]
      have qg : w1.frozen? ⟨W.heap.size + 1, 0, none⟩ = false := by simp [World.frozen?, hq.b1]
      have qh : w1.frozen? ⟨W.heap.size + 1 + 1, 0, none⟩ = false := by simp [World.frozen?, hq.b2]
      refine leaves_cons (f := 28) (args := #[.pointer (some ⟨W.heap.size, 0, none⟩), .pointer (some ⟨W.heap.size + 1, 0, none⟩), .pointer (some ⟨W.heap.size + 1 + 1, 0, none⟩)]) (by simp) (by simp [go_sem]) ?_
      refine (catch_panic W.heap.size (W.heap.size + 1) (W.heap.size + 1 + 1) p f w1 (fun j v hv => ⟨v, hcell j v hv⟩) ⟨_, q7⟩ ⟨_, q8⟩ qf qg qh (by omega) (by omega) (by omega)).mono ?_
      have hgo : ∀ j v, zeroS[j]? = some v → (outs (w1.alloc (.cells #[.int .i64 p, .int .i64 f] 56)).drew W.heap.size (W.heap.size + 1) (W.heap.size + 1 + 1) p f).cell? ⟨W.heap.size, j, none⟩ = some v := fun j v hv => by
        have hold : ∀ j v, zeroS[j]? = some v → ((w1.alloc (.cells #[.int .i64 p, .int .i64 f] 56)).drew).cell? ⟨W.heap.size, j, none⟩ = some v := fun j v hv =>
          (World.cell?_of_block (show (w1.alloc (.cells #[.int .i64 p, .int .i64 f] 56)).heap[W.heap.size]? = _ from heap_alloc_old w1 _ (by have := hq.sz; omega))).trans (hcell j v hv)
        refine cell_far (by show W.heap.size ≠ W.heap.size + 1 + 1; omega) (cell_far (by show W.heap.size ≠ W.heap.size + 1; omega) ?_)
        exact set7 (hold 0 _ rfl) (hold 1 _ rfl) (hold 2 _ rfl) (hold 3 _ rfl) (hold 4 _ rfl) (hold 5 _ rfl) (hold 6 _ rfl) j v hv
      have ho7 : ((w1.alloc (.cells #[.int .i64 p, .int .i64 f] 56)).drew).cell? ⟨W.heap.size + 1, 0, none⟩ = some (.int .i64 0) :=
        (World.cell?_of_block (show (w1.alloc (.cells #[.int .i64 p, .int .i64 f] 56)).heap[W.heap.size + 1]? = _ from heap_alloc_old w1 _ (by have := hq.sz; omega))).trans q7
      have ho8 : ((w1.alloc (.cells #[.int .i64 p, .int .i64 f] 56)).drew).cell? ⟨W.heap.size + 1 + 1, 0, none⟩ = some (.int .i64 0) :=
        (World.cell?_of_block (show (w1.alloc (.cells #[.int .i64 p, .int .i64 f] 56)).heap[W.heap.size + 1 + 1]? = _ from heap_alloc_old w1 _ (by have := hq.sz; omega))).trans q8
      have hz0 : ∀ g, W.heap.size ≠ g → (out0 (w1.alloc (.cells #[.int .i64 p, .int .i64 f] 56)).drew W.heap.size).heap[g]? = (w1.alloc (.cells #[.int .i64 p, .int .i64 f] 56)).drew.heap[g]? := fun g hg => out0_heap _ _ _ (Ne.symm hg)
      have r7 : (outs (w1.alloc (.cells #[.int .i64 p, .int .i64 f] 56)).drew W.heap.size (W.heap.size + 1) (W.heap.size + 1 + 1) p f).cell? ⟨W.heap.size + 1, 0, none⟩ = some (.int .i64 p) :=
        cell_far (by show W.heap.size + 1 ≠ W.heap.size + 1 + 1; omega) (World.cell?_setCell_same _ _ _ ((World.cell?_of_block (a := ⟨W.heap.size + 1, 0, none⟩) (hz0 (W.heap.size + 1) (by omega))).trans ho7))
      have r8 : (outs (w1.alloc (.cells #[.int .i64 p, .int .i64 f] 56)).drew W.heap.size (W.heap.size + 1) (W.heap.size + 1 + 1) p f).cell? ⟨W.heap.size + 1 + 1, 0, none⟩ = some (.int .i64 f) :=
        World.cell?_setCell_same _ _ _ (cell_far (by show W.heap.size + 1 + 1 ≠ W.heap.size + 1; omega) ((World.cell?_of_block (a := ⟨W.heap.size + 1 + 1, 0, none⟩) (hz0 (W.heap.size + 1 + 1) (by omega))).trans ho8))
      have hbel : Below W.heap.size W (outs (w1.alloc (.cells #[.int .i64 p, .int .i64 f] 56)).drew W.heap.size (W.heap.size + 1) (W.heap.size + 1 + 1) p f) := by
        have h1 := ((hq.below.alloc (by have := hq.sz; omega) (.cells #[.int .i64 p, .int .i64 f] 56))).drew
        exact ((((((((h1.setCell (p := ⟨W.heap.size, 0, none⟩) (Nat.le_refl _) _).setCell (p := ⟨W.heap.size, 1, none⟩) (Nat.le_refl _) _).setCell (p := ⟨W.heap.size, 2, none⟩) (Nat.le_refl _) _).setCell (p := ⟨W.heap.size, 3, none⟩) (Nat.le_refl _) _).setCell (p := ⟨W.heap.size, 4, none⟩) (Nat.le_refl _) _).setCell (p := ⟨W.heap.size, 5, none⟩) (Nat.le_refl _) _).setCell (p := ⟨W.heap.size, 6, none⟩) (Nat.le_refl _) _).setCell (p := ⟨W.heap.size + 1, 0, none⟩) (Nat.le_succ _) _).setCell (p := ⟨W.heap.size + 1 + 1, 0, none⟩) (by show W.heap.size ≤ W.heap.size + 1 + 1; omega) _
      generalize outs (w1.alloc (.cells #[.int .i64 p, .int .i64 f] 56)).drew W.heap.size (W.heap.size + 1) (W.heap.size + 1 + 1) p f = w9 at *
      clear hcell qf q7 q8 qg qh ho7 ho8 hz0
      have r0 := hgo 0 _ rfl
      have r1 := hgo 1 _ rfl
      have r2 := hgo 2 _ rfl
      have r3 := hgo 3 _ rfl
      have r4 := hgo 4 _ rfl
      have r5 := hgo 5 _ rfl
      have r6 := hgo 6 _ rfl
      have HBL := Lib.hid hbel
      clear hgo hq hbel
      rintro e u' w'' ⟨rfl, rfl, rfl⟩
      refine ⟨.tuple #[.agg zeroS, .int .i64 p, .int .i64 f], by simp [results, Try.results12, go_sem, r0, r1, r2, r3, r4, r5, r6, r7, r8], ?_⟩
      rw [HP.out]
      exact ⟨HBL.out, rfl⟩
    · rw [hr] at hx
      obtain ⟨⟨v, rfl, hrep⟩, hk1, hF1, hv1⟩ := hx
      have HP := Lib.hid (show parseP s.data.toList = .ok x by unfold parseP; rw [if_neg HN.out, hr])
      obtain ⟨a1, a2, a3, a4, a5, a6, a7, a8, a9, a10, a11, a12, a13, rfl, -⟩ := id hrep
      have hq := hpw.fq hF1
      have HS1 := Lib.hid hF1.below.size
      have HREP := Lib.hid hrep
      clear hr hk1 hF1 hv1 hrep
      have HSZ := Lib.hid hpw.sz
      clear hpw
      have q0 : w1.cell? ⟨W.heap.size, 0, none⟩ = some (.int .i64 0) := by simp [World.cell?, hq.b0]
      have q1 : w1.cell? ⟨W.heap.size, 1, none⟩ = some (.string ⟨#[]⟩) := by simp [World.cell?, hq.b0]
      have q2 : w1.cell? ⟨W.heap.size, 2, none⟩ = some (.slice none 0 0) := by simp [World.cell?, hq.b0]
      have q3 : w1.cell? ⟨W.heap.size, 3, none⟩ = some (.int .i64 0) := by simp [World.cell?, hq.b0]
      have q4 : w1.cell? ⟨W.heap.size, 4, none⟩ = some (.string ⟨#[]⟩) := by simp [World.cell?, hq.b0]
      have q5 : w1.cell? ⟨W.heap.size, 5, none⟩ = some (.slice none 0 0) := by simp [World.cell?, hq.b0]
      have q6 : w1.cell? ⟨W.heap.size, 6, none⟩ = some (.slice none 0 0) := by simp [World.cell?, hq.b0]
      have q7 : w1.cell? ⟨W.heap.size + 1, 0, none⟩ = some (.int .i64 0) := by simp [World.cell?, hq.b1]
      have q8 : w1.cell? ⟨W.heap.size + 1 + 1, 0, none⟩ = some (.int .i64 0) := by simp [World.cell?, hq.b2]
      have qf : ∀ j, w1.frozen? ⟨W.heap.size, j, none⟩ = false := fun j => by simp [World.frozen?, hq.b0]
      have qg : w1.frozen? ⟨W.heap.size + 1, 0, none⟩ = false := by simp [World.frozen?, hq.b1]
      have qh : w1.frozen? ⟨W.heap.size + 1 + 1, 0, none⟩ = false := by simp [World.frozen?, hq.b2]
      go_wp2_with fail
      have hgo := set7 (v0 := .int .i64 a1) (v1 := .string a2) (v2 := .slice a3 a4 a5) (v3 := .int .i64 a6) (v4 := .string a7) (v5 := .slice a8 a9 a10) (v6 := .slice a11 a12 a13) q0 q1 q2 q3 q4 q5 q6
      have hbel : Below W.heap.size W (put7 w1 W.heap.size ⟨a1, a2, a3, a4, a5⟩ ⟨a6, a7, a8, a9, a10⟩ (.slice a11 a12 a13)) := (((((((hq.below.setCell (p := ⟨W.heap.size, 0, none⟩) (Nat.le_refl _) _).setCell (p := ⟨W.heap.size, 1, none⟩) (Nat.le_refl _) _).setCell (p := ⟨W.heap.size, 2, none⟩) (Nat.le_refl _) _).setCell (p := ⟨W.heap.size, 3, none⟩) (Nat.le_refl _) _).setCell (p := ⟨W.heap.size, 4, none⟩) (Nat.le_refl _) _).setCell (p := ⟨W.heap.size, 5, none⟩) (Nat.le_refl _) _).setCell (p := ⟨W.heap.size, 6, none⟩) (Nat.le_refl _) _)
      have hz2 := put7_size w1 W.heap.size ⟨a1, a2, a3, a4, a5⟩ ⟨a6, a7, a8, a9, a10⟩ (.slice a11 a12 a13)
      have hhp := fun k (h : k ≠ W.heap.size) => put7_heap w1 W.heap.size ⟨a1, a2, a3, a4, a5⟩ ⟨a6, a7, a8, a9, a10⟩ (.slice a11 a12 a13) h
      have p7 := (World.cell?_of_block (a := ⟨W.heap.size + 1, 0, none⟩) (hhp (W.heap.size + 1) (by omega))).trans q7
      have p8 := (World.cell?_of_block (a := ⟨W.heap.size + 1 + 1, 0, none⟩) (hhp (W.heap.size + 1 + 1) (by omega))).trans q8
      change bodyPostD _ _ _ _ _ (((put7 w1 W.heap.size ⟨a1, a2, a3, a4, a5⟩ ⟨a6, a7, a8, a9, a10⟩ (.slice a11 a12 a13)).setCell ⟨W.heap.size + 1, 0, none⟩ (.int .i64 0)).setCell ⟨W.heap.size + 1 + 1, 0, none⟩ (.int .i64 0))
      change ∀ (j : Nat) (v : Value), (#[.int .i64 a1, .string a2, .slice a3 a4 a5, .int .i64 a6, .string a7, .slice a8 a9 a10, .slice a11 a12 a13] : Array Value)[j]? = some v → (put7 w1 W.heap.size ⟨a1, a2, a3, a4, a5⟩ ⟨a6, a7, a8, a9, a10⟩ (.slice a11 a12 a13)).cell? _ = _ at hgo
      generalize put7 w1 W.heap.size ⟨a1, a2, a3, a4, a5⟩ ⟨a6, a7, a8, a9, a10⟩ (.slice a11 a12 a13) = w8 at *
      have hfar : ∀ (j : Nat) (v : Value), (#[.int .i64 a1, .string a2, .slice a3 a4 a5, .int .i64 a6, .string a7, .slice a8 a9 a10, .slice a11 a12 a13] : Array Value)[j]? = some v → ((w8.setCell ⟨W.heap.size + 1, 0, none⟩ (.int .i64 0)).setCell ⟨W.heap.size + 1 + 1, 0, none⟩ (.int .i64 0)).cell? ⟨W.heap.size, j, none⟩ = some v := fun j v hv =>
        cell_far (by show W.heap.size ≠ W.heap.size + 1 + 1; omega) (cell_far (by show W.heap.size ≠ W.heap.size + 1; omega) (hgo j v hv))
      have r7 : ((w8.setCell ⟨W.heap.size + 1, 0, none⟩ (.int .i64 0)).setCell ⟨W.heap.size + 1 + 1, 0, none⟩ (.int .i64 0)).cell? ⟨W.heap.size + 1, 0, none⟩ = some (.int .i64 0) :=
        cell_far (by show W.heap.size + 1 ≠ W.heap.size + 1 + 1; omega) (World.cell?_setCell_same _ _ _ p7)
      have r8 : ((w8.setCell ⟨W.heap.size + 1, 0, none⟩ (.int .i64 0)).setCell ⟨W.heap.size + 1 + 1, 0, none⟩ (.int .i64 0)).cell? ⟨W.heap.size + 1 + 1, 0, none⟩ = some (.int .i64 0) :=
        World.cell?_setCell_same _ _ _ (cell_far (by show W.heap.size + 1 + 1 ≠ W.heap.size + 1; omega) p8)
      have hbel9 := (hbel.setCell (p := ⟨W.heap.size + 1, 0, none⟩) (Nat.le_succ _) (.int .i64 0)).setCell (p := ⟨W.heap.size + 1 + 1, 0, none⟩) (by show W.heap.size ≤ W.heap.size + 1 + 1; omega) (.int .i64 0)
      have hrep9 : RepR ((w8.setCell ⟨W.heap.size + 1, 0, none⟩ (.int .i64 0)).setCell ⟨W.heap.size + 1 + 1, 0, none⟩ (.int .i64 0)) (fun j => W.heap.size ≤ j ∧ j < ((w8.setCell ⟨W.heap.size + 1, 0, none⟩ (.int .i64 0)).setCell ⟨W.heap.size + 1 + 1, 0, none⟩ (.int .i64 0)).heap.size) x (.agg #[.int .i64 a1, .string a2, .slice a3 a4 a5, .int .i64 a6, .string a7, .slice a8 a9 a10, .slice a11 a12 a13]) := by
        have hsz := HSZ.out
        refine HREP.out.move fun k hk => ⟨⟨by omega, by simp [World.setCell]; omega⟩, ?_⟩
        rw [Below.heap_setCell _ _ _ _ (by show k ≠ W.heap.size + 1 + 1; omega), Below.heap_setCell _ _ _ _ (by show k ≠ W.heap.size + 1; omega)]
        exact hhp k (by omega)
      generalize (w8.setCell ⟨W.heap.size + 1, 0, none⟩ (.int .i64 0)).setCell ⟨W.heap.size + 1 + 1, 0, none⟩ (.int .i64 0) = w9 at *
      clear hgo hhp p7 p8 hbel hz2 q0 q1 q2 q3 q4 q5 q6 q7 q8 qf qg qh hq
      have r0 := hfar 0 _ rfl
      have r1 := hfar 1 _ rfl
      have r2 := hfar 2 _ rfl
      have r3 := hfar 3 _ rfl
      have r4 := hfar 4 _ rfl
      have r5 := hfar 5 _ rfl
      have r6 := hfar 6 _ rfl
      clear hfar
      refine leaves_cons (f := 28) (args := #[.pointer (some ⟨W.heap.size, 0, none⟩), .pointer (some ⟨W.heap.size + 1, 0, none⟩), .pointer (some ⟨W.heap.size + 1 + 1, 0, none⟩)]) (by simp) (by simp [go_sem]) ?_
      refine (catch_ret W.heap.size (W.heap.size + 1) (W.heap.size + 1 + 1) w9).mono ?_
      rintro e u' w'' ⟨rfl, rfl, rfl⟩
      refine ⟨.tuple #[.agg #[.int .i64 a1, .string a2, .slice a3 a4 a5, .int .i64 a6, .string a7, .slice a8 a9 a10, .slice a11 a12 a13], .int .i64 0, .int .i64 0], by simp [results, Try.results12, go_sem, r0, r1, r2, r3, r4, r5, r6, r7, r8], ?_⟩
      rw [HP.out]
      exact ⟨hbel9, _, rfl, hrep9⟩
end Rc
end Go.Proofs.Ytcigggffaofkhaa
