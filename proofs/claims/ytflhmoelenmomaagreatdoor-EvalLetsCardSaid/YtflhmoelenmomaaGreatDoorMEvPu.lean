/-
  put: a text in the place of a name.
-/
import Derived.Test.YtflhmoelenmomaaGreatDoorMEvPy
import Derived.Test.YtflhmoelenmomaaGreatDoorMEvLA
namespace Go.Proofs.YtflhmoelenmomaaGreatDoor
open Go.RowKit Go.Lib
namespace Ev
open Rc

theorem put_results {tmps : Array Value} {X : World} {g : Nat} {u0 u1 u2 : Value} (t6 : tmps[6]? = some (.pointer (some ⟨g, 0, none⟩))) (c0 : X.cell? ⟨g, 0, none⟩ = some u0) (c1 : X.cell? ⟨g, 1, none⟩ = some u1) (c2 : X.cell? ⟨g, 2, none⟩ = some u2) :
    (results Tryz.f19 tmps).run Tryz.prog X = .ok (.agg #[u0, u1, u2]) X := by
  simp [results, Tryz.results19, go_sem, t6, c0, c1, c2]
/-- the three cells of a block written anew -/
def put3 (w : World) (g : Nat) (v0 v1 v2 : Value) : World := ((w.setCell ⟨g, 0, none⟩ v0).setCell ⟨g, 1, none⟩ v1).setCell ⟨g, 2, none⟩ v2
theorem put3_same {w : World} {g : Nat} {u0 u1 u2 : Value} {T : TypeId} (v0 v1 v2 : Value) (h : w.heap[g]? = some (.cells #[u0, u1, u2] T (0, 0))) : (put3 w g v0 v1 v2).heap[g]? = some (.cells #[v0, v1, v2] T (0, 0)) := by
  have h0 := heap_setCell_same w g 0 _ T v0 h
  simp only [List.setIfInBounds_toArray, List.set_cons_zero] at h0
  have h1 := heap_setCell_same _ g 1 _ T v1 h0
  simp only [List.setIfInBounds_toArray, List.set_cons_succ, List.set_cons_zero] at h1
  have h2 := heap_setCell_same _ g 2 _ T v2 h1
  simp only [List.setIfInBounds_toArray, List.set_cons_succ, List.set_cons_zero] at h2
  exact h2
theorem put3_below {B : Nat} {W w : World} (h : Below B W w) {g : Nat} (hg : B ≤ g) (v0 v1 v2 : Value) : Below B W (put3 w g v0 v1 v2) :=
  ((h.setCell (p := ⟨g, 0, none⟩) hg _).setCell (p := ⟨g, 1, none⟩) hg _).setCell (p := ⟨g, 2, none⟩) hg _
theorem put3_old {w : World} {g b : Nat} (v0 v1 v2 : Value) (h : b ≠ g) : (put3 w g v0 v1 v2).heap[b]? = w.heap[b]? := by
  unfold put3
  rw [Below.heap_setCell _ _ _ _ h, Below.heap_setCell _ _ _ _ h, Below.heap_setCell _ _ _ _ h]
theorem put3_size (w : World) (g : Nat) (v0 v1 v2 : Value) : (put3 w g v0 v1 v2).heap.size = w.heap.size := by simp [put3, World.setCell]
/-- what put answers -/
def PutA (W : World) (S : Nat → Prop) (x : E) (y t : ByteArray) (e : Ending) (W' : World) : Prop := ∃ v', e = .returned v' ∧ RepX W' (fun b => S b ∨ (W.heap.size ≤ b ∧ b < W'.heap.size)) (putE y t x) v' ∧ Below W.heap.size W W'
set_option maxHeartbeats 4000000 in
set_option maxRecDepth 100000 in
theorem put_name {ks : List E} (W : World) (S : Nat → Prop) (y t : ByteArray) (sl : Option Addr) (n cap : Nat) :
    Calls Tryz.prog 19 #[.agg #[.int .i64 2, .string y, .slice sl n cap], .string y, .string t] W (PutA W S (.mk 2 y ks) y t) := by
  have hA := ((Below.refl W.heap.size W).alloc (Nat.le_refl _) (.cells #[.int .i64 2, .string y, .slice sl n cap] 24)).alloc (by simp) (.cells #[.int .i64 0, .string ⟨#[]⟩, .slice none 0 0] 24)
  have HA := Lib.hid hA
  have hY : ((W.alloc (.cells #[.int .i64 2, .string y, .slice sl n cap] 24)).alloc (.cells #[.int .i64 0, .string ⟨#[]⟩, .slice none 0 0] 24)).heap[W.heap.size + 1]? = some (.cells #[.int .i64 0, .string ⟨#[]⟩, .slice none 0 0] 24) := by
    have := heap_alloc_new (W.alloc (.cells #[.int .i64 2, .string y, .slice sl n cap] 24)) (.cells #[.int .i64 0, .string ⟨#[]⟩, .slice none 0 0] 24)
    simpa using this
  have HY := Lib.hid hY
  have hs0 : ((W.alloc (.cells #[.int .i64 2, .string y, .slice sl n cap] 24)).alloc (.cells #[.int .i64 0, .string ⟨#[]⟩, .slice none 0 0] 24)).heap.size = W.heap.size + 2 := by simp
  have HS := Lib.hid hs0
  clear hA hY hs0
  have i1 : (y.toList == y.toList) = true := beq_self_eq_true _
  go_enter Tryz.func19, Tryz.ntmps19
  go_wp2_with (first
    | (go_at_call 18; with_reducible refine (ltext_any _ _).mono ?_; rintro e w1 ⟨he, hb1⟩; subst he; have hX := (hb1.block (W.heap.size + 1) (by rw [HS.out]; omega)).trans HY.out; obtain ⟨c0, c1, c2, f0, f1, f2⟩ := obj3 hX))
  change bodyPost _ _ _ _ _ (put3 w1 (W.heap.size + 1) (.int .i64 1) (.string t) (.slice none 0 0))
  have hX3 := put3_same (.int .i64 1) (.string t) (.slice none 0 0) hX
  obtain ⟨r0, r1, r2, -, -, -⟩ := obj3 hX3
  refine bodyPost_ret (put_results rfl r0 r1 r2) rfl ?_
  refine ⟨_, rfl, ?_, put3_below (HA.out.trans (hb1.mono HA.out.size)) (by omega) _ _ _⟩
  rw [putE_name ⟨rfl, rfl⟩]
  exact RepX.leaf _ _ _ _
end Ev
end Go.Proofs.YtflhmoelenmomaaGreatDoor
