/-
  What the reference's Node holds on to from round to round.
-/
import Derived.Test.YtjfchdgdgbdeeaaDoorCodeR
namespace Go.Proofs.YtjfchdgdgbdeeaaDoor
open Go.RowKit
namespace Cd

theorem KB.off {W : World} {ts : List ByteArray} {z : Value} {o : Nat} (h : KB W ts z) (ho : W.cell? ⟨o, 0, none⟩ = some (.bool false)) : ∀ g cap, z = .slice (some ⟨g, 0, none⟩) ts.length cap → g ≠ o := by
  intro g cap e hg
  obtain ⟨g', cap', rfl, hlt, hl, hc⟩ := h
  cases e
  subst hg
  obtain ⟨s, hs⟩ : ∃ s, ts[0]? = some s := ⟨ts[0], List.getElem?_eq_getElem hl⟩
  have h1 := (hc 0 s hs).1
  simp at h1
  rw [h1] at ho
  simp at ho
theorem KB.setO {W : World} {ts : List ByteArray} {z : Value} {o : Nat} (h : KB W ts z) (ho : W.cell? ⟨o, 0, none⟩ = some (.bool false)) (u : Value) : KB (W.setCell ⟨o, 2, none⟩ u) ts z :=
  h.keep (by simp [World.setCell]) (fun g cap e => Below.heap_setCell _ _ _ _ (h.off ho g cap e))
theorem KS.setO {W : World} {B : Nat} {p : List I} {k : Nat} {v : Value} {zs : List Value} {o : Nat} (h : KS W B p k v zs) (ho : W.cell? ⟨o, 0, none⟩ = some (.bool false)) (hB : o < B) (u : Value) : KS (W.setCell ⟨o, 2, none⟩ u) B p k v zs :=
  ⟨h.len, own_block h.own (fun k hk => Below.heap_setCell _ _ _ _ (by have := (h.own.lt k hk).1; show k ≠ o; omega)), h.nil, fun i z x hz hx => (h.kb i z x hz hx).setO ho u⟩

/-- block o holds a list's node, v its kids -/
structure NB (W : World) (o : Nat) (v : Value) : Prop where
  lt : o < W.heap.size
  c0 : W.cell? ⟨o, 0, none⟩ = some (.bool false)
  c1 : W.cell? ⟨o, 1, none⟩ = some (.string ⟨#[]⟩)
  c2 : W.cell? ⟨o, 2, none⟩ = some v
  fz : ∀ j, W.frozen? ⟨o, j, none⟩ = false
theorem NB.new (W : World) (v : Value) : NB (W.alloc (.cells #[.bool false, .string ⟨#[]⟩, v] 46)) W.heap.size v := by
  refine ⟨by simp, ?_, ?_, ?_, ?_⟩
  all_goals first | go_simp | (intro j; go_simp)
theorem NB.below {W W' : World} {o : Nat} {v : Value} (h : NB W o v) (hb : Below W.heap.size W W') : NB W' o v := by
  obtain ⟨hc, hf⟩ := bcell hb
  exact ⟨Nat.lt_of_lt_of_le h.lt hb.size, (hc _ _ h.lt).trans h.c0, (hc _ _ h.lt).trans h.c1, (hc _ _ h.lt).trans h.c2, fun j => (hf _ _ h.lt).trans (h.fz j)⟩
theorem NB.grown {W W' : World} {o : Nat} {v : Value} {row : Option Nat} (h : NB W o v) (hg : W.grownBy W' row) (hne : some o ≠ row) : NB W' o v := by
  have hb := hg.block o h.lt hne
  exact ⟨Nat.lt_of_lt_of_le h.lt hg.size, (World.cell?_of_block hb).trans h.c0, (World.cell?_of_block hb).trans h.c1, (World.cell?_of_block hb).trans h.c2, fun j => (World.frozen?_of_block hb).trans (h.fz j)⟩
theorem NB.set {W : World} {o : Nat} {v : Value} (h : NB W o v) (u : Value) : NB (W.setCell ⟨o, 2, none⟩ u) o u := by
  refine ⟨by simpa [World.setCell] using h.lt, ?_, ?_, World.cell?_setCell_same _ _ _ h.c2, fun j => ?_⟩
  · rw [World.cell?_setCell_other _ _ _ _ (by simp)]; exact h.c0
  · rw [World.cell?_setCell_other _ _ _ _ (by simp)]; exact h.c1
  · rw [World.frozen?_setCell]; exact h.fz j
theorem NB.far {W : World} {o q : Nat} {v : Value} (h : NB W o v) (hne : o ≠ q) (u : Value) : NB (W.setCell ⟨q, 2, none⟩ u) o v := by
  have hb : (W.setCell ⟨q, 2, none⟩ u).heap[o]? = W.heap[o]? := Below.heap_setCell _ _ _ _ hne
  exact ⟨by simpa [World.setCell] using h.lt, (World.cell?_of_block hb).trans h.c0, (World.cell?_of_block hb).trans h.c1, (World.cell?_of_block hb).trans h.c2, fun j => (World.frozen?_of_block hb).trans (h.fz j)⟩

/-- the world of the reference's Node in round k: the result's node (block R), the node under way (R + 1), its kids -/
structure NR (W wr : World) (R : Nat) (p : List I) (k : Nat) (kv : Value) (zs : List Value) : Prop where
  ks : KS wr (R + 2) p k kv zs
  o : NB wr (R + 1) kv
  r : NB wr R (.slice none 0 0)
  old : Below R W wr
  sz : R + 2 ≤ wr.heap.size
theorem NR.below {W wr w' : World} {R : Nat} {p : List I} {k : Nat} {kv : Value} {zs : List Value} (h : NR W wr R p k kv zs) (hb : Below wr.heap.size wr w') : NR W w' R p k kv zs :=
  ⟨h.ks.below hb, h.o.below hb, h.r.below hb, h.old.trans (hb.mono (by have := h.sz; omega)), Nat.le_trans h.sz hb.size⟩
/-- a kid more: the append, and the store into the node -/
theorem NR.snoc {W wr w' : World} {R : Nat} {p : List I} {k : Nat} {kv v' : Value} {zs : List Value} (h : NR W wr R p k kv zs) {x : I} {z : Value} (hx : p[k]? = some x) (hz : KB wr (atoms x) z) (hg : wr.grownBy w' kv.ownBlock)
    (hown : w'.ownsRow (R + 2) 46 3 v' (k + 1) (row3 (zs.map listQ) ++ [.bool false, .string ⟨#[]⟩, z])) : NR W (w'.setCell ⟨R + 1, 2, none⟩ v') R p (k + 1) v' (zs ++ [z]) := by
  have hk := h.ks.snoc hx hz hg hown
  have hlo : ∀ g, kv.ownBlock = some g → R + 2 ≤ g := fun g hg => (h.ks.own.lt g hg).1
  have ho := h.o.grown hg (fun e => by have := hlo _ e.symm; omega)
  have hr := h.r.grown hg (fun e => by have := hlo _ e.symm; omega)
  refine ⟨hk.setO ho.c0 (by omega) _, ho.set _, hr.far (by omega) _, ?_, by have := h.sz; have := hg.size; simp [World.setCell]; omega⟩
  exact (h.old.grown hg (by have := h.sz; omega) (fun g hg => by have := hlo g hg; omega)).setCell (by show R ≤ R + 1; omega) _
end Cd
end Go.Proofs.YtjfchdgdgbdeeaaDoor
