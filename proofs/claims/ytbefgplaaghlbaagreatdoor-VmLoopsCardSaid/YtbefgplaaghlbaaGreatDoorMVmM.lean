/-
  The machine in memory: its block, its stack, its calls; what its steps leave as it was.
-/
import Derived.Test.YtbefgplaaghlbaaGreatDoorTrK
import Derived.Test.YtbefgplaaghlbaaGreatDoorTrM
import Derived.Test.YtbefgplaaghlbaaGreatDoorVmP
import Derived.Test.YtbefgplaaghlbaaGreatDoorCodeD
import Derived.Maps.AppendAt
import Derived.WalkSmall
import Derived.StillTailTactics
namespace Go.Proofs.YtbefgplaaghlbaaGreatDoor
open Go.RowKit Go.Shelf Go.Lib
namespace Vm
open Tr

/-! values -/
abbrev V.cl (v : V) : List Value := [.bool v.isT, .int .i64 v.n, .string v.s]
abbrev V.val (v : V) : Value := .agg #[.bool v.isT, .int .i64 v.n, .string v.s]
def rowV (l : List V) : List Value := l.flatMap V.cl
theorem rowV_app (a b : List V) : rowV (a ++ b) = rowV a ++ rowV b := List.flatMap_append
theorem rowV_len : ∀ l : List V, (rowV l).length = l.length * 3
  | [] => rfl
  | a :: l => by
    have := rowV_len l
    simp only [rowV, List.flatMap_cons, List.length_append, List.length_cons, List.length_nil] at *
    omega
theorem rowV_at : ∀ (l : List V) (k : Nat) (a : V), l[k]? = some a → (rowV l)[k * 3]? = some (.bool a.isT) ∧ (rowV l)[k * 3 + 1]? = some (.int .i64 a.n) ∧ (rowV l)[k * 3 + 2]? = some (.string a.s)
  | [], k, a, h => by simp at h
  | b :: l, 0, a, h => by simp at h; subst h; exact ⟨rfl, rfl, rfl⟩
  | b :: l, k + 1, a, h => by
    have ih := rowV_at l k a (by simpa using h)
    rw [show (k + 1) * 3 = k * 3 + 3 by omega]
    exact ih
theorem rowV_one (l : List V) : ∀ v ∈ rowV l, v.oneCell' = true := by
  intro v hv
  obtain ⟨p, _, hp⟩ := List.mem_flatMap.1 hv
  simp at hp
  rcases hp with rfl | rfl | rfl <;> rfl
theorem rowV_take (l : List V) (k : Nat) : (rowV l).take (k * 3) = rowV (l.take k) := by
  induction l generalizing k with
  | nil => simp [rowV]
  | cons a l ih =>
    cases k with
    | zero => simp [rowV]
    | succ k =>
      rw [show (k + 1) * 3 = k * 3 + 1 + 1 + 1 by omega]
      have := ih k
      simp only [rowV, List.flatMap_cons, List.cons_append, List.nil_append, List.take_succ_cons] at *
      rw [this]
theorem rowV_set : ∀ (l : List V) (k : Nat) (v : V), k < l.length → (((rowV l).set (k * 3) (.bool v.isT)).set (k * 3 + 1) (.int .i64 v.n)).set (k * 3 + 2) (.string v.s) = rowV (l.set k v)
  | [], k, v, h => by simp at h
  | a :: l, 0, v, h => by simp [rowV]
  | a :: l, k + 1, v, h => by
    have ih := rowV_set l k v (by simpa using h)
    rw [show (k + 1) * 3 = k * 3 + 1 + 1 + 1 by omega, show k * 3 + 1 + 1 + 1 + 1 = (k * 3 + 1) + 1 + 1 + 1 by omega, show k * 3 + 1 + 1 + 1 + 2 = (k * 3 + 2) + 1 + 1 + 1 by omega]
    simp only [rowV, List.flatMap_cons, List.cons_append, List.nil_append, List.set_cons_succ] at *
    rw [ih]
/-- a value that can be -/
def V.ok (v : V) : Prop := v.s.size ≤ 2048 ∧ -9223372036854775808 ≤ v.n ∧ v.n ≤ 9223372036854775807
/-! the machine -/
structure Mc where
  p : List Cd.I
  view : List F
  out : List F
  stack : List V
  calls : List Nat
  cells : List V
  at_ : Nat
  steps : Nat
  done : Bool
  fault : Int
/-- where its parts stand -/
structure MV where
  pv : Value
  vv : Value
  ov : Value
  sv : Value
  cv : Value
def rowN (l : List Nat) : List Value := l.map fun n : Nat => .int .i64 (n : Int)
def mcells (m : Mc) (x : MV) : List Value := [x.pv, x.vv, x.ov, x.sv, x.cv] ++ rowV m.cells ++ [.int .i64 m.at_, .int .i64 m.steps, .bool m.done, .int .i64 m.fault]
/-- files that a slice shows, outside of S -/
def FSo (w : World) (v : Value) (l : List F) (S : Nat → Prop) : Prop := FS w v l ∧ ∀ k, v.ownBlock = some k → ¬ S k ∧ k < w.heap.size
def PSo (w : World) (v : Value) (p : List Cd.I) (S : Nat → Prop) : Prop := Cd.PS w v p ∧ ∀ k, v.ownBlock = some k → ¬ S k ∧ k < w.heap.size
structure MR (w : World) (b : Nat) (m : Mc) (S : Nat → Prop) (x : MV) : Prop where
  blk : w.heap[b]? = some (.cells (mcells m x).toArray 78 (0, 0))
  c16 : m.cells.length = 16
  sb : S b
  prog : PSo w x.pv m.p S
  view : FSo w x.vv m.view S
  out : FSo w x.ov m.out S
  stack : w.ownsRow 0 75 3 x.sv m.stack.length (rowV m.stack)
  calls : w.ownsRow 0 3 1 x.cv m.calls.length (rowN m.calls)
  hs : ∀ k, x.sv.ownBlock = some k → S k ∧ k ≠ b
  hc : ∀ k, x.cv.ownBlock = some k → S k ∧ k ≠ b ∧ x.sv.ownBlock ≠ some k
  hS : ∀ k, S k → k < w.heap.size
/-- what the machine's steps leave as it was -/
structure Fr (w w' : World) (S S' : Nat → Prop) : Prop where
  os : w'.os = w.os
  tape : w'.tape = w.tape
  output : w'.output = w.output
  size : w.heap.size ≤ w'.heap.size
  block : ∀ k, k < w.heap.size → ¬ S k → w'.heap[k]? = w.heap[k]?
  own : ∀ k, S' k → S k ∨ w.heap.size ≤ k
theorem Fr.refl (w : World) (S : Nat → Prop) : Fr w w S S := ⟨rfl, rfl, rfl, Nat.le_refl _, fun _ _ _ => rfl, fun _ h => .inl h⟩
theorem Fr.trans {w w1 w2 : World} {S S1 S2 : Nat → Prop} (h : Fr w w1 S S1) (g : Fr w1 w2 S1 S2) : Fr w w2 S S2 :=
  ⟨g.os.trans h.os, g.tape.trans h.tape, g.output.trans h.output, Nat.le_trans h.size g.size,
    fun k hk hn => (g.block k (Nat.lt_of_lt_of_le hk h.size) fun h1 => (h.own k h1).elim hn (fun h2 => absurd hk (by omega))).trans (h.block k hk hn),
    fun k hk => (g.own k hk).elim (fun h1 => h.own k h1) fun h1 => .inr (Nat.le_trans h.size h1)⟩
theorem Fr.of {w w' : World} {S : Nat → Prop} (h : Below w.heap.size w w') : Fr w w' S S := ⟨h.os, h.tape, h.output, h.size, fun k hk _ => h.block k hk, fun _ h => .inl h⟩
/-- a store into what is the machine's -/
theorem Fr.set {w w' : World} {S S' : Nat → Prop} (h : Fr w w' S S') {p : Addr} (hp : S' p.block) (v : Value) : Fr w (w'.setCell p v) S S' :=
  ⟨h.os, h.tape, h.output, by
    show _ ≤ (w'.setCell p v).heap.size
    simp
    exact h.size, fun k hk hn => (Below.heap_setCell _ _ _ _ fun e => by
      subst e
      exact (h.own _ hp).elim hn fun h2 => absurd hk (by omega)).trans (h.block k hk hn), h.own⟩
theorem Fr.below {B : Nat} {W w w' : World} {S S' : Nat → Prop} (h : Fr w w' S S') (hb : Below B W w) (hS : ∀ k, S k → B ≤ k) (hB : B ≤ w.heap.size) : Below B W w' :=
  ⟨h.os.trans hb.os, h.tape.trans hb.tape, h.output.trans hb.output, Nat.le_trans hb.size h.size, fun k hk => (h.block k (by omega) fun h1 => absurd (hS k h1) (by omega)).trans (hb.block k hk)⟩
/-! reading and writing the machine's block -/
theorem MR.cells5 {w : World} {b : Nat} {m : Mc} {S : Nat → Prop} {x : MV} (h : MR w b m S x) : w.cell? ⟨b, 0, none⟩ = some x.pv ∧ w.cell? ⟨b, 1, none⟩ = some x.vv ∧ w.cell? ⟨b, 2, none⟩ = some x.ov ∧ w.cell? ⟨b, 3, none⟩ = some x.sv ∧ w.cell? ⟨b, 4, none⟩ = some x.cv := by
  refine ⟨?_, ?_, ?_, ?_, ?_⟩ <;> simp [World.cell?, h.blk, mcells]
theorem mtail {m : Mc} (h16 : m.cells.length = 16) (x : MV) : (mcells m x)[53]? = some (.int .i64 m.at_) ∧ (mcells m x)[54]? = some (.int .i64 m.steps) ∧ (mcells m x)[55]? = some (.bool m.done) ∧ (mcells m x)[56]? = some (.int .i64 m.fault) := by
  have hl := rowV_len m.cells
  rw [h16] at hl
  refine ⟨?_, ?_, ?_, ?_⟩ <;> simp [mcells, hl]
theorem MR.cells4 {w : World} {b : Nat} {m : Mc} {S : Nat → Prop} {x : MV} (h : MR w b m S x) : w.cell? ⟨b, 53, none⟩ = some (.int .i64 m.at_) ∧ w.cell? ⟨b, 54, none⟩ = some (.int .i64 m.steps) ∧ w.cell? ⟨b, 55, none⟩ = some (.bool m.done) ∧ w.cell? ⟨b, 56, none⟩ = some (.int .i64 m.fault) := by
  obtain ⟨h1, h2, h3, h4⟩ := mtail h.c16 x
  refine ⟨?_, ?_, ?_, ?_⟩ <;> simp [World.cell?, h.blk, *]
theorem MR.frz {w : World} {b : Nat} {m : Mc} {S : Nat → Prop} {x : MV} (h : MR w b m S x) (j : Nat) : w.frozen? ⟨b, j, none⟩ = false := by simp [World.frozen?, h.blk]
theorem mloc {m : Mc} (x : MV) {i : Nat} {v : V} (hi : m.cells[i]? = some v) : (mcells m x)[5 + i * 3]? = some (.bool v.isT) ∧ (mcells m x)[5 + i * 3 + 1]? = some (.int .i64 v.n) ∧ (mcells m x)[5 + i * 3 + 2]? = some (.string v.s) := by
  obtain ⟨a, b, c⟩ := rowV_at _ _ _ hi
  have hl := rowV_len m.cells
  have h1 := (List.getElem?_eq_some_iff.1 a).1
  have h2 := (List.getElem?_eq_some_iff.1 b).1
  have h3 := (List.getElem?_eq_some_iff.1 c).1
  have key : ∀ j v, (rowV m.cells)[j]? = some v → (mcells m x)[5 + j]? = some v := fun j v hj => by
    have hjl := (List.getElem?_eq_some_iff.1 hj).1
    unfold mcells
    rw [List.append_assoc, List.getElem?_append_right (by simp), List.getElem?_append_left (by simp; omega)]
    simpa using hj
  exact ⟨key _ _ a, by rw [Nat.add_assoc]; exact key _ _ b, by rw [Nat.add_assoc]; exact key _ _ c⟩
theorem MR.loc {w : World} {b : Nat} {m : Mc} {S : Nat → Prop} {x : MV} (h : MR w b m S x) {i : Nat} {v : V} (hi : m.cells[i]? = some v) : w.cell? ⟨b, 5 + i * 3, none⟩ = some (.bool v.isT) ∧ w.cell? ⟨b, 5 + i * 3 + 1, none⟩ = some (.int .i64 v.n) ∧ w.cell? ⟨b, 5 + i * 3 + 2, none⟩ = some (.string v.s) := by
  obtain ⟨h1, h2, h3⟩ := mloc x hi
  refine ⟨?_, ?_, ?_⟩ <;> simp [World.cell?, h.blk, *]
theorem FS.blk {w w' : World} {v : Value} {l : List F} (h : FS w v l) (hs : w.heap.size ≤ w'.heap.size) (hb : ∀ k, v.ownBlock = some k → w'.heap[k]? = w.heap[k]?) : FS w' v l := by
  rcases h with h | ⟨g, off, cap, rfl, h1, h2⟩
  · exact .inl h
  · have hg := hb g rfl
    refine .inr ⟨g, off, cap, rfl, Nat.lt_of_lt_of_le h1 hs, fun i f hf => ?_⟩
    obtain ⟨a, b⟩ := h2 i f hf
    exact ⟨(World.cell?_of_block (w := w) (a := ⟨g, off + i * 2, none⟩) hg).trans a, (World.cell?_of_block (w := w) (a := ⟨g, off + i * 2 + 1, none⟩) hg).trans b⟩
theorem PS.blk {w w' : World} {v : Value} {p : List Cd.I} (h : Cd.PS w v p) (hs : w.heap.size ≤ w'.heap.size) (hb : ∀ k, v.ownBlock = some k → w'.heap[k]? = w.heap[k]?) : Cd.PS w' v p := by
  obtain ⟨sl, cap, rfl, hf⟩ := h.form
  refine ⟨h.small, h.nb, sl, cap, rfl, fun k x hk => ?_⟩
  obtain ⟨g, o, rfl, hg, h3⟩ := hf k x hk
  have hgb := hb g rfl
  exact ⟨g, o, rfl, Nat.lt_of_lt_of_le hg hs, ⟨(World.cell?_of_block (w := w) (a := ⟨g, _, none⟩) hgb).trans h3.c0, (World.cell?_of_block (w := w) (a := ⟨g, _, none⟩) hgb).trans h3.c1, (World.cell?_of_block (w := w) (a := ⟨g, _, none⟩) hgb).trans h3.c2⟩⟩
theorem FSo.fr {w w' : World} {v : Value} {l : List F} {S S' : Nat → Prop} (h : FSo w v l S) (hF : Fr w w' S S') : FSo w' v l S' :=
  ⟨FS.blk h.1 hF.size fun k hk => hF.block k (h.2 k hk).2 (h.2 k hk).1, fun k hk => ⟨fun h1 => (hF.own k h1).elim (h.2 k hk).1 fun h2 => absurd (h.2 k hk).2 (by omega), Nat.lt_of_lt_of_le (h.2 k hk).2 hF.size⟩⟩
theorem PSo.fr {w w' : World} {v : Value} {p : List Cd.I} {S S' : Nat → Prop} (h : PSo w v p S) (hF : Fr w w' S S') : PSo w' v p S' :=
  ⟨PS.blk h.1 hF.size fun k hk => hF.block k (h.2 k hk).2 (h.2 k hk).1, fun k hk => ⟨fun h1 => (hF.own k h1).elim (h.2 k hk).1 fun h2 => absurd (h.2 k hk).2 (by omega), Nat.lt_of_lt_of_le (h.2 k hk).2 hF.size⟩⟩
theorem own_blk {w w' : World} {B n : Nat} {e : TypeId} {sz : Nat} {v : Value} {xs : List Value} (h : w.ownsRow B e sz v n xs) (hb : ∀ k, v.ownBlock = some k → w'.heap[k]? = w.heap[k]?) : w'.ownsRow B e sz v n xs := by
  refine ⟨h.1, ?_⟩
  rcases h.2 with hn | ⟨g, cap, cur, rfl, hg, hgg, rest⟩
  · exact .inl hn
  · exact .inr ⟨g, cap, cur, rfl, hg, by rw [hb g rfl]; exact hgg, rest⟩
/-- the machine in a later world: its block as told, the stack and the calls told anew -/
theorem MR.next {w w' : World} {b : Nat} {m m' : Mc} {S S' : Nat → Prop} {x x' : MV} (h : MR w b m S x) (hF : Fr w w' S S') (hb : w'.heap[b]? = some (.cells (mcells m' x').toArray 78 (0, 0))) (h16 : m'.cells.length = 16) (hsb : S' b)
    (hp : m'.p = m.p ∧ x'.pv = x.pv) (hv : m'.view = m.view ∧ x'.vv = x.vv) (ho : m'.out = m.out ∧ x'.ov = x.ov)
    (hs : w'.ownsRow 0 75 3 x'.sv m'.stack.length (rowV m'.stack)) (hc : w'.ownsRow 0 3 1 x'.cv m'.calls.length (rowN m'.calls))
    (hss : ∀ k, x'.sv.ownBlock = some k → S' k ∧ k ≠ b) (hcc : ∀ k, x'.cv.ownBlock = some k → S' k ∧ k ≠ b ∧ x'.sv.ownBlock ≠ some k) (hSS : ∀ k, S' k → k < w'.heap.size) : MR w' b m' S' x' :=
  ⟨hb, h16, hsb, by rw [hp.1, hp.2]; exact h.prog.fr hF, by rw [hv.1, hv.2]; exact h.view.fr hF, by rw [ho.1, ho.2]; exact h.out.fr hF, hs, hc, hss, hcc, hSS⟩
theorem MR.keep {w w' : World} {b : Nat} {m : Mc} {S : Nat → Prop} {x : MV} (h : MR w b m S x) (hb : Below w.heap.size w w') : MR w' b m S x :=
  h.next (Fr.of hb) ((hb.block _ (h.hS _ h.sb)).trans h.blk) h.c16 h.sb ⟨rfl, rfl⟩ ⟨rfl, rfl⟩ ⟨rfl, rfl⟩ (own_blk h.stack fun k hk => hb.block k (h.hS _ (h.hs k hk).1)) (own_blk h.calls fun k hk => hb.block k (h.hS _ (h.hc k hk).1)) h.hs h.hc fun k hk => Nat.lt_of_lt_of_le (h.hS k hk) hb.size
/-- a store into the machine's block -/
theorem MR.put {w : World} {b : Nat} {m m' : Mc} {S : Nat → Prop} {x : MV} (h : MR w b m S x) {j : Nat} {v : Value} (hc : (mcells m x).set j v = mcells m' x) (h16 : m'.cells.length = 16) (hp : m'.p = m.p) (hv : m'.view = m.view) (ho : m'.out = m.out) (hs : m'.stack = m.stack) (hl : m'.calls = m.calls) : MR (w.setCell ⟨b, j, none⟩ v) b m' S x := by
  have hne : ∀ k, k ≠ b → (w.setCell ⟨b, j, none⟩ v).heap[k]? = w.heap[k]? := fun k hk => Below.heap_setCell _ _ _ _ hk
  refine h.next ((Fr.refl w S).set (p := ⟨b, j, none⟩) h.sb v) ?_ h16 h.sb ⟨hp, rfl⟩ ⟨hv, rfl⟩ ⟨ho, rfl⟩ ?_ ?_ h.hs h.hc (fun k hk => by simpa using h.hS k hk)
  · have := heap_setCell_same w b j _ _ v h.blk
    rw [this, ← hc]
    simp
  · rw [hs]
    exact own_blk h.stack fun k hk => hne k (h.hs k hk).2
  · rw [hl]
    exact own_blk h.calls fun k hk => hne k (h.hc k hk).2.1
theorem mset_at {m : Mc} (h16 : m.cells.length = 16) (x : MV) (n : Nat) : (mcells m x).set 53 (.int .i64 n) = mcells { m with at_ := n } x := by
  have hl := rowV_len m.cells
  rw [h16] at hl
  simp [mcells, hl]
theorem mset_steps {m : Mc} (h16 : m.cells.length = 16) (x : MV) (n : Nat) : (mcells m x).set 54 (.int .i64 n) = mcells { m with steps := n } x := by
  have hl := rowV_len m.cells
  rw [h16] at hl
  simp [mcells, hl]
theorem mset_done {m : Mc} (h16 : m.cells.length = 16) (x : MV) (d : Bool) : (mcells m x).set 55 (.bool d) = mcells { m with done := d } x := by
  have hl := rowV_len m.cells
  rw [h16] at hl
  simp [mcells, hl]
theorem mset_fault {m : Mc} (h16 : m.cells.length = 16) (x : MV) (d : Int) : (mcells m x).set 56 (.int .i64 d) = mcells { m with fault := d } x := by
  have hl := rowV_len m.cells
  rw [h16] at hl
  simp [mcells, hl]
theorem MR.at_ {w : World} {b : Nat} {m : Mc} {S : Nat → Prop} {x : MV} (h : MR w b m S x) (n : Nat) : MR (w.setCell ⟨b, 53, none⟩ (.int .i64 n)) b { m with at_ := n } S x := h.put (mset_at h.c16 x n) h.c16 rfl rfl rfl rfl rfl
theorem MR.steps {w : World} {b : Nat} {m : Mc} {S : Nat → Prop} {x : MV} (h : MR w b m S x) (n : Nat) : MR (w.setCell ⟨b, 54, none⟩ (.int .i64 n)) b { m with steps := n } S x := h.put (mset_steps h.c16 x n) h.c16 rfl rfl rfl rfl rfl
theorem MR.done {w : World} {b : Nat} {m : Mc} {S : Nat → Prop} {x : MV} (h : MR w b m S x) (d : Bool) : MR (w.setCell ⟨b, 55, none⟩ (.bool d)) b { m with done := d } S x := h.put (mset_done h.c16 x d) h.c16 rfl rfl rfl rfl rfl
theorem MR.fault {w : World} {b : Nat} {m : Mc} {S : Nat → Prop} {x : MV} (h : MR w b m S x) (d : Int) : MR (w.setCell ⟨b, 56, none⟩ (.int .i64 d)) b { m with fault := d } S x := h.put (mset_fault h.c16 x d) h.c16 rfl rfl rfl rfl rfl
/-- a store into what is neither the machine's nor what it shows -/
theorem MR.far {w : World} {b : Nat} {m : Mc} {S : Nat → Prop} {x : MV} (h : MR w b m S x) {p : Addr} (hp : ¬ S p.block) (hq : ∀ k, x.pv.ownBlock = some k ∨ x.vv.ownBlock = some k ∨ x.ov.ownBlock = some k → k ≠ p.block) (v : Value) : MR (w.setCell p v) b m S x := by
  have hs : (w.setCell p v).heap.size = w.heap.size := by simp
  have hk : ∀ k, k ≠ p.block → (w.setCell p v).heap[k]? = w.heap[k]? := fun k hk => Below.heap_setCell _ _ _ _ hk
  have hkS : ∀ k, S k → (w.setCell p v).heap[k]? = w.heap[k]? := fun k h1 => hk k fun e => hp (e ▸ h1)
  exact ⟨(hkS b h.sb).trans h.blk, h.c16, h.sb,
    ⟨PS.blk h.prog.1 (by omega) fun k h1 => hk k (hq k (.inl h1)), fun k h1 => ⟨(h.prog.2 k h1).1, by rw [hs]; exact (h.prog.2 k h1).2⟩⟩,
    ⟨FS.blk h.view.1 (by omega) fun k h1 => hk k (hq k (.inr (.inl h1))), fun k h1 => ⟨(h.view.2 k h1).1, by rw [hs]; exact (h.view.2 k h1).2⟩⟩,
    ⟨FS.blk h.out.1 (by omega) fun k h1 => hk k (hq k (.inr (.inr h1))), fun k h1 => ⟨(h.out.2 k h1).1, by rw [hs]; exact (h.out.2 k h1).2⟩⟩,
    own_blk h.stack fun k h1 => hkS k (h.hs k h1).1, own_blk h.calls fun k h1 => hkS k (h.hc k h1).1, h.hs, h.hc, fun k h1 => by rw [hs]; exact h.hS k h1⟩
theorem Fr.far {w w' : World} {S S' : Nat → Prop} (h : Fr w w' S S') {p : Addr} (hp : w.heap.size ≤ p.block) (v : Value) : Fr w (w'.setCell p v) S S' :=
  ⟨h.os, h.tape, h.output, by
    show _ ≤ (w'.setCell p v).heap.size
    simp
    exact h.size, fun k hk hn => (Below.heap_setCell _ _ _ _ (by omega)).trans (h.block k hk hn), h.own⟩
/-- blocks that what the machine shows stands in -/
def MV.sees (x : MV) (k : Nat) : Prop := x.pv.ownBlock = some k ∨ x.vv.ownBlock = some k ∨ x.ov.ownBlock = some k
theorem MR.sees_lt {w : World} {b : Nat} {m : Mc} {S : Nat → Prop} {x : MV} (h : MR w b m S x) {k : Nat} (hk : x.sees k) : k < w.heap.size := by
  rcases hk with hk | hk | hk
  · exact (h.prog.2 k hk).2
  · exact (h.view.2 k hk).2
  · exact (h.out.2 k hk).2
/-- three stores into a block that was made since w -/
theorem MR.far3 {w w' : World} {b : Nat} {m : Mc} {S S' : Nat → Prop} {x : MV} (h : MR w' b m S' x) (hF : Fr w w' S S') {r : Nat} (hr : w.heap.size ≤ r) (hS : ¬ S' r) (hq : ∀ k, x.sees k → k ≠ r) (v0 v1 v2 : Value) :
    MR (((w'.setCell ⟨r, 0, none⟩ v0).setCell ⟨r, 1, none⟩ v1).setCell ⟨r, 2, none⟩ v2) b m S' x ∧ Fr w (((w'.setCell ⟨r, 0, none⟩ v0).setCell ⟨r, 1, none⟩ v1).setCell ⟨r, 2, none⟩ v2) S S' :=
  ⟨((h.far (p := ⟨r, 0, none⟩) hS hq v0).far (p := ⟨r, 1, none⟩) hS hq v1).far (p := ⟨r, 2, none⟩) hS hq v2, ((hF.far (p := ⟨r, 0, none⟩) hr v0).far (p := ⟨r, 1, none⟩) hr v1).far (p := ⟨r, 2, none⟩) hr v2⟩
end Vm
end Go.Proofs.YtbefgplaaghlbaaGreatDoor

/-
  The machine's helpers: unless, num, text, truth, need.
-/
namespace Go.Proofs.YtbefgplaaghlbaaGreatDoor
open Go.RowKit Go.Lib
namespace Vm
open Tr

/-- what an instruction gives up with -/
abbrev stopV (e : Int) : List PanicEntry := [{ v := .iface 96 (.agg #[.int .i64 e]), recovered := false }]
set_option maxHeartbeats 400000 in
theorem unless_tt (e : Int) (w : World) : Calls Tryz.prog 88 #[.bool true, .int .i64 e] w fun r w' => r = .returned (.tuple #[]) ∧ w' = w := by
  go_enter Tryz.func88, Tryz.ntmps88
  go_wp2
  go_end0
  exact ⟨rfl, rfl⟩
set_option maxHeartbeats 400000 in
theorem unless_ff (e : Int) (w : World) : Calls Tryz.prog 88 #[.bool false, .int .i64 e] w fun r w' => r = .panicked (stopV e) ∧ w' = w := by
  go_enter Tryz.func88, Tryz.ntmps88
  go_wp2
  exact ⟨rfl, rfl, rfl⟩
/-- a value's three cells in a block -/
theorem val_cells {X : World} {g : Nat} {a b c : Value} {T : TypeId} (h : X.heap[g]? = some (.cells #[a, b, c] T (0, 0))) : X.cell? ⟨g, 0, none⟩ = some a ∧ X.cell? ⟨g, 1, none⟩ = some b ∧ X.cell? ⟨g, 2, none⟩ = some c ∧ X.frozen? ⟨g, 0, none⟩ = false ∧ X.frozen? ⟨g, 1, none⟩ = false ∧ X.frozen? ⟨g, 2, none⟩ = false := by
  refine ⟨?_, ?_, ?_, ?_, ?_, ?_⟩ <;> simp [World.cell?, World.frozen?, h]
theorem set3 {X : World} {g : Nat} {a b c : Value} {T : TypeId} (h : X.heap[g]? = some (.cells #[a, b, c] T (0, 0))) (a' b' c' : Value) : (((X.setCell ⟨g, 0, none⟩ a').setCell ⟨g, 1, none⟩ b').setCell ⟨g, 2, none⟩ c').heap[g]? = some (.cells #[a', b', c'] T (0, 0)) := by
  have h1 := heap_setCell_same X g 0 _ _ a' h
  have h2 := heap_setCell_same _ g 1 _ _ b' h1
  have h3 := heap_setCell_same _ g 2 _ _ c' h2
  simpa using h3
theorem below_set3 {B : Nat} {w X : World} (h : Below B w X) {g : Nat} (hg : B ≤ g) (a' b' c' : Value) : Below B w (((X.setCell ⟨g, 0, none⟩ a').setCell ⟨g, 1, none⟩ b').setCell ⟨g, 2, none⟩ c') := ((h.setCell (p := ⟨g, 0, none⟩) hg _).setCell (p := ⟨g, 1, none⟩) hg _).setCell (p := ⟨g, 2, none⟩) hg _
set_option maxHeartbeats 400000 in
theorem num_any (n : Int) (w : World) : Calls Tryz.prog 91 #[.int .i64 n] w fun r w' => r = .returned (.agg #[.bool false, .int .i64 n, .string ⟨#[]⟩]) ∧ Below w.heap.size w w' := by
  obtain ⟨c0, c1, c2, -⟩ := val_cells (heap_alloc_new w (.cells #[.bool false, .int .i64 n, .string ⟨#[]⟩] 75))
  go_enter Tryz.func91, Tryz.ntmps91
  go_wp2
  refine bodyPost_ret (v := .agg #[.bool false, .int .i64 n, .string ⟨#[]⟩]) (by simp [results, Tryz.results91, go_sem, c0, c1, c2]) rfl ⟨rfl, ?_⟩
  exact (Below.refl _ _).alloc (Nat.le_refl _) _
set_option maxHeartbeats 400000 in
theorem text_any (s : ByteArray) (w : World) : Calls Tryz.prog 90 #[.string s] w fun r w' => r = .returned (.agg #[.bool true, .int .i64 0, .string s]) ∧ Below w.heap.size w w' := by
  obtain ⟨c0, c1, c2, -⟩ := val_cells (heap_alloc_new w (.cells #[.bool true, .int .i64 0, .string s] 75))
  go_enter Tryz.func90, Tryz.ntmps90
  go_wp2
  refine bodyPost_ret (v := .agg #[.bool true, .int .i64 0, .string s]) (by simp [results, Tryz.results90, go_sem, c0, c1, c2]) rfl ⟨rfl, ?_⟩
  exact (Below.refl _ _).alloc (Nat.le_refl _) _
def b2i (b : Bool) : Int := if b = true then 1 else 0
set_option maxHeartbeats 400000 in
theorem truth_any (b : Bool) (w : World) : Calls Tryz.prog 92 #[.bool b] w fun r w' => r = .returned (.agg #[.bool false, .int .i64 (b2i b), .string ⟨#[]⟩]) ∧ Below w.heap.size w w' := by
  have HA := Lib.hid ((Below.refl w.heap.size w).alloc (Nat.le_refl _) (.cells #[.bool false, .int .i64 0, .string ⟨#[]⟩] 75))
  have hn := heap_alloc_new w (.cells #[.bool false, .int .i64 0, .string ⟨#[]⟩] 75)
  have HN := Lib.hid hn
  have hlt : w.heap.size < (w.alloc (.cells #[.bool false, .int .i64 0, .string ⟨#[]⟩] 75)).heap.size := by simp
  have HL := Lib.hid hlt
  have hc := fun n => num_any n (w.alloc (.cells #[.bool false, .int .i64 0, .string ⟨#[]⟩] 75))
  clear hn hlt
  cases b with
  | true =>
    go_enter Tryz.func92, Tryz.ntmps92
    go_wp2_with (go_at_call 91; with_reducible refine (hc _).mono ?_; clear hc; rintro e w1 ⟨he, hb⟩; subst he; have hk := (hb.block _ HL.out).trans HN.out; obtain ⟨c0, c1, c2, z0, z1, z2⟩ := val_cells hk; have HB := Lib.hid hb; have HK := Lib.hid hk; clear hb hk)
    obtain ⟨e0, e1, e2, -⟩ := val_cells (set3 HK.out (.bool false) (.int .i64 1) (.string ⟨#[]⟩))
    refine bodyPost_ret (v := .agg #[.bool false, .int .i64 1, .string ⟨#[]⟩]) (by simp [results, Tryz.results92, go_sem, e0, e1, e2]) rfl ⟨rfl, ?_⟩
    exact below_set3 (HA.out.trans (HB.out.mono HA.out.size)) (Nat.le_refl _) _ _ _
  | false =>
    go_enter Tryz.func92, Tryz.ntmps92
    go_wp2_with (go_at_call 91; with_reducible refine (hc _).mono ?_; clear hc; rintro e w1 ⟨he, hb⟩; subst he; have hk := (hb.block _ HL.out).trans HN.out; obtain ⟨c0, c1, c2, z0, z1, z2⟩ := val_cells hk; have HB := Lib.hid hb; have HK := Lib.hid hk; clear hb hk)
    obtain ⟨e0, e1, e2, -⟩ := val_cells (set3 HK.out (.bool false) (.int .i64 0) (.string ⟨#[]⟩))
    refine bodyPost_ret (v := .agg #[.bool false, .int .i64 0, .string ⟨#[]⟩]) (by simp [results, Tryz.results92, go_sem, e0, e1, e2]) rfl ⟨rfl, ?_⟩
    exact below_set3 (HA.out.trans (HB.out.mono HA.out.size)) (Nat.le_refl _) _ _ _
end Vm
end Go.Proofs.YtbefgplaaghlbaaGreatDoor

/-
  The machine's stack: need, pop, push.
-/
namespace Go.Proofs.YtbefgplaaghlbaaGreatDoor
open Go.RowKit Go.Shelf Go.Lib
namespace Vm
open Tr

theorem grown_fr {w w2 : World} {S : Nat → Prop} {row : Option Nat} (hr : ∀ k, row = some k → S k) (hg : w.grownBy w2 row) {S' : Nat → Prop} (hS : ∀ k, S' k → S k ∨ w.heap.size ≤ k) : Fr w w2 S S' :=
  ⟨hg.os, hg.tape, hg.output, hg.size, fun k hk hn => hg.block k hk fun e => hn (hr k e.symm), hS⟩
/-- another stack -/
theorem MR.stackTo {w w2 : World} {b : Nat} {m : Mc} {S : Nat → Prop} {x : MV} (h : MR w b m S x) (hg : w.grownBy w2 x.sv.ownBlock) {st : List V} {v' : Value} (hown : w2.ownsRow 0 75 3 v' st.length (rowV st))
    (hat : ∀ k, v'.ownBlock = some k → x.sv.ownBlock = some k ∨ w.heap.size ≤ k) :
    ∃ S', MR (w2.setCell ⟨b, 3, none⟩ v') b { m with stack := st } S' { x with sv := v' } ∧ Fr w (w2.setCell ⟨b, 3, none⟩ v') S S' := by
  have hbl : b < w.heap.size := h.hS b h.sb
  have hbo : x.sv.ownBlock ≠ some b := fun e => (h.hs b e).2 rfl
  have hS' : ∀ k, (S k ∨ v'.ownBlock = some k) → S k ∨ w.heap.size ≤ k := fun k hk => hk.elim .inl fun e => (hat k e).elim (fun e => .inl (h.hs k e).1) .inr
  have hF : Fr w (w2.setCell ⟨b, 3, none⟩ v') S fun k => S k ∨ v'.ownBlock = some k := (grown_fr (fun k e => (h.hs k e).1) hg hS').set (p := ⟨b, 3, none⟩) (.inl h.sb) v'
  have hvb : ∀ k, v'.ownBlock = some k → k ≠ b := fun k hk e => by
    subst e
    rcases hat k hk with h1 | h1
    · exact hbo h1
    · omega
  refine ⟨fun k => S k ∨ v'.ownBlock = some k, h.next hF ?_ h.c16 (.inl h.sb) ⟨rfl, rfl⟩ ⟨rfl, rfl⟩ ⟨rfl, rfl⟩ ?_ ?_ ?_ ?_ ?_, hF⟩
  · have hb2 : w2.heap[b]? = some (.cells (mcells m x).toArray 78 (0, 0)) := (hg.block b hbl (fun e => hbo e.symm)).trans h.blk
    rw [heap_setCell_same w2 b 3 _ _ v' hb2]
    simp [mcells]
  · exact own_blk hown fun k hk => Below.heap_setCell _ _ _ _ (hvb k hk)
  · refine own_blk h.calls fun k hk => (Below.heap_setCell _ _ _ _ (h.hc k hk).2.1).trans (hg.block k (h.hS _ (h.hc k hk).1) (fun e => (h.hc k hk).2.2 e.symm))
  · exact fun k hk => ⟨.inr hk, hvb k hk⟩
  · refine fun k hk => ⟨.inl (h.hc k hk).1, (h.hc k hk).2.1, fun e => ?_⟩
    rcases hat k e with h1 | h1
    · exact (h.hc k hk).2.2 h1
    · have := h.hS k (h.hc k hk).1
      omega
  · intro k hk
    have : (w2.setCell ⟨b, 3, none⟩ v').heap.size = w2.heap.size := by simp
    rw [this]
    rcases hk with hk | hk
    · exact Nat.lt_of_lt_of_le (h.hS k hk) hg.size
    · exact (hown.lt k hk).2
/-- other calls -/
theorem MR.callsTo {w w2 : World} {b : Nat} {m : Mc} {S : Nat → Prop} {x : MV} (h : MR w b m S x) (hg : w.grownBy w2 x.cv.ownBlock) {cl : List Nat} {v' : Value} (hown : w2.ownsRow 0 3 1 v' cl.length (rowN cl))
    (hat : ∀ k, v'.ownBlock = some k → x.cv.ownBlock = some k ∨ w.heap.size ≤ k) :
    ∃ S', MR (w2.setCell ⟨b, 4, none⟩ v') b { m with calls := cl } S' { x with cv := v' } ∧ Fr w (w2.setCell ⟨b, 4, none⟩ v') S S' := by
  have hbl : b < w.heap.size := h.hS b h.sb
  have hbo : x.cv.ownBlock ≠ some b := fun e => (h.hc b e).2.1 rfl
  have hS' : ∀ k, (S k ∨ v'.ownBlock = some k) → S k ∨ w.heap.size ≤ k := fun k hk => hk.elim .inl fun e => (hat k e).elim (fun e => .inl (h.hc k e).1) .inr
  have hF : Fr w (w2.setCell ⟨b, 4, none⟩ v') S fun k => S k ∨ v'.ownBlock = some k := (grown_fr (fun k e => (h.hc k e).1) hg hS').set (p := ⟨b, 4, none⟩) (.inl h.sb) v'
  have hvb : ∀ k, v'.ownBlock = some k → k ≠ b := fun k hk e => by
    subst e
    rcases hat k hk with h1 | h1
    · exact hbo h1
    · omega
  have hsc : ∀ k, x.sv.ownBlock = some k → v'.ownBlock ≠ some k := fun k hk e => by
    rcases hat k e with h1 | h1
    · exact (h.hc k h1).2.2 hk
    · have := h.hS k (h.hs k hk).1
      omega
  refine ⟨fun k => S k ∨ v'.ownBlock = some k, h.next hF ?_ h.c16 (.inl h.sb) ⟨rfl, rfl⟩ ⟨rfl, rfl⟩ ⟨rfl, rfl⟩ ?_ ?_ ?_ ?_ ?_, hF⟩
  · have hb2 : w2.heap[b]? = some (.cells (mcells m x).toArray 78 (0, 0)) := (hg.block b hbl (fun e => hbo e.symm)).trans h.blk
    rw [heap_setCell_same w2 b 4 _ _ v' hb2]
    simp [mcells]
  · refine own_blk h.stack fun k hk => (Below.heap_setCell _ _ _ _ (h.hs k hk).2).trans (hg.block k (h.hS _ (h.hs k hk).1) (fun e => (h.hc k e.symm).2.2 hk))
  · exact own_blk hown fun k hk => Below.heap_setCell _ _ _ _ (hvb k hk)
  · exact fun k hk => ⟨.inl (h.hs k hk).1, (h.hs k hk).2⟩
  · exact fun k hk => ⟨.inr hk, hvb k hk, fun e => hsc k e hk⟩
  · intro k hk
    have : (w2.setCell ⟨b, 4, none⟩ v').heap.size = w2.heap.size := by simp
    rw [this]
    rcases hk with hk | hk
    · exact Nat.lt_of_lt_of_le (h.hS k hk) hg.size
    · exact (hown.lt k hk).2
theorem grown_self (w : World) (row : Option Nat) : w.grownBy w row := ⟨rfl, rfl, rfl, Nat.le_refl _, fun _ _ _ => rfl⟩
theorem own_cut {w : World} {e : TypeId} {sz n n' g cap : Nat} {xs : List Value} (h : w.ownsRow 0 e sz (.slice (some ⟨g, 0, none⟩) n cap) n xs) (hn : n' ≤ n) : w.ownsRow 0 e sz (.slice (some ⟨g, 0, none⟩) n' cap) n' (xs.take (n' * sz)) := by
  have hm : n' * sz ≤ n * sz := Nat.mul_le_mul_right _ hn
  refine ⟨by rw [List.length_take, h.1]; omega, ?_⟩
  rcases h.2 with ⟨e, -⟩ | ⟨g', cap', cur, e, hb, hg, h1, h2, h3, h4⟩
  · cases e
  · cases e
    refine .inr ⟨g, cap, cur, rfl, hb, hg, by omega, h2, h3, ?_⟩
    rw [← h4, List.take_take]
    congr 1
    omega
/-- where the stack stands -/
theorem MR.sform {w : World} {b : Nat} {m : Mc} {S : Nat → Prop} {x : MV} (h : MR w b m S x) : ∃ sl cap, x.sv = .slice sl m.stack.length cap ∧ m.stack.length ≤ cap ∧ ∀ k v, m.stack[k]? = some v → ∃ g, sl = some ⟨g, 0, none⟩ ∧ S g ∧ w.cell? ⟨g, k * 3, none⟩ = some (.bool v.isT) ∧ w.cell? ⟨g, k * 3 + 1, none⟩ = some (.int .i64 v.n) ∧ w.cell? ⟨g, k * 3 + 2, none⟩ = some (.string v.s) := by
  rcases h.stack.2 with ⟨e, hn⟩ | ⟨g, cap, cur, e, hb, hg, hn, hm, hs, ht⟩
  · exact ⟨none, 0, by rw [e, hn], by omega, fun k v hv => by have := (List.getElem?_eq_some_iff.1 hv).1; omega⟩
  · refine ⟨_, cap, e, hn, fun k v hv => ⟨g, rfl, (h.hs g (by rw [e]; rfl)).1, ?_⟩⟩
    have hk := (List.getElem?_eq_some_iff.1 hv).1
    obtain ⟨a1, a2, a3⟩ := rowV_at _ _ _ hv
    rw [← ht, List.getElem?_take_of_lt (by omega), Array.getElem?_toList] at a1 a2 a3
    refine ⟨?_, ?_, ?_⟩ <;> simp [World.cell?, *]
set_option maxHeartbeats 1000000 in
theorem need_any {w : World} {b : Nat} {m : Mc} {S : Nat → Prop} {x : MV} (h : MR w b m S x) (k : Nat) :
    Calls Tryz.prog 95 #[.pointer (some ⟨b, 0, none⟩), .int .i64 k] w fun e w' => e = (if m.stack.length < k then .panicked (stopV 40) else .returned (.tuple #[])) ∧ w' = w := by
  obtain ⟨sl, cap, hsv, hc, -⟩ := h.sform
  have c3 := h.cells5.2.2.2.1
  rw [hsv] at c3
  clear h hsv
  by_cases hlt : m.stack.length < k
  · rw [if_pos hlt]
    have hn : ¬ (k : Int) ≤ m.stack.length := by omega
    go_enter Tryz.func95, Tryz.ntmps95
    go_wp2_with (go_at_call 88; with_reducible refine (unless_ff _ _).mono ?_; rintro e w1 ⟨he, hw⟩; subst he; subst hw)
    exact ⟨rfl, rfl, rfl⟩
  · rw [if_neg hlt]
    have hn : (k : Int) ≤ m.stack.length := by omega
    go_enter Tryz.func95, Tryz.ntmps95
    go_wp2_with (go_at_call 88; with_reducible refine (unless_tt _ _).mono ?_; rintro e w1 ⟨he, hw⟩; subst he; subst hw)
    go_end0
    exact ⟨rfl, rfl⟩
set_option maxHeartbeats 4000000 in
set_option maxRecDepth 100000 in
theorem pop_any {w : World} {b : Nat} {m : Mc} {S : Nat → Prop} {x : MV} (h : MR w b m S x) {st : List V} {v : V} (hst : m.stack = st ++ [v]) (hl : st.length ≤ 1000) :
    Calls Tryz.prog 96 #[.pointer (some ⟨b, 0, none⟩)] w fun e w' => e = .returned v.val ∧ ∃ S' x', MR w' b { m with stack := st } S' x' ∧ Fr w w' S S' := by
  have hA : Below w.heap.size w (w.alloc (.cells #[.bool false, .int .i64 0, .string ⟨#[]⟩] 75)) := (Below.refl _ _).alloc (Nat.le_refl _) _
  have hn := heap_alloc_new w (.cells #[.bool false, .int .i64 0, .string ⟨#[]⟩] 75)
  have h1 := h.keep hA
  obtain ⟨sl, cap, hsv, hc, hat⟩ := h1.sform
  rw [hst, List.length_append, List.length_singleton] at hsv hc
  have hc1 : st.length ≤ cap := by omega
  obtain ⟨g, rfl, hSg, c0, c1, c2⟩ := hat st.length v (by rw [hst]; simp)
  have c3 := h1.cells5.2.2.2.1
  rw [hsv] at c3
  have H0 := Lib.hid h
  have H1 := Lib.hid h1
  have HN := Lib.hid hn
  have HA := Lib.hid hA
  have HST := Lib.hid hst
  have HSV := Lib.hid hsv
  clear h h1 hn hA hst hsv hc hat hSg
  generalize hvt : v.isT = vt at *
  have HVT := Lib.hid hvt
  clear hvt
  go_enter Tryz.func96, Tryz.ntmps96
  go_wp2_with fail
  generalize hW : w.alloc (.cells #[.bool false, .int .i64 0, .string ⟨#[]⟩] 75) = W at *
  clear hW
  have e0 := Sx.ext_cell c0
  have e1 := Sx.ext_cell c1
  have e2 := Sx.ext_cell c2
  have e3 := Sx.ext_cell c3
  have hD := (Below.refl W.heap.size W).drew
  refine Mix.region (fun w' => ∃ Y, w' = Sx.ext W Y) 14 [0, 0, 0, 0, 0, 0, 0, 0, 0, 0, 0, 0, 1, 1] [true, false] (by kernel_rfl) (fun _ _ d _ _ h => by cases d <;> exact h) (by rfl) (by kernel_rfl) ⟨W.drew, Sx.ext_of hD⟩ ?_
  simp only [Mix.selP_cons, Mix.selP_nil, Mix.sel_cons, Mix.sel_nil, Nat.reduceBEq, Nat.reduceAdd, cond_true, cond_false, List.drop_succ_cons, List.drop_nil]
  refine Mix.parts_q ?_
  repeat (go_big_quiet_step (fail))
  refine wpQuiet_nil ?_
  clear e0 e1 e2 e3
  refine Mix.parts_e ?_
  refine Mix.eff_step (fun K hK => ?_)
  go_simp
  have hA2 : Below W.heap.size W (W.alloc (.cells #[.bool false, .int .i64 0, .string ⟨#[]⟩] 75)).drew := ((Below.refl W.heap.size W).alloc (Nat.le_refl _) _).drew
  refine hK _ _ ⟨_, Sx.ext_of hA2⟩ ?_
  clear hK K hA2
  refine Mix.eff_step (fun K hK => ?_)
  go_simp
  have hA3 : Below W.heap.size W (W.alloc (.cells #[.bool vt, .int .i64 v.n, .string v.s] 75)).drew := ((Below.refl W.heap.size W).alloc (Nat.le_refl _) _).drew
  have hn3 : (W.alloc (.cells #[.bool vt, .int .i64 v.n, .string v.s] 75)).drew.heap[W.heap.size]? = some (.cells #[.bool vt, .int .i64 v.n, .string v.s] 75 (0, 0)) := heap_alloc_new _ _
  refine hK _ _ ⟨_, Sx.ext_of hA3⟩ ?_
  clear hK K hD
  have HA3 := Lib.hid hA3
  have HN3 := Lib.hid hn3
  have HL := Lib.hid (show w.heap.size < W.heap.size from (Array.getElem?_eq_some_iff.1 HN.out).1)
  generalize (W.alloc (.cells #[.bool vt, .int .i64 v.n, .string v.s] 75)).drew = W2 at *
  have c3' := Sx.keep_cell hA3 c3
  clear hA3 hn3 c0 c1 c2 c3
  refine Mix.eff_nil ?_
  refine Mix.parts_n ?_
  go_wp2_with fail
  have hwr : IntKind.i64.wrap (st.length : Int) = (st.length : Int) := IntWalk.i64_in _ (by omega)
  go_still_tail 14, (by kernel_rfl)
  change wpList _ _ _ _ _ (World.drewN W2 1)
  have hA4 : Below W2.heap.size W2 (World.drewN W2 1) := Sx.below_drewN (Below.refl _ _) 1
  have h4 := (H1.out.keep HA3.out).keep hA4
  have c3 := h4.cells5.2.2.2.1
  have z3 := h4.frz 3
  rw [HSV.out] at c3
  have hown : (World.drewN W2 1).ownsRow 0 75 3 (.slice (some ⟨g, 0, none⟩) st.length cap) st.length (rowV st) := by
    have h5 := h4.stack
    rw [HSV.out, HST.out, List.length_append, List.length_singleton] at h5
    have h6 := own_cut h5 (Nat.le_succ st.length)
    rw [rowV_take, List.take_left] at h6
    exact h6
  obtain ⟨S', h7, hF⟩ := h4.stackTo (grown_self _ _) hown (fun k hk => .inl (by rw [HSV.out]; exact hk))
  have HA4 := Lib.hid hA4
  have HS' := Lib.hid hF.own
  have HM7 := Lib.hid (And.intro h7 ((Fr.of (HA.out.trans ((HA3.out.trans (hA4.mono HA3.out.size)).mono HA.out.size))).trans hF))
  have hk3 : ((World.drewN W2 1).setCell ⟨b, 3, none⟩ (.slice (some ⟨g, 0, none⟩) st.length cap)).heap[W.heap.size]? = some (.cells #[.bool vt, .int .i64 v.n, .string v.s] 75 (0, 0)) := (Below.heap_setCell _ _ _ _ (by
    have h9 := H1.out.hS b H1.out.sb
    show W.heap.size ≠ b
    omega)).trans HN3.out
  have hk0 : ((World.drewN W2 1).setCell ⟨b, 3, none⟩ (.slice (some ⟨g, 0, none⟩) st.length cap)).heap[w.heap.size]? = some (.cells #[.bool false, .int .i64 0, .string ⟨#[]⟩] 75 (0, 0)) := (Below.heap_setCell _ _ _ _ (by
    have h9 := H0.out.hS b H0.out.sb
    show w.heap.size ≠ b
    omega)).trans ((HA3.out.block _ HL.out).trans HN.out)
  obtain ⟨d0, d1, d2, -⟩ := val_cells hk3
  obtain ⟨f0, f1, f2, y0, y1, y2⟩ := val_cells hk0
  have HK0 := Lib.hid hk0
  clear h4 hown h7 hF hA4 hk3 hk0 hwr c3'
  go_wp2_with fail
  have hk9 := set3 HK0.out (.bool vt) (.int .i64 v.n) (.string v.s)
  obtain ⟨g0, g1, g2, -⟩ := val_cells hk9
  have h0 := H0.out
  obtain ⟨h7, hF⟩ := HM7.out
  have hnS : ¬ S' w.heap.size := fun hc => by
    rcases hF.own _ hc with h1 | h1
    · exact absurd (h0.hS _ h1) (by omega)
    · have := HL.out
      have h2 := HS'.out _ hc
      rcases h2 with h2 | h2
      · exact absurd (h0.hS _ h2) (by omega)
      · have a1 := HA3.out.size
        have a2 := HA4.out.size
        omega
  obtain ⟨h8, hF8⟩ := h7.far3 hF (Nat.le_refl _) hnS (fun k hk => by
    have : k < w.heap.size := h0.sees_lt hk
    omega) (.bool vt) (.int .i64 v.n) (.string v.s)
  refine bodyPost_ret (v := .agg #[.bool vt, .int .i64 v.n, .string v.s]) (by simp [results, Tryz.results96, go_sem, g0, g1, g2]) rfl ⟨by rw [← HVT.out], S', _, h8, hF8⟩
/-! worlds in which what there was is as it was, but for one row -/
open Classical in
noncomputable def kr (X : World) (row : Option Nat) (Y : World) : World := if (∀ k, k < X.heap.size → row ≠ some k → Y.heap[k]? = X.heap[k]?) then Y else X
theorem kr_blk (X : World) (row : Option Nat) (Y : World) {k : Nat} (hk : k < X.heap.size) (hr : row ≠ some k) : (kr X row Y).heap[k]? = X.heap[k]? := by
  unfold kr
  split
  · rename_i h; exact h k hk hr
  · rfl
theorem kr_of {X Y : World} {row : Option Nat} (h : ∀ k, k < X.heap.size → row ≠ some k → Y.heap[k]? = X.heap[k]?) : ∃ Z, Y = kr X row Z := ⟨Y, by unfold kr; rw [if_pos h]⟩
theorem kr_cell {X : World} {row : Option Nat} {b j : Nat} {v : Value} (h : X.cell? ⟨b, j, none⟩ = some v) (hr : row ≠ some b) (Y : World) : (kr X row Y).cell? ⟨b, j, none⟩ = some v :=
  (World.cell?_of_block (w := X) (a := ⟨b, j, none⟩) (kr_blk X row Y (World.block_lt_of_cell? X ⟨b, j, none⟩ h) hr)).trans h
theorem info_val : (Tryz.prog.info? 75).map (fun i => (i.zero, i.size, i.bytes)) = some (some (.agg #[.bool false, .int .i64 0, .string ⟨#[]⟩]), 3, 32) := by kernel_rfl
/-- the stack with more values behind it: the append -/
theorem MR.append {w : World} {b : Nat} {m : Mc} {S : Nat → Prop} {x : MV} (h : MR w b m S x) {W2 : World} (hb : Below w.heap.size w W2) {g : Nat} {vs : List V} (hg : W2.heap[g]? = some (.cells (rowV vs).toArray 75 (0, 0))) (hl : m.stack.length ≤ 1000) (hv : vs.length ≤ 1000) :
    ∃ v' w3, (Builtin.append_ #[61, 61] 61 #[x.sv, .slice (some ⟨g, 0, none⟩) vs.length vs.length]).run Tryz.prog W2 = .ok v' w3 ∧ w3.ownsRow 0 75 3 v' (m.stack ++ vs).length (rowV (m.stack ++ vs)) ∧ W2.grownBy w3 x.sv.ownBlock ∧ (∀ k, v'.ownBlock = some k → x.sv.ownBlock = some k ∨ W2.heap.size ≤ k) ∧ ∃ sl n cap, v' = .slice sl n cap := by
  obtain ⟨i0, hi0, hz⟩ := Option.map_eq_some_iff.1 info_val
  obtain ⟨z1, z2⟩ := Prod.mk.inj hz
  obtain ⟨z2, z3⟩ := Prod.mk.inj z2
  have hown := (h.keep hb).stack
  obtain ⟨v', w3, hr, h1, h2, -, h4⟩ := run_append_own_at (P := Tryz.prog) W2 0 61 61 75 i0 _ 3 32 Tryz.underlying61 hi0 z1 z2 z3 rfl (by decide) x.sv m.stack.length _ hown ⟨g, 0, none⟩ vs.length vs.length (rowV vs) (rowV_len vs) (by
    have := World.news_of_block (cs := (rowV vs).toArray) hg
    simpa using this) (rowV_one vs) (by unfold maxLen; omega) (by omega) (Nat.zero_le _)
  refine ⟨v', w3, hr, by rw [List.length_append, rowV_app]; exact h1, h2, fun k hk => ?_, ?_⟩
  · rcases h4 with h4 | h4
    · exact .inl (h4 ▸ hk)
    · rw [h4] at hk
      exact .inr (by have := Option.some.inj hk; omega)
  · rcases h1.2 with ⟨rfl, -⟩ | ⟨g', cap, cur, rfl, -⟩
    · exact ⟨_, _, _, rfl⟩
    · exact ⟨_, _, _, rfl⟩
theorem append_wp {ops : Array Oper} {o : Oper} {a : Act} {w w' : World} {K : Act → World → Prop} {Q : Exit → Act → World → Prop} (s x : Operand) (t : TypeId) (ho : o.op = .call { callee := .builtin .append, args := #[s, x], argTypes := #[t, t] }) (hg : o.guard = none) {v1 v2 v' : Value}
    (hs : a.eval s = v1) (hx : a.eval x = v2) (hr : (Builtin.append_ #[t, t] o.type #[v1, v2]).run Tryz.prog w = .ok v' w') (hK : K (a.put o.dst v') w') : if Region.wanted o (yielded ops a.tmps) then o.wp Tryz.prog a w K Q else K (a.put o.dst undef) w := by
  rw [if_pos (by simp [Region.wanted, hg])]
  unfold Oper.wp execOp
  simp only [ho, resolve, invoke, builtin, Sem.run_bind, Sem.run_pure, Result.andThen_ok, List.map_toArray, List.map_cons, List.map_nil, hs, hx, hr]
  exact hK
set_option maxHeartbeats 4000000 in
set_option maxRecDepth 100000 in
theorem push_any {w : World} {b : Nat} {m : Mc} {S : Nat → Prop} {x : MV} (h : MR w b m S x) (v : V) (hl : m.stack.length < 64) :
    Calls Tryz.prog 89 #[.pointer (some ⟨b, 0, none⟩), .agg #[.bool v.isT, .int .i64 v.n, .string v.s]] w fun e w' => e = .returned (.tuple #[]) ∧ ∃ S' x', MR w' b { m with stack := m.stack ++ [v] } S' x' ∧ Fr w w' S S' := by
  have hA : Below w.heap.size w (w.alloc (.cells #[.bool v.isT, .int .i64 v.n, .string v.s] 75)) := (Below.refl _ _).alloc (Nat.le_refl _) _
  have hn := heap_alloc_new w (.cells #[.bool v.isT, .int .i64 v.n, .string v.s] 75)
  have h1 := h.keep hA
  obtain ⟨sl, cap, hsv, hc, hat⟩ := h1.sform
  have c3 := h1.cells5.2.2.2.1
  have z3 := h1.frz 3
  rw [hsv] at c3
  have hl1 : (m.stack.length : Int) < 64 := by omega
  have H0 := Lib.hid h
  have H1 := Lib.hid h1
  have HN := Lib.hid hn
  have HA := Lib.hid hA
  have HSV := Lib.hid hsv
  clear h h1 hn hA hsv hc hat
  go_enter Tryz.func89, Tryz.ntmps89
  go_wp2_with (go_at_call 88; with_reducible refine (unless_tt _ _).mono ?_; rintro e w1 ⟨he, hw⟩; subst he; subst hw)
  generalize hW : w.alloc (.cells #[.bool v.isT, .int .i64 v.n, .string v.s] 75) = W at *
  clear hW
  obtain ⟨k0, k1, k2, -⟩ := val_cells HN.out
  have hbo : x.sv.ownBlock ≠ some b := fun e => (H0.out.hs b e).2 rfl
  have hwo : x.sv.ownBlock ≠ some w.heap.size := fun e => absurd (H0.out.hS _ (H0.out.hs _ e).1) (by omega)
  have e0 := kr_cell k0 hwo
  have e1 := kr_cell k1 hwo
  have e2 := kr_cell k2 hwo
  have e3 := kr_cell c3 hbo
  have hbd : Below W.heap.size W (W.alloc (.cells (rowV [v]).toArray 75)).drew := ((Below.refl W.heap.size W).alloc (Nat.le_refl _) _).drew
  obtain ⟨v', w3, hr, hown, hg3, hat3, sl3, n3, cap3, hv3⟩ := H1.out.append hbd (g := W.heap.size) (vs := [v]) (heap_alloc_new _ _) (by omega) (by simp)
  subst hv3
  rw [HSV.out] at hr hbo hwo hg3 hat3
  have HG3 := Lib.hid (And.intro hbd (And.intro hown (And.intro hg3 hat3)))
  have HBO := Lib.hid hbo
  clear hown hg3 hat3 hbd
  replace hr : (Builtin.append_ #[61, 61] 61 #[.slice sl m.stack.length cap, .slice (some ⟨W.heap.size, 0, none⟩) 1 1]).run Tryz.prog (W.alloc (.cells #[.bool v.isT, .int .i64 v.n, .string v.s] 75)).drew = .ok (.slice sl3 n3 cap3) w3 := hr
  rw [HSV.out] at e0 e1 e2 e3
  refine Mix.region (fun u => ∃ Y, u = kr W (Value.ownBlock (.slice sl m.stack.length cap)) Y) 8 [0, 0, 0, 0, 0, 0, 1, 1, 9, 9, 9] [true, false] (by kernel_rfl) (fun _ _ d _ _ h => by cases d <;> exact h) (by rfl) (by kernel_rfl) (kr_of fun _ _ _ => rfl) ?_
  simp only [Mix.selP_cons, Mix.selP_nil, Mix.sel_cons, Mix.sel_nil, Nat.reduceBEq, Nat.reduceAdd, cond_true, cond_false, List.drop_succ_cons, List.drop_zero]
  refine Mix.parts_q ?_
  repeat (go_big_quiet_step (fail))
  refine wpQuiet_nil ?_
  clear e0 e1 e2 e3
  refine Mix.parts_e ?_
  refine Mix.eff_step (fun K hK => ?_)
  go_simp
  refine hK _ _ (kr_of fun k hk _ => HG3.out.1.block k hk) ?_
  clear hK K
  refine Mix.eff_step (fun K hK => ?_)
  refine append_wp _ _ _ rfl rfl rfl rfl hr ?_
  refine hK _ _ (kr_of fun k hk hr => (HG3.out.2.2.1.block k (Nat.lt_of_lt_of_le hk HG3.out.1.size) fun e => hr e.symm).trans (HG3.out.1.block k hk)) ?_
  clear hK K hr
  obtain ⟨hbd, hown, hg3, hat3⟩ := HG3.out
  have hgg : W.grownBy w3 x.sv.ownBlock := by
    rw [HSV.out]
    exact ⟨hg3.os.trans hbd.os, hg3.tape.trans hbd.tape, hg3.output.trans hbd.output, Nat.le_trans hbd.size hg3.size, fun k hk hn => (hg3.block k (Nat.lt_of_lt_of_le hk hbd.size) hn).trans (hbd.block k hk)⟩
  obtain ⟨S', h7, hF⟩ := H1.out.stackTo hgg hown (fun k hk => (hat3 k hk).elim (fun h => .inl (by rw [HSV.out]; exact h)) fun h => .inr (Nat.le_trans hbd.size h))
  have HM7 := Lib.hid (And.intro h7 ((Fr.of HA.out).trans hF))
  have c3' := (World.cell?_of_block (w := W) (a := ⟨b, 3, none⟩) ((hg3.block b (Nat.lt_of_lt_of_le (H1.out.hS b H1.out.sb) hbd.size) fun e => HBO.out e.symm).trans (hbd.block b (H1.out.hS b H1.out.sb)))).trans c3
  have z3' := (World.frozen?_of_block (w := W) (a := ⟨b, 3, none⟩) ((hg3.block b (Nat.lt_of_lt_of_le (H1.out.hS b H1.out.sb) hbd.size) fun e => HBO.out e.symm).trans (hbd.block b (H1.out.hS b H1.out.sb)))).trans z3
  clear hbd hown hg3 hat3 hgg h7 hF c3 z3 k0 k1 k2
  refine Mix.eff_nil ?_
  refine Mix.parts_n ?_
  go_wp2_with fail
  go_end0
  exact ⟨rfl, S', _, HM7.out⟩
/-- no room -/
theorem push_full {w : World} {b : Nat} {m : Mc} {S : Nat → Prop} {x : MV} (h : MR w b m S x) (v : V) (hl : ¬ m.stack.length < 64) :
    Calls Tryz.prog 89 #[.pointer (some ⟨b, 0, none⟩), .agg #[.bool v.isT, .int .i64 v.n, .string v.s]] w fun e w' => e = .panicked (stopV 40) ∧ MR w' b m S x ∧ Fr w w' S S := by
  have hA : Below w.heap.size w (w.alloc (.cells #[.bool v.isT, .int .i64 v.n, .string v.s] 75)) := (Below.refl _ _).alloc (Nat.le_refl _) _
  have h1 := h.keep hA
  obtain ⟨sl, cap, hsv, hc, hat⟩ := h1.sform
  have c3 := h1.cells5.2.2.2.1
  rw [hsv] at c3
  have hl1 : ¬ (m.stack.length : Int) < 64 := by omega
  have H1 := Lib.hid h1
  have HA := Lib.hid hA
  clear h h1 hA hsv hc hat
  go_enter Tryz.func89, Tryz.ntmps89
  go_wp2_with (go_at_call 88; with_reducible refine (unless_ff _ _).mono ?_; rintro e w1 ⟨he, hw⟩; subst he; subst hw)
  exact ⟨rfl, rfl, H1.out, Fr.of HA.out⟩
end Vm
end Go.Proofs.YtbefgplaaghlbaaGreatDoor

/-
  The machine's stack: kinds.
-/
namespace Go.Proofs.YtbefgplaaghlbaaGreatDoor
open Go.RowKit Go.Shelf Go.Lib
namespace Vm
open Tr

/-- the bytes of signs -/
def sgB (sg : List Bool) : List UInt8 := sg.map fun b => if b = true then 116 else 110
theorem sg_at {sg : List Bool} {σ : ByteArray} (hσ : σ.data.toList = sgB sg) {k : Nat} (hk : k < σ.size) {b : Bool} (hb : sg[k]? = some b) : ((σ[k].toNat : Int) == 116) = b := by
  have h1 : σ.data.toList[k]? = some σ[k] := by
    rw [List.getElem?_eq_getElem (by rw [← Lib.size_eq σ]; exact hk)]
    rfl
  rw [hσ] at h1
  unfold sgB at h1
  rw [List.getElem?_map, hb] at h1
  have h2 := Option.some.inj h1
  rw [← h2]
  cases b <;> rfl
theorem sg_len {sg : List Bool} {σ : ByteArray} (hσ : σ.data.toList = sgB sg) : σ.size = sg.length := by
  rw [Lib.size_eq, hσ]
  simp [sgB]
theorem sizeVal : ∀ w, (Go.sizeOf 75).run Tryz.prog w = .ok 3 w := Tryz.sizeOf75
/-- values that can be read in a block -/
def VC (w : World) (g : Nat) (l : List V) : Prop := g < w.heap.size ∧ ∀ k v, l[k]? = some v → w.cell? ⟨g, k * 3, none⟩ = some (.bool v.isT) ∧ w.cell? ⟨g, k * 3 + 1, none⟩ = some (.int .i64 v.n) ∧ w.cell? ⟨g, k * 3 + 2, none⟩ = some (.string v.s)
theorem VC.keep {w w' : World} {g : Nat} {l : List V} (h : VC w g l) (hb : Below w.heap.size w w') : VC w' g l :=
  ⟨Nat.lt_of_lt_of_le h.1 hb.size, fun k v hk => ⟨(hb.cell (p := ⟨g, k * 3, none⟩) h.1).trans (h.2 k v hk).1, (hb.cell (p := ⟨g, k * 3 + 1, none⟩) h.1).trans (h.2 k v hk).2.1, (hb.cell (p := ⟨g, k * 3 + 2, none⟩) h.1).trans (h.2 k v hk).2.2⟩⟩
theorem own_vc {w : World} {B n : Nat} {v : Value} {l : List V} (h : w.ownsRow B 75 3 v n (rowV l)) (hn : n = l.length) (hl : 0 < l.length) : ∃ g cap, v = .slice (some ⟨g, 0, none⟩) l.length cap ∧ B ≤ g ∧ VC w g l := by
  subst hn
  rcases h.2 with ⟨-, hn⟩ | ⟨g, cap, cur, rfl, hb, hg, hn, hm, hs, ht⟩
  · omega
  · refine ⟨g, cap, rfl, hb, (Array.getElem?_eq_some_iff.1 hg).1, fun k v hv => ?_⟩
    have hk := (List.getElem?_eq_some_iff.1 hv).1
    obtain ⟨a1, a2, a3⟩ := rowV_at _ _ _ hv
    rw [← ht, List.getElem?_take_of_lt (by omega), Array.getElem?_toList] at a1 a2 a3
    refine ⟨?_, ?_, ?_⟩ <;> simp [World.cell?, *]
/-- the top of the stack, to be read -/
theorem MR.top {w : World} {b : Nat} {m : Mc} {S : Nat → Prop} {x : MV} (h : MR w b m S x) {rest top : List V} (hst : m.stack = rest ++ top) (ht : 0 < top.length) :
    ∃ g cap, x.sv = .slice (some ⟨g, 0, none⟩) (rest.length + top.length) cap ∧ S g ∧ rest.length + top.length ≤ cap ∧ (∀ j u, (rowV top)[j]? = some u → w.cell? ⟨g, rest.length * 3 + j, none⟩ = some u) ∧ w.ownsRow 0 75 3 (.slice (some ⟨g, 0, none⟩) rest.length cap) rest.length (rowV rest) := by
  have hs := h.stack
  have hat := h.hs
  rw [hst, List.length_append] at hs
  rcases hs.2 with ⟨-, hn⟩ | ⟨g, cap, cur, e, hb, hg, hn, hm, hsz, htk⟩
  · omega
  · rw [e] at hs
    have hc := hs.cells (g := g) rfl
    refine ⟨g, cap, e, (hat g (by rw [e]; rfl)).1, hn, fun j u hj => ?_, ?_⟩
    · have h1 := hc (rest.length * 3 + j) u (by
        rw [rowV_app, List.getElem?_append_right (by rw [rowV_len]; omega), rowV_len, Nat.add_sub_cancel_left]
        exact hj)
      have hadd : (⟨g, 0, none⟩ : Addr).add (rest.length * 3 + j) = ⟨g, rest.length * 3 + j, none⟩ := by unfold Addr.add; split <;> simp_all
      rw [hadd] at h1
      exact h1
    · have h6 := own_cut hs (Nat.le_add_right rest.length top.length)
      rw [rowV_take, List.take_left] at h6
      exact h6
set_option maxHeartbeats 4000000 in
set_option maxRecDepth 100000 in
theorem kinds_few {w : World} {b : Nat} {m : Mc} {S : Nat → Prop} {x : MV} (h : MR w b m S x) {sg : List Bool} {σ : ByteArray} (hσ : σ.data.toList = sgB sg) (hl : m.stack.length < sg.length) :
    Calls Tryz.prog 87 #[.pointer (some ⟨b, 0, none⟩), .string σ] w fun e w' => e = .panicked (stopV 40) ∧ w' = w := by
  have hn := need_any h sg.length
  rw [if_pos hl] at hn
  have hs := sg_len hσ
  rw [← hs] at hn
  clear hσ h hs
  go_enter Tryz.func87, Tryz.ntmps87
  go_wp2_with (go_at_call 95; with_reducible refine hn.mono ?_; clear hn; rintro e w1 ⟨he, hw⟩; subst he; subst hw)
  exact ⟨rfl, rfl, rfl⟩
/-- the signs that fit, from the deepest on -/
def fits (top : List V) (sg : List Bool) (k : Nat) : Prop := (top.take k).map V.isT = sg.take k
theorem fits_next {top : List V} {sg : List Bool} {k : Nat} {v : V} {d : Bool} (h : fits top sg k) (hv : top[k]? = some v) (hd : sg[k]? = some d) (e : v.isT = d) : fits top sg (k + 1) := by
  unfold fits at *
  rw [List.take_add_one, hv, List.take_add_one (l := sg), hd, List.map_append, h, e.symm]
  rfl
theorem fits_not {top : List V} {sg : List Bool} {k : Nat} {v : V} {d : Bool} (hv : top[k]? = some v) (hd : sg[k]? = some d) (e : v.isT ≠ d) : ¬ top.map V.isT = sg := by
  rintro rfl
  rw [List.getElem?_map, hv] at hd
  exact e (Option.some.inj hd)
theorem fits_all {top : List V} {sg : List Bool} {k : Nat} (h : fits top sg k) (h1 : top.length = k) (h2 : sg.length = k) : top.map V.isT = sg := by
  unfold fits at h
  rwa [List.take_of_length_le (by omega), List.take_of_length_le (by omega)] at h
/-- what is left when k values are taken -/
theorem MR.cutS {w : World} {b : Nat} {m : Mc} {S : Nat → Prop} {x : MV} (h : MR w b m S x) {rest : List V} {g n cap : Nat} (hsv : x.sv = .slice (some ⟨g, 0, none⟩) n cap) (hown : w.ownsRow 0 75 3 (.slice (some ⟨g, 0, none⟩) rest.length cap) rest.length (rowV rest)) :
    ∃ S', MR (w.setCell ⟨b, 3, none⟩ (.slice (some ⟨g, 0, none⟩) rest.length cap)) b { m with stack := rest } S' { x with sv := .slice (some ⟨g, 0, none⟩) rest.length cap } ∧ Fr w (w.setCell ⟨b, 3, none⟩ (.slice (some ⟨g, 0, none⟩) rest.length cap)) S S' :=
  h.stackTo (grown_self _ _) hown fun k hk => .inl (by rw [hsv]; exact hk)
/-- what kinds answers where so many values are there -/
def KindsOut (w : World) (b : Nat) (m : Mc) (S : Nat → Prop) (x : MV) (rest top : List V) (sg : List Bool) (e : Ending) (w' : World) : Prop :=
  if top.map V.isT = sg then ∃ g cap S' x', e = .returned (.slice (some ⟨g, 0, none⟩) top.length cap) ∧ MR w' b { m with stack := rest } S' x' ∧ Fr w w' S S' ∧ w.heap.size ≤ g ∧ ¬ S' g ∧ VC w' g top
  else e = .panicked (stopV 41) ∧ MR w' b m S x ∧ Fr w w' S S
set_option maxHeartbeats 8000000 in
set_option maxRecDepth 100000 in
theorem kinds_any {w : World} {b : Nat} {m : Mc} {S : Nat → Prop} {x : MV} (h : MR w b m S x) {rest top : List V} (hst : m.stack = rest ++ top) {sg : List Bool} {σ : ByteArray} (hσ : σ.data.toList = sgB sg) (hl : top.length = sg.length) (h0 : 0 < sg.length) (hL : m.stack.length ≤ 1000) :
    Calls Tryz.prog 87 #[.pointer (some ⟨b, 0, none⟩), .string σ] w (KindsOut w b m S x rest top sg) := by
  have hn := need_any h sg.length
  rw [if_neg (by rw [hst, List.length_append]; omega)] at hn
  have hs := sg_len hσ
  rw [← hs] at hn
  have hz : top.length = σ.size := by omega
  obtain ⟨g, cap, hsv, hSg, hcap, htop, hown⟩ := h.top hst (by omega)
  have c3 := h.cells5.2.2.2.1
  have z3 := h.frz 3
  have hrl : rest.length ≤ 1000 := by rw [hst, List.length_append] at hL; omega
  have htl : top.length ≤ 1000 := by rw [hst, List.length_append] at hL; omega
  rw [hz] at hsv hcap htl
  rw [hsv] at c3
  have H0 := Lib.hid h
  have HSV := Lib.hid hsv
  have HSG := Lib.hid hSg
  have HTOP := Lib.hid htop
  have HOWN := Lib.hid hown
  have HST := Lib.hid hst
  have HZ := Lib.hid hz
  have HS := Lib.hid hs
  have HSI := Lib.hid hσ
  have H00 := Lib.hid h0
  clear h hst hsv hSg htop hown hs hl hz hσ h0 hL
  generalize hr : rest.length = r at *
  have HR := Lib.hid hr
  clear hr
  have q1 : (((r + σ.size : Nat) : Int) - (σ.size : Int)) = (r : Int) := by omega
  have q2 : ((r : Int) + (σ.size : Int) - (σ.size : Int)) = (r : Int) := by omega
  have q3 : r ≤ r + σ.size := by omega
  have q4 : ¬ cap = r := by have := H00.out; have := HS.out; omega
  go_enter Tryz.func87, Tryz.ntmps87
  go_wp2_with (go_at_call 95; with_reducible refine hn.mono ?_; clear hn; rintro e w1 ⟨he, hw⟩; subst he; subst hw)
  go_quiet (fail)
  have HD := Lib.hid (show Below w1.heap.size w1 (w1.drewN nq) from Sx.below_drewN (Below.refl _ _) nq)
  clear c3
  generalize w1.drewN nq = w2 at *
  go_wp2_with fail
  go_loopw [28] (fun i wr => ∃ k : Nat, k ≤ σ.size ∧ i = .int .i64 (k : Int) ∧ fits top sg k ∧ Below w1.heap.size w1 wr) (fun i _ => σ.size - (RowKit.intOf i).toNat)
  case atStart => exact ⟨0, Nat.zero_le _, rfl, rfl, HD.out⟩
  case round =>
    clear HD
    obtain ⟨k, hk, rfl, hf, hb⟩ := hrel
    have HF := Lib.hid hf
    have HB := Lib.hid hb
    clear hf
    by_cases hlt : k < σ.size
    · obtain ⟨v, hv⟩ : ∃ v, top[k]? = some v := ⟨top[k]'(by rw [HZ.out]; exact hlt), List.getElem?_eq_getElem _⟩
      obtain ⟨d, hd⟩ : ∃ d, sg[k]? = some d := ⟨sg[k]'(by rw [← HS.out]; exact hlt), List.getElem?_eq_getElem _⟩
      have hgl : g < w1.heap.size := H0.out.hS g HSG.out
      obtain ⟨a1, a2, a3⟩ := rowV_at _ _ _ hv
      have c0 := (hb.cell (p := ⟨g, r * 3 + k * 3, none⟩) hgl).trans (HTOP.out _ _ a1)
      have c1 := (hb.cell (p := ⟨g, r * 3 + (k * 3 + 1), none⟩) hgl).trans (HTOP.out _ _ a2)
      have c2 := (hb.cell (p := ⟨g, r * 3 + (k * 3 + 2), none⟩) hgl).trans (HTOP.out _ _ a3)
      rw [← Nat.add_assoc] at c1 c2
      have e5 := sg_at HSI.out hlt hd
      have HV := Lib.hid (And.intro hv hd)
      have hA8 := (Below.refl wr.heap.size wr).alloc (Nat.le_refl _) (.cells #[.bool v.isT, .int .i64 v.n, .string v.s] 75)
      have HA8 := Lib.hid (hb.trans (hA8.mono hb.size))
      obtain ⟨n0, n1, n2, -⟩ := val_cells (heap_alloc_new wr (.cells #[.bool v.isT, .int .i64 v.n, .string v.s] 75))
      clear hb hv hd a1 a2 a3 hA8
      go_wp2_with fail
      clear c0 c1 c2
      generalize hW8 : wr.alloc (.cells #[.bool v.isT, .int .i64 v.n, .string v.s] 75) = W8 at *
      clear hW8
      generalize wr.heap.size = b8 at *
      go_still_tail 7, (by kernel_rfl)
      change wpList _ _ _ _ _ (World.drewN W8 1)
      have HA9 := Lib.hid (show Below w1.heap.size w1 (World.drewN W8 1) from Sx.below_drewN HA8.out 1)
      clear n0 n1 n2
      generalize World.drewN W8 1 = W9 at *
      by_cases he : v.isT = d
      · have hq : (v.isT == d) = true := by rw [he]; exact beq_self_eq_true _
        have HR2 := Lib.hid (fits_next HF.out HV.out.1 HV.out.2 he)
        clear he
        go_wp2_with (go_at_call 88; with_reducible refine (unless_tt _ _).mono ?_; rintro e w5 ⟨he, hw⟩; subst he; subst hw)
        go_roundw
        case rel => exact ⟨k + 1, hlt, by push_cast; rfl, HR2.out, HA9.out⟩
        case measure => simp [RowKit.intOf]; omega
      · have hq : (v.isT == d) = false := beq_eq_false_iff_ne.2 he
        have HR2 := Lib.hid (fits_not HV.out.1 HV.out.2 he)
        clear he
        go_wp2_with (go_at_call 88; with_reducible refine (unless_ff _ _).mono ?_; rintro e w5 ⟨he, hw⟩; subst he; subst hw)
        refine ⟨rfl, ?_⟩
        unfold KindsOut
        rw [if_neg HR2.out]
        exact ⟨rfl, H0.out.keep HA9.out, Fr.of HA9.out⟩
    · obtain rfl : k = σ.size := by omega
      have HR2 := Lib.hid (fits_all HF.out HZ.out HS.out.symm)
      obtain ⟨i0, hi0, hz⟩ := Option.map_eq_some_iff.1 info_val
      obtain ⟨z1, z2⟩ := Prod.mk.inj hz
      obtain ⟨z2, z4⟩ := Prod.mk.inj z2
      have hgl : g < w1.heap.size := H0.out.hS g HSG.out
      have hcl := AnyE.slices_Clone Tryz.cloneV i0 _ 3 32 hi0 z1 z2 z4 rfl (by decide) sizeVal g (r * 3) σ.size (cap - r) (rowV top) wr (by rw [rowV_len, HZ.out]) (by simp only [maxLen]; omega) (by omega) (fun j u hj => (hb.cell (p := ⟨g, r * 3 + j, none⟩) hgl).trans (HTOP.out j u hj)) (rowV_one top)
      clear hb hz z1 z2 z4 hi0
      go_wp2_with fail
      refine hcl.mono ?_
      clear hcl
      rintro e w5 ⟨v5, rfl, hown5, hne5, hb5⟩
      obtain ⟨g5, cap5, rfl, hg5, hvc5⟩ := own_vc hown5 HZ.out.symm (by rw [HZ.out, HS.out]; exact H00.out)
      have HB5 := Lib.hid (HB.out.trans (hb5.mono HB.out.size))
      have HG5 := Lib.hid (And.intro (Nat.le_trans HB.out.size hg5) hvc5)
      clear hown5 hne5 hb5 hg5 hvc5
      have h5 := H0.out.keep HB5.out
      have c3 := h5.cells5.2.2.2.1
      have z5 := h5.frz 3
      rw [HSV.out] at c3
      clear h5 z3
      have hrc : r ≤ cap := by omega
      have hwr : IntKind.i64.wrap (r : Int) = (r : Int) := IntWalk.i64_in _ (by omega)
      go_wp2_with fail
      go_still_tail 16, (by kernel_rfl)
      change wpList _ _ _ _ _ (World.drewN w5 1)
      have hB6 := Sx.below_drewN (Below.refl w5.heap.size w5) 1
      have h6 := (H0.out.keep HB5.out).keep hB6
      have hown6 := own_blk (w' := World.drewN w5 1) HOWN.out (fun k hk => ((HB5.out.trans (hB6.mono HB5.out.size)).block k (by
        have := HOWN.out.lt k hk
        exact this.2)))
      rw [← HR.out] at hown6
      obtain ⟨S', h7, hF⟩ := h6.cutS HSV.out hown6
      rw [HR.out] at h7 hF
      have HM7 := Lib.hid (And.intro h7 ((Fr.of (HB5.out.trans (hB6.mono HB5.out.size))).trans hF))
      have HS7 := Lib.hid hF.own
      have HG6 := Lib.hid (HG5.out.2.keep hB6)
      have c3' := h6.cells5.2.2.2.1
      have z3' := h6.frz 3
      rw [HSV.out] at c3'
      clear c3 z5 hB6 h6 hown6 h7 hF
      go_wp2_with fail
      go_ret
      unfold KindsOut
      rw [if_pos HR2.out]
      have hbs := H0.out.hS b H0.out.sb
      have hgb : g5 ≠ b := by
        have := HG5.out.1
        omega
      refine ⟨g5, cap5, S', _, rfl, HM7.out.1, HM7.out.2, HG5.out.1, fun hc => ?_, ⟨by simpa using HG6.out.1, fun k v hk => ?_⟩⟩
      · rcases HM7.out.2.own _ hc with h1 | h1
        · exact absurd (H0.out.hS _ h1) (by have := HG5.out.1; omega)
        · rcases HS7.out _ hc with h2 | h2
          · exact absurd (H0.out.hS _ h2) (by have := HG5.out.1; omega)
          · have := HG6.out.1
            omega
      · have hk5 : ∀ j, ((World.drewN w5 1).setCell ⟨b, 3, none⟩ (.slice (some ⟨g, 0, none⟩) r cap)).cell? ⟨g5, j, none⟩ = (World.drewN w5 1).cell? ⟨g5, j, none⟩ := fun j => World.cell?_of_block (w := World.drewN w5 1) (a := ⟨g5, j, none⟩) (Below.heap_setCell _ _ _ _ hgb)
        obtain ⟨d0, d1, d2⟩ := HG6.out.2 k v hk
        exact ⟨(hk5 _).trans d0, (hk5 _).trans d1, (hk5 _).trans d2⟩
end Vm
end Go.Proofs.YtbefgplaaghlbaaGreatDoor

/-
  The machine: what an instruction's parts answer (Out); found, reckon.
-/
namespace Go.Proofs.YtbefgplaaghlbaaGreatDoor
open Go.RowKit Go.Shelf Go.Lib
namespace Vm
open Tr

/-- what a part of an instruction answers: the machine as it is then; or it gives up -/
def Out (w : World) (b : Nat) (m : Mc) (S : Nat → Prop) : Except Int Mc → Ending → World → Prop
  | .ok m', e, w' => e = .returned (.tuple #[]) ∧ ∃ S' x', MR w' b m' S' x' ∧ Fr w w' S S'
  | .error c, e, w' => e = .panicked (stopV c) ∧ ∃ m' S' x', MR w' b m' S' x' ∧ Fr w w' S S' ∧ m'.steps = m.steps
/-- the machine with such a stack -/
def Mc.st (m : Mc) (r : Except Int (List V)) : Except Int Mc := match r with
  | .ok st => .ok { m with stack := st }
  | .error c => .error c
theorem Out.ok {w w' : World} {b : Nat} {m m' : Mc} {S S' : Nat → Prop} {x' : MV} {r : Except Int Mc} (hr : r = .ok m') (h : MR w' b m' S' x') (hF : Fr w w' S S') : Out w b m S r (.returned (.tuple #[])) w' := by
  subst hr
  exact ⟨rfl, S', x', h, hF⟩
theorem Out.bad {w w' : World} {b : Nat} {m m' : Mc} {S S' : Nat → Prop} {x' : MV} {r : Except Int Mc} {c : Int} (hr : r = .error c) (h : MR w' b m' S' x') (hF : Fr w w' S S') (hs : m'.steps = m.steps) : Out w b m S r (.panicked (stopV c)) w' := by
  subst hr
  exact ⟨rfl, m', S', x', h, hF, hs⟩
/-- from a later world on -/
theorem Out.from {w w1 w' : World} {b : Nat} {m m1 : Mc} {S S1 : Nat → Prop} {r : Except Int Mc} {e : Ending} (h : Out w1 b m1 S1 r e w') (hF : Fr w w1 S S1) (hs : m1.steps = m.steps) : Out w b m S r e w' := by
  cases r with
  | ok m' =>
    obtain ⟨he, S', x', h1, h2⟩ := h
    exact ⟨he, S', x', h1, hF.trans h2⟩
  | error c =>
    obtain ⟨he, m', S', x', h1, h2, h3⟩ := h
    exact ⟨he, m', S', x', h1, hF.trans h2, h3.trans hs⟩
theorem push_out {w : World} {b : Nat} {m : Mc} {S : Nat → Prop} {x : MV} (h : MR w b m S x) (v : V) :
    Calls Tryz.prog 89 #[.pointer (some ⟨b, 0, none⟩), .agg #[.bool v.isT, .int .i64 v.n, .string v.s]] w (Out w b m S (m.st (push m.stack v))) := by
  by_cases hl : m.stack.length < 64
  · refine (push_any h v hl).mono ?_
    rintro e w' ⟨rfl, S', x', h1, h2⟩
    exact Out.ok (by unfold Mc.st push; rw [if_pos hl]) h1 h2
  · refine (push_full h v hl).mono ?_
    rintro e w' ⟨rfl, h1, h2⟩
    exact Out.bad (by unfold Mc.st push; rw [if_neg hl]) h1 h2 rfl
theorem st_bind (m : Mc) (r : Except Int (List V)) (f : List V → Except Int (List V)) : m.st (r.bind f) = match r with
    | .ok st => Mc.st { m with stack := st } (f st)
    | .error c => .error c := by
  cases r with
  | error c => rfl
  | ok st =>
    show Mc.st m (f st) = Mc.st { m with stack := st } (f st)
    cases f st <;> rfl
set_option maxHeartbeats 1000000 in
set_option maxRecDepth 100000 in
theorem found_out {w : World} {b : Nat} {m : Mc} {S : Nat → Prop} {x : MV} (h : MR w b m S x) (s : ByteArray) (is : Bool) :
    Calls Tryz.prog 94 #[.pointer (some ⟨b, 0, none⟩), .string s, .bool is] w (Out w b m S (m.st (found m.stack s is))) := by
  have HR := Lib.hid (st_bind m (push m.stack (.txt s)) fun st => push st (truth is))
  go_enter Tryz.func94, Tryz.ntmps94
  go_wp2_with (go_at_call 90; refine (text_any _ _).mono ?_; rintro e w1 ⟨he, hb1⟩; subst he)
  have h1 := h.keep hb1
  refine (push_out h1 (.txt s)).mono ?_
  intro e w2 ho
  cases hp : push m.stack (.txt s) with
  | error c =>
    rw [hp] at ho
    obtain ⟨rfl, m', S', x', h2, hF, hs⟩ := ho
    exact ⟨rfl, Out.bad (by unfold found; rw [HR.out, hp]) h2 ((Fr.of hb1).trans hF) hs⟩
  | ok st =>
    rw [hp] at ho
    obtain ⟨rfl, S', x', h2, hF⟩ := ho
    have HF2 := Lib.hid (And.intro h2 ((Fr.of hb1).trans hF))
    clear h h1 h2 hF hb1
    go_wp2_with (go_at_call 92; refine (truth_any _ _).mono ?_; rintro e w3 ⟨he, hb3⟩; subst he; have HB3 := Lib.hid hb3; clear hb3)
    refine (push_out (HF2.out.1.keep HB3.out) (truth is)).mono ?_
    intro e w4 ho
    have ho := ho.from (HF2.out.2.trans (Fr.of HB3.out)) (m := m) rfl
    have HQ := Lib.hid (show m.st (found m.stack s is) = Mc.st { m with stack := st } (push st (truth is)) by unfold found; rw [HR.out, hp])
    generalize push st (truth is) = r at *
    cases r with
    | error c =>
      obtain ⟨rfl, m', S', x', h2, hF, hs⟩ := ho
      exact ⟨rfl, Out.bad HQ.out h2 hF hs⟩
    | ok st2 =>
      obtain ⟨rfl, S', x', h2, hF⟩ := ho
      have HF3 := Lib.hid (Out.ok (m := m) HQ.out h2 hF)
      clear h2 hF
      go_wp2_with fail
      go_end0
      exact HF3.out
theorem wrap_eq (n : Int) : wrap n = wrap64 n := by unfold wrap wrap64; rfl
/-- what reckon answers -/
def RkOut (w : World) : Except Int Int → Ending → World → Prop
  | .ok n, e, w' => e = .returned (.int .i64 n) ∧ w' = w
  | .error c, e, w' => e = .panicked (stopV c) ∧ w' = w
set_option maxHeartbeats 1000000 in
set_option maxRecDepth 100000 in
theorem reckon_add (a c : Int) (w : World) : Calls Tryz.prog 97 #[.int .i64 9, .int .i64 a, .int .i64 c] w (RkOut w (reckon 9 a c)) := by
  have HR := Lib.hid (show reckon 9 a c = .ok (wrap64 (a + c)) by rw [← wrap_eq]; simp [reckon])
  go_enter Tryz.func97, Tryz.ntmps97
  go_wp2_with fail
  go_ret
  rw [HR.out]
  exact ⟨rfl, rfl⟩
set_option maxHeartbeats 1000000 in
set_option maxRecDepth 100000 in
theorem reckon_sub (a c : Int) (w : World) : Calls Tryz.prog 97 #[.int .i64 10, .int .i64 a, .int .i64 c] w (RkOut w (reckon 10 a c)) := by
  have HR := Lib.hid (show reckon 10 a c = .ok (wrap64 (a - c)) by rw [← wrap_eq]; simp [reckon])
  go_enter Tryz.func97, Tryz.ntmps97
  go_wp2_with fail
  go_ret
  rw [HR.out]
  exact ⟨rfl, rfl⟩
set_option maxHeartbeats 1000000 in
set_option maxRecDepth 100000 in
theorem reckon_mul (a c : Int) (w : World) : Calls Tryz.prog 97 #[.int .i64 11, .int .i64 a, .int .i64 c] w (RkOut w (reckon 11 a c)) := by
  have HR := Lib.hid (show reckon 11 a c = .ok (wrap64 (a * c)) by rw [← wrap_eq]; simp [reckon])
  go_enter Tryz.func97, Tryz.ntmps97
  go_wp2_with fail
  go_ret
  rw [HR.out]
  exact ⟨rfl, rfl⟩
set_option maxHeartbeats 1000000 in
set_option maxRecDepth 100000 in
theorem reckon_div (a c : Int) (w : World) : Calls Tryz.prog 97 #[.int .i64 12, .int .i64 a, .int .i64 c] w (RkOut w (reckon 12 a c)) := by
  by_cases hc : c = 0
  · subst hc
    go_enter Tryz.func97, Tryz.ntmps97
    go_wp2_with (go_at_call 88; with_reducible refine (unless_ff _ _).mono ?_; rintro e w1 ⟨he, hw⟩; subst he; subst hw)
    exact ⟨rfl, rfl, rfl⟩
  · have hb : (c != 0) = true := by rw [bne_iff_ne]; exact hc
    have hb2 : (c == 0) = false := beq_eq_false_iff_ne.2 hc
    have HR := Lib.hid (show reckon 12 a c = .ok (wrap64 (a.tdiv c)) by rw [← wrap_eq]; simp [reckon, hc])
    go_enter Tryz.func97, Tryz.ntmps97
    go_wp2_with (go_at_call 88; with_reducible refine (unless_tt _ _).mono ?_; rintro e w1 ⟨he, hw⟩; subst he; subst hw)
    go_ret
    rw [HR.out]
    exact ⟨rfl, rfl⟩
set_option maxHeartbeats 1000000 in
set_option maxRecDepth 100000 in
theorem reckon_mod (a c : Int) (w : World) : Calls Tryz.prog 97 #[.int .i64 13, .int .i64 a, .int .i64 c] w (RkOut w (reckon 13 a c)) := by
  by_cases hc : c = 0
  · subst hc
    go_enter Tryz.func97, Tryz.ntmps97
    go_wp2_with (go_at_call 88; with_reducible refine (unless_ff _ _).mono ?_; rintro e w1 ⟨he, hw⟩; subst he; subst hw)
    exact ⟨rfl, rfl, rfl⟩
  · have hb : (c != 0) = true := by rw [bne_iff_ne]; exact hc
    have hb2 : (c == 0) = false := beq_eq_false_iff_ne.2 hc
    have HR := Lib.hid (show reckon 13 a c = .ok (a.tmod c) by simp [reckon, hc])
    go_enter Tryz.func97, Tryz.ntmps97
    go_wp2_with (go_at_call 88; with_reducible refine (unless_tt _ _).mono ?_; rintro e w1 ⟨he, hw⟩; subst he; subst hw)
    go_ret
    rw [HR.out]
    exact ⟨rfl, rfl⟩
end Vm
end Go.Proofs.YtbefgplaaghlbaaGreatDoor
