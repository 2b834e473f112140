/-
  The reference's assembling in memory: what it holds, an append to each row, a place put in.
-/
import Derived.Test.YtipcockcndnipaaGreatDoorMAwG
import Derived.Test.YtipcockcndnipaaGreatDoorMAwY
namespace Go.Proofs.YtipcockcndnipaaGreatDoor
open Go.RowKit
namespace Aw
open As

def rowL (l : List (List UInt8 × Nat)) : List Value := l.flatMap fun x => [.string ⟨x.1.toArray⟩, .int .i64 (x.2 : Int)]
theorem rowL_app (a b : List (List UInt8 × Nat)) : rowL (a ++ b) = rowL a ++ rowL b := List.flatMap_append
theorem rowL_at : ∀ (p : List (List UInt8 × Nat)) (k : Nat) (x : List UInt8 × Nat), p[k]? = some x → (rowL p)[k * 2]? = some (.string ⟨x.1.toArray⟩) ∧ (rowL p)[k * 2 + 1]? = some (.int .i64 (x.2 : Int))
  | [], k, x, h => by simp at h
  | y :: p, 0, x, h => by simp at h; subst h; exact ⟨rfl, rfl⟩
  | y :: p, k + 1, x, h => by
    have ih := rowL_at p k x (by simpa using h)
    rw [show (k + 1) * 2 = k * 2 + 2 by omega]
    exact ih
theorem info_l : (Tryz.prog.info? 56).map (fun i => (i.zero, i.size, i.bytes)) = some (some (.agg #[.string ⟨#[]⟩, .int .i64 0]), 2, 24) := by kernel_rfl
theorem rowS_app (a b : List (List UInt8)) : rowS (a ++ b) = rowS a ++ rowS b := List.map_append
theorem rowN_app (a b : List Nat) : rowN (a ++ b) = rowN a ++ rowN b := List.map_append
abbrev OB (W : World) (B : Nat) (v : Value) (l : List (List UInt8 × Nat)) : Prop := W.ownsRow B 56 2 v l.length (rowL l)
/-- the four rows -/
structure RS (w0 w : World) (st : St) (vp vw vl vb : Value) : Prop where
  op : OI w w0.heap.size vp st.prog
  ow : OS w w0.heap.size vw st.wants
  ol : ON w w0.heap.size vl st.lines
  ob : OB w w0.heap.size vb st.labs
  below : Below w0.heap.size w0 w
section
variable {w0 w w' : World} {st : St} {vp vw vl vb v' : Value}
theorem RS.start (w0 : World) : RS w0 w0 st00 (.slice none 0 0) (.slice none 0 0) (.slice none 0 0) (.slice none 0 0) := ⟨World.ownsRow_nil _ _ _ _, World.ownsRow_nil _ _ _ _, World.ownsRow_nil _ _ _ _, World.ownsRow_nil _ _ _ _, Below.refl _ _⟩
theorem RS.low (g : RS w0 w st vp vw vl vb) (hb : Below w.heap.size w w') : RS w0 w' st vp vw vl vb :=
  ⟨own_block g.op fun k hk => hb.block k (g.op.lt k hk).2, own_block g.ow fun k hk => hb.block k (g.ow.lt k hk).2, own_block g.ol fun k hk => hb.block k (g.ol.lt k hk).2, own_block g.ob fun k hk => hb.block k (g.ob.lt k hk).2, g.below.trans (hb.mono g.below.size)⟩
theorem RS.pushP (g : RS w0 w st vp vw vl vb) (x : Cd.I) (hn : st.prog.length ≤ 1000000) {ops : Array Oper} {rest : List Oper} {o : Oper} {a : Act} {Q : Exit → Act → World → Prop} (hgd : o.guard = none) (sl xo : Operand)
    (ho : o.op = .call { callee := .builtin .append, args := #[sl, xo], argTypes := #[23, 23] }) (hv : a.eval sl = vp) {A : Nat} (hx : a.eval xo = .slice (some ⟨A, 0, none⟩) 1 1) (hA : A = w.heap.size)
    (hK : ∀ v' w', RS w0 w' ⟨st.prog ++ [x], st.wants, st.lines, st.labs⟩ v' vw vl vb → wpList Tryz.prog ops Q rest (a.put o.dst v') w') : wpList Tryz.prog ops Q (o :: rest) a (w.alloc (.cells #[.int .i64 x.op, .int .i64 x.n, .string x.s] 38)) := by
  subst hA
  obtain ⟨i0, hi0, hz0, hz1, hz2⟩ := info_parts info_i
  have g1 := g.low (w' := w.alloc (.cells #[.int .i64 x.op, .int .i64 x.n, .string x.s] 38)) ((Below.refl _ _).alloc (Nat.le_refl _) _)
  refine wpList_append_own _ hgd sl xo 23 ho w0.heap.size 38 i0 _ 3 32 Tryz.underlying23 hi0 hz0 hz1 hz2 rfl (by decide) vp st.prog.length _ hv g1.op ⟨w.heap.size, 0, none⟩ 1 1 [.int .i64 x.op, .int .i64 x.n, .string x.s] hx rfl (World.news_of_block (cs := #[.int .i64 x.op, .int .i64 x.n, .string x.s]) (heap_alloc_new w _)) ?_ (by unfold maxLen; omega) (by omega) g1.below.size ?_
  · intro q hq
    simp only [List.mem_cons, List.not_mem_nil, or_false] at hq
    obtain rfl | rfl | rfl := hq <;> rfl
  intro v' w2 hown2 hg2 _
  have v0 : OI w2 w0.heap.size v' (st.prog ++ [x]) := by
    unfold OI
    rw [List.length_append, rowI_app]
    exact hown2
  exact hK v' w2 ⟨v0, own_block g1.ow fun k hk => hg2.block k (g1.ow.lt k hk).2 (fun e => own_apart g1.ow g1.op (by decide) hk e.symm), own_block g1.ol fun k hk => hg2.block k (g1.ol.lt k hk).2 (fun e => own_apart g1.ol g1.op (by decide) hk e.symm), own_block g1.ob fun k hk => hg2.block k (g1.ob.lt k hk).2 (fun e => own_apart g1.ob g1.op (by decide) hk e.symm), g1.below.grown hg2 g1.below.size (fun k hk => (g1.op.lt k hk).1)⟩
theorem RS.pushW (g : RS w0 w st vp vw vl vb) (t : ByteArray) (hn : st.wants.length ≤ 1000000) {ops : Array Oper} {rest : List Oper} {o : Oper} {a : Act} {Q : Exit → Act → World → Prop} (hgd : o.guard = none) (sl xo : Operand)
    (ho : o.op = .call { callee := .builtin .append, args := #[sl, xo], argTypes := #[32, 32] }) (hv : a.eval sl = vw) {A : Nat} (hx : a.eval xo = .slice (some ⟨A, 0, none⟩) 1 1) (hA : A = w.heap.size)
    (hK : ∀ v' w', RS w0 w' ⟨st.prog, st.wants ++ [t.data.toList], st.lines, st.labs⟩ vp v' vl vb → wpList Tryz.prog ops Q rest (a.put o.dst v') w') : wpList Tryz.prog ops Q (o :: rest) a (w.alloc (.cells #[.string t] 9)) := by
  subst hA
  obtain ⟨i0, hi0, hz0, hz1, hz2⟩ := info_parts info_s
  have g1 := g.low (w' := w.alloc (.cells #[.string t] 9)) ((Below.refl _ _).alloc (Nat.le_refl _) _)
  refine wpList_append_own _ hgd sl xo 32 ho w0.heap.size 9 i0 _ 1 16 Tryz.underlying32 hi0 hz0 hz1 hz2 rfl (by decide) vw st.wants.length _ hv g1.ow ⟨w.heap.size, 0, none⟩ 1 1 [.string t] hx rfl (World.news_of_block (cs := #[.string t]) (heap_alloc_new w _)) ?_ (by unfold maxLen; omega) (by omega) g1.below.size ?_
  · intro q hq
    simp only [List.mem_cons, List.not_mem_nil, or_false] at hq
    subst hq; rfl
  intro v' w2 hown2 hg2 _
  have v0 : OS w2 w0.heap.size v' (st.wants ++ [t.data.toList]) := by
    unfold OS
    rw [List.length_append, rowS_app]
    exact hown2
  exact hK v' w2 ⟨own_block g1.op fun k hk => hg2.block k (g1.op.lt k hk).2 (fun e => own_apart g1.op g1.ow (by decide) hk e.symm), v0, own_block g1.ol fun k hk => hg2.block k (g1.ol.lt k hk).2 (fun e => own_apart g1.ol g1.ow (by decide) hk e.symm), own_block g1.ob fun k hk => hg2.block k (g1.ob.lt k hk).2 (fun e => own_apart g1.ob g1.ow (by decide) hk e.symm), g1.below.grown hg2 g1.below.size (fun k hk => (g1.ow.lt k hk).1)⟩
theorem RS.pushL (g : RS w0 w st vp vw vl vb) (n : Nat) {u : Int} (hu : u = (n : Int)) (hn : st.lines.length ≤ 1000000) {ops : Array Oper} {rest : List Oper} {o : Oper} {a : Act} {Q : Exit → Act → World → Prop} (hgd : o.guard = none) (sl xo : Operand)
    (ho : o.op = .call { callee := .builtin .append, args := #[sl, xo], argTypes := #[43, 43] }) (hv : a.eval sl = vl) {A : Nat} (hx : a.eval xo = .slice (some ⟨A, 0, none⟩) 1 1) (hA : A = w.heap.size)
    (hK : ∀ v' w', RS w0 w' ⟨st.prog, st.wants, st.lines ++ [n], st.labs⟩ vp vw v' vb → wpList Tryz.prog ops Q rest (a.put o.dst v') w') : wpList Tryz.prog ops Q (o :: rest) a (w.alloc (.cells #[.int .i64 u] 3)) := by
  subst hA
  subst hu
  obtain ⟨i0, hi0, hz0, hz1, hz2⟩ := info_parts info_n
  have g1 := g.low (w' := w.alloc (.cells #[.int .i64 (n : Int)] 3)) ((Below.refl _ _).alloc (Nat.le_refl _) _)
  refine wpList_append_own _ hgd sl xo 43 ho w0.heap.size 3 i0 _ 1 8 Tryz.underlying43 hi0 hz0 hz1 hz2 rfl (by decide) vl st.lines.length _ hv g1.ol ⟨w.heap.size, 0, none⟩ 1 1 [.int .i64 (n : Int)] hx rfl (World.news_of_block (cs := #[.int .i64 (n : Int)]) (heap_alloc_new w _)) ?_ (by unfold maxLen; omega) (by omega) g1.below.size ?_
  · intro q hq
    simp only [List.mem_cons, List.not_mem_nil, or_false] at hq
    subst hq; rfl
  intro v' w2 hown2 hg2 _
  have v0 : ON w2 w0.heap.size v' (st.lines ++ [n]) := by
    unfold ON
    rw [List.length_append, rowN_app]
    exact hown2
  exact hK v' w2 ⟨own_block g1.op fun k hk => hg2.block k (g1.op.lt k hk).2 (fun e => own_apart g1.op g1.ol (by decide) hk e.symm), own_block g1.ow fun k hk => hg2.block k (g1.ow.lt k hk).2 (fun e => own_apart g1.ow g1.ol (by decide) hk e.symm), v0, own_block g1.ob fun k hk => hg2.block k (g1.ob.lt k hk).2 (fun e => own_apart g1.ob g1.ol (by decide) hk e.symm), g1.below.grown hg2 g1.below.size (fun k hk => (g1.ol.lt k hk).1)⟩
theorem RS.pushB (g : RS w0 w st vp vw vl vb) (t : ByteArray) (m : Nat) (hn : st.labs.length ≤ 1000000) {ops : Array Oper} {rest : List Oper} {o : Oper} {a : Act} {Q : Exit → Act → World → Prop} (hgd : o.guard = none) (sl xo : Operand)
    (ho : o.op = .call { callee := .builtin .append, args := #[sl, xo], argTypes := #[54, 54] }) (hv : a.eval sl = vb) {A : Nat} (hx : a.eval xo = .slice (some ⟨A, 0, none⟩) 1 1) (hA : A = w.heap.size)
    (hK : ∀ v' w', RS w0 w' ⟨st.prog, st.wants, st.lines, st.labs ++ [(t.data.toList, m)]⟩ vp vw vl v' → wpList Tryz.prog ops Q rest (a.put o.dst v') w') : wpList Tryz.prog ops Q (o :: rest) a (w.alloc (.cells #[.string t, .int .i64 (m : Int)] 56)) := by
  subst hA
  obtain ⟨i0, hi0, hz0, hz1, hz2⟩ := info_parts info_l
  have g1 := g.low (w' := w.alloc (.cells #[.string t, .int .i64 (m : Int)] 56)) ((Below.refl _ _).alloc (Nat.le_refl _) _)
  refine wpList_append_own _ hgd sl xo 54 ho w0.heap.size 56 i0 _ 2 24 Tryz.underlying54 hi0 hz0 hz1 hz2 rfl (by decide) vb st.labs.length _ hv g1.ob ⟨w.heap.size, 0, none⟩ 1 1 [.string t, .int .i64 (m : Int)] hx rfl (World.news_of_block (cs := #[.string t, .int .i64 (m : Int)]) (heap_alloc_new w _)) ?_ (by unfold maxLen; omega) (by omega) g1.below.size ?_
  · intro q hq
    simp only [List.mem_cons, List.not_mem_nil, or_false] at hq
    obtain rfl | rfl := hq <;> rfl
  intro v' w2 hown2 hg2 _
  have v0 : OB w2 w0.heap.size v' (st.labs ++ [(t.data.toList, m)]) := by
    unfold OB
    rw [List.length_append, rowL_app]
    exact hown2
  exact hK v' w2 ⟨own_block g1.op fun k hk => hg2.block k (g1.op.lt k hk).2 (fun e => own_apart g1.op g1.ob (by decide) hk e.symm), own_block g1.ow fun k hk => hg2.block k (g1.ow.lt k hk).2 (fun e => own_apart g1.ow g1.ob (by decide) hk e.symm), own_block g1.ol fun k hk => hg2.block k (g1.ol.lt k hk).2 (fun e => own_apart g1.ol g1.ob (by decide) hk e.symm), v0, g1.below.grown hg2 g1.below.size (fun k hk => (g1.ob.lt k hk).1)⟩
theorem rowI_put {q : List Cd.I} {k : Nat} {x y : Cd.I} (h : q[k]? = some x) : (((rowI q).set (k * 3) (.int .i64 y.op)).set (k * 3 + 1) (.int .i64 y.n)).set (k * 3 + 2) (.string y.s) = rowI (q.set k y) := by
  induction q generalizing k with
  | nil => simp at h
  | cons z q ih =>
    cases k with
    | zero => rfl
    | succ k =>
      have := ih (k := k) (by simpa using h)
      rw [show (k + 1) * 3 = k * 3 + 1 + 1 + 1 by omega]
      show Value.int .i64 z.op :: .int .i64 z.n :: .string z.s :: (((rowI q).set (k * 3) (.int .i64 y.op)).set (k * 3 + 1) (.int .i64 y.n)).set (k * 3 + 2) (.string y.s) = _
      rw [this]
      rfl
/-- a place put in -/
theorem RS.put3 {q : List Cd.I} {ws : List (List UInt8)} {ls : List Nat} {labs : List (List UInt8 × Nat)} {g cap k n : Nat} (hn : q.length = n) (r : RS w0 w ⟨q, ws, ls, labs⟩ (.slice (some ⟨g, 0, none⟩) n cap) vw vl vb) {x : Cd.I} (hx : q[k]? = some x) (y : Cd.I) :
    RS w0 (((w.setCell ⟨g, k * 3, none⟩ (.int .i64 y.op)).setCell ⟨g, k * 3 + 1, none⟩ (.int .i64 y.n)).setCell ⟨g, k * 3 + 2, none⟩ (.string y.s)) ⟨q.set k y, ws, ls, labs⟩ (.slice (some ⟨g, 0, none⟩) n cap) vw vl vb := by
  subst hn
  have hgo : (Value.slice (some ⟨g, 0, none⟩) q.length cap).ownBlock = some g := rfl
  obtain ⟨hg1, -⟩ := r.op.lt g hgo
  have key : ∀ k', k' ≠ g → (((w.setCell ⟨g, k * 3, none⟩ (.int .i64 y.op)).setCell ⟨g, k * 3 + 1, none⟩ (.int .i64 y.n)).setCell ⟨g, k * 3 + 2, none⟩ (.string y.s)).heap[k']? = w.heap[k']? := fun k' hk => (Below.heap_setCell _ _ _ _ hk).trans ((Below.heap_setCell _ _ _ _ hk).trans (Below.heap_setCell _ _ _ _ hk))
  have own : ∀ {k' e size n : Nat} {v : Value} {xs : List Value}, w.ownsRow w0.heap.size e size v n xs → e ≠ 38 → v.ownBlock = some k' → k' ≠ g := fun hO he hk e => own_apart r.op hO (fun e' => he e'.symm) hgo (by rw [hk, e])
  refine ⟨?_, own_block r.ow fun k' hk => key k' (own r.ow (by decide) hk), own_block r.ol fun k' hk => key k' (own r.ol (by decide) hk), own_block r.ob fun k' hk => key k' (own r.ob (by decide) hk), ((r.below.setCell hg1 _).setCell hg1 _).setCell hg1 _⟩
  have h1 := (r.op.stored (k * 3) (.int .i64 y.op)).1
  have h2 := (h1.stored (k * 3 + 1) (.int .i64 y.n)).1
  have h3 := (h2.stored (k * 3 + 2) (.string y.s)).1
  show World.ownsRow _ _ _ _ _ (q.set k y).length (rowI (q.set k y))
  rw [rowI_put hx] at h3
  rw [List.length_set]
  exact h3
end
end Aw
end Go.Proofs.YtipcockcndnipaaGreatDoor
