/-
  Walk of the reference: Disassemble.
-/
import Derived.Test.YtipcockcndnipaaDoorMAwD
namespace Go.Proofs.YtipcockcndnipaaDoor
open Go.RowKit
namespace Aw
open As

/-- the text so far, a row of bytes; the instruction's block -/
structure EZ (W : World) (h : Nat) (x : Cd.I) (l : List UInt8) (N : Nat) (v : Value) (w : World) : Prop where
  own : w.ownsRow W.heap.size 5 1 v l.length (u8s l)
  o : w.heap[h]? = some (.cells #[.int .i64 x.op, .int .i64 x.n, .string x.s] 23 (0, 0))
  below : Below W.heap.size W w
  len : l.length ≤ N
/-- the text so far -/
structure EX (W : World) (l : List UInt8) (v : Value) (w : World) : Prop where
  own : w.ownsRow W.heap.size 5 1 v l.length (u8s l)
  below : Below W.heap.size W w
section
variable {W w w' : World} {h N : Nat} {x : Cd.I} {l : List UInt8} {v : Value}
theorem EZ.low (g : EZ W h x l N v w) (hb : Below w.heap.size w w') : EZ W h x l N v w' :=
  ⟨own_block g.own fun k hk => hb.block k (g.own.lt k hk).2, (hb.block _ (Array.getElem?_eq_some_iff.1 g.o).1).trans g.o, g.below.trans (hb.mono g.below.size), g.len⟩
theorem EZ.env (g : EZ W h x l N v w) (hE : Env W) : Env w := hE.below g.below
theorem EX.start (g : EX W l v w) (hl : l.length ≤ N) (x : Cd.I) : EZ W w.heap.size x l N v (w.alloc (.cells #[.int .i64 x.op, .int .i64 x.n, .string x.s] 23)) := by
  have hb : Below w.heap.size w (w.alloc (.cells #[.int .i64 x.op, .int .i64 x.n, .string x.s] 23)) := (Below.refl _ _).alloc (Nat.le_refl _) _
  exact ⟨own_block g.own fun k hk => hb.block k (g.own.lt k hk).2, heap_alloc_new w _, g.below.trans (hb.mono g.below.size), hl⟩
theorem EZ.end (g : EZ W h x l N v w) {l' : List UInt8} (e : l = l') : EX W l' v w := e ▸ ⟨g.own, g.below⟩
theorem EZ.grown (g : EZ W h x l N v w) {v' : Value} {s : List UInt8} (hs : s.length ≤ 1000) (hown : w'.ownsRow W.heap.size 5 1 v' (l ++ s).length (u8s (l ++ s))) (hg : w.grownBy w' v.ownBlock) : EZ W h x (l ++ s) (N + 1000) v' w' := by
  refine ⟨hown, (hg.block h (Array.getElem?_eq_some_iff.1 g.o).1 fun e => ?_).trans g.o, g.below.grown hg g.below.size (fun k hk => (g.own.lt k hk).1), ?_⟩
  · obtain ⟨cs, hcs⟩ := own_type g.own e.symm
    rw [g.o] at hcs
    injection hcs with hcs
    injection hcs with _ hcs _
    exact absurd hcs (by decide)
  · have := g.len
    rw [List.length_append]
    omega
theorem EZ.app (g : EZ W h x l N v w) (s : ByteArray) (hs : s.size ≤ 1000) (hN : decide (N + 1000 ≤ 100000000) = true) {ops : Array Oper} {rest : List Oper} {o : Oper} {a : Act} {Q : Exit → Act → World → Prop} (hgd : o.guard = none) (sl xo : Operand)
    (ho : o.op = .call { callee := .builtin .append, args := #[sl, xo], argTypes := #[35, 9] }) (hv : a.eval sl = v) (hx : a.eval xo = .string s)
    (hK : ∀ v' w', EZ W h x (l ++ s.data.toList) (N + 1000) v' w' → wpList Tryd.prog ops Q rest (a.put o.dst v') w') : wpList Tryd.prog ops Q (o :: rest) a w := by
  obtain ⟨i0, hi0, hz0, hz1, hz2⟩ := info_parts info_u8
  have hN' := of_decide_eq_true hN
  have hl := g.len
  have hsz : s.size = s.data.toList.length := Lib.size_eq s
  refine Lib.wpList_append_own_string w hgd sl xo _ _ ho W.heap.size 5 i0 Tryd.underlying35 Tryd.underlying9 hi0 hz0 hz1 hz2 v l.length _ hv g.own s hx (by unfold maxLen; omega) (by omega) g.below.size ?_
  intro v' w2 hown2 hg2 _
  refine hK v' w2 (g.grown (by omega) ?_ hg2)
  rw [List.length_append, ← hsz, u8s_app]
  exact hown2
theorem EZ.nl (g : EZ W h x l N v w) (hN : decide (N + 1000 ≤ 100000000) = true) {ops : Array Oper} {rest : List Oper} {o : Oper} {a : Act} {Q : Exit → Act → World → Prop} (hgd : o.guard = none) (sl xo : Operand)
    (ho : o.op = .call { callee := .builtin .append, args := #[sl, xo], argTypes := #[35, 35] }) (hv : a.eval sl = v) (hx : a.eval xo = .slice (some ⟨w.heap.size, 0, none⟩) 1 1)
    (hK : ∀ v' w', EZ W h x (l ++ [10]) (N + 1000) v' w' → wpList Tryd.prog ops Q rest (a.put o.dst v') w') : wpList Tryd.prog ops Q (o :: rest) a (w.alloc (.cells #[.int .u8 10] 5)) := by
  obtain ⟨i0, hi0, hz0, hz1, hz2⟩ := info_parts info_u8
  have hN' := of_decide_eq_true hN
  have hl := g.len
  have g1 := g.low (w' := w.alloc (.cells #[.int .u8 10] 5)) ((Below.refl _ _).alloc (Nat.le_refl _) _)
  refine wpList_append_own _ hgd sl xo 35 ho W.heap.size 5 i0 _ 1 1 Tryd.underlying35 hi0 hz0 hz1 hz2 rfl (by decide) v l.length _ hv g1.own ⟨w.heap.size, 0, none⟩ 1 1 [.int .u8 10] hx rfl ?_ ?_ (by unfold maxLen; omega) (by omega) g1.below.size ?_
  · intro j q hj
    match j, hj with
    | 0, hj => simp at hj; subst hj; simp [Addr.add]
  · intro q hq; simp at hq; subst hq; rfl
  intro v' w2 hown2 hg2 _
  refine hK v' w2 (g1.grown (by decide) ?_ hg2)
  rw [List.length_append, u8s_app]
  exact hown2
end
end Aw
end Go.Proofs.YtipcockcndnipaaDoor
