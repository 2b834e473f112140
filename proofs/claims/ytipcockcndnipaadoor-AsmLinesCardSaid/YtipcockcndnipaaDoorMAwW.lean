/-
  An assembling under way, in memory.
-/
import Derived.Test.YtipcockcndnipaaDoorMAwA
import Derived.Test.YtipcockcndnipaaDoorShGS
import Derived.Test.YtipcockcndnipaaDoorCodeE
import Derived.RangeFuncOwn
namespace Go.Proofs.YtipcockcndnipaaDoor
open Go.RowKit
namespace Aw
open As

def rowI (p : List Cd.I) : List Value := p.flatMap fun x => [.int .i64 x.op, .int .i64 x.n, .string x.s]
def rowN (l : List Nat) : List Value := l.map fun (n : Nat) => Value.int .i64 (n : Int)
def rowS (l : List (List UInt8)) : List Value := l.map fun s => .string ⟨s.toArray⟩
theorem rowI_app (a b : List Cd.I) : rowI (a ++ b) = rowI a ++ rowI b := List.flatMap_append
theorem rowI_len : ∀ p : List Cd.I, (rowI p).length = p.length * 3
  | [] => rfl
  | x :: p => by
    have := rowI_len p
    simp only [rowI, List.flatMap_cons, List.length_append, List.length_cons, List.length_nil] at *
    omega
theorem rowI_at : ∀ (p : List Cd.I) (k : Nat) (x : Cd.I), p[k]? = some x → (rowI p)[k * 3]? = some (.int .i64 x.op) ∧ (rowI p)[k * 3 + 1]? = some (.int .i64 x.n) ∧ (rowI p)[k * 3 + 2]? = some (.string x.s)
  | [], k, x, h => by simp at h
  | y :: p, 0, x, h => by simp at h; subst h; exact ⟨rfl, rfl, rfl⟩
  | y :: p, k + 1, x, h => by
    have ih := rowI_at p k x (by simpa using h)
    rw [show (k + 1) * 3 = k * 3 + 3 by omega]
    exact ih
theorem info_i : (Tryd.prog.info? 23).map (fun i => (i.zero, i.size, i.bytes)) = some (some (.agg #[.int .i64 0, .int .i64 0, .string ⟨#[]⟩]), 3, 32) := by kernel_rfl
theorem info_n : (Tryd.prog.info? 3).map (fun i => (i.zero, i.size, i.bytes)) = some (some (.int .i64 0), 1, 8) := by kernel_rfl
theorem info_s : (Tryd.prog.info? 9).map (fun i => (i.zero, i.size, i.bytes)) = some (some (.string ⟨#[]⟩), 1, 16) := by kernel_rfl
abbrev OI (W : World) (B : Nat) (v : Value) (p : List Cd.I) : Prop := W.ownsRow B 23 3 v p.length (rowI p)
abbrev ON (W : World) (B : Nat) (v : Value) (l : List Nat) : Prop := W.ownsRow B 3 1 v l.length (rowN l)
abbrev OS (W : World) (B : Nat) (v : Value) (l : List (List UInt8)) : Prop := W.ownsRow B 9 1 v l.length (rowS l)
/-- the labels, by rising names, have the places that were put -/
structure Lb (labs : List (List UInt8 × Nat)) (ll : List ShS.KV) : Prop where
  srt : Shf.Srt Op.bytesLess ll
  look : ∀ k, Shf.look ll k = (at? labs k).map fun n => (n : Int)
  len : ll.length ≤ labs.length
theorem Lb.nil : Lb [] [] := ⟨List.Pairwise.nil, fun _ => rfl, Nat.le_refl _⟩
/-- the work's block, and what it holds -/
structure WK (W : World) (B bw bl : Nat) (st : St) (vp vl vw : Value) (ll : List ShS.KV) : Prop where
  blk : W.heap[bw]? = some (.cells #[vp, vl, vw, .pointer (some ⟨bl, 0, none⟩)] 57 (0, 0))
  op : OI W B vp st.prog
  ol : ON W B vl st.lines
  ow : OS W B vw st.wants
  sh : ShS.SH W B bl ll
  lb : Lb st.labs ll
/-- nothing below B turns but the work's block and its labels' -/
structure FW (W W' : World) (B bw bl : Nat) : Prop where
  os : W'.os = W.os
  tape : W'.tape = W.tape
  output : W'.output = W.output
  size : W.heap.size ≤ W'.heap.size
  block : ∀ k, k < B → k ≠ bw → k ≠ bl → W'.heap[k]? = W.heap[k]?
  walk : ∀ (k : Nat) (o : Obj), W.heap[k]? = some o → o.isCells = false → W'.heap[k]? = some o
theorem FW.refl (W : World) (B bw bl : Nat) : FW W W B bw bl := ⟨rfl, rfl, rfl, Nat.le_refl _, fun _ _ _ _ => rfl, fun _ _ h _ => h⟩
theorem FW.trans {W W' W'' : World} {B bw bl : Nat} (h : FW W W' B bw bl) (g : FW W' W'' B bw bl) : FW W W'' B bw bl :=
  ⟨g.os.trans h.os, g.tape.trans h.tape, g.output.trans h.output, Nat.le_trans h.size g.size, fun k h1 h2 h3 => (g.block k h1 h2 h3).trans (h.block k h1 h2 h3), fun k o h1 h2 => g.walk k o (h.walk k o h1 h2) h2⟩
theorem FW.of_below {W W' : World} {B bw bl : Nat} (h : Below W.heap.size W W') (hB : B ≤ W.heap.size) : FW W W' B bw bl := ⟨h.os, h.tape, h.output, h.size, fun k hk _ _ => h.block k (by omega), fun k _ h1 _ => (h.block k (Array.getElem?_eq_some_iff.1 h1).1).trans h1⟩
theorem FW.below {W W' : World} {B bw bl B0 : Nat} (h : FW W W' B bw bl) (h0 : B0 ≤ B) (h1 : B0 ≤ bw) (h2 : B0 ≤ bl) : Below B0 W W' := ⟨h.os, h.tape, h.output, h.size, fun k hk => h.block k (by omega) (by omega) (by omega)⟩
theorem own_type {W : World} {B e size n : Nat} {v : Value} {xs : List Value} (h : W.ownsRow B e size v n xs) {k : Nat} (hk : v.ownBlock = some k) : ∃ cs, W.heap[k]? = some (.cells cs e (0, 0)) := by
  rcases h.2 with ⟨rfl, _⟩ | ⟨g, cap, cur, rfl, _, hg, _⟩
  · cases hk
  · cases hk
    exact ⟨cur, hg⟩
theorem ne_type {W : World} {B e size n : Nat} {v : Value} {xs : List Value} (h : W.ownsRow B e size v n xs) {b : Nat} {cs : Array Value} {t : TypeId} {fr : Nat × Nat} (hb : W.heap[b]? = some (.cells cs t fr)) (hne : t ≠ e) : v.ownBlock ≠ some b := fun e' => by
  obtain ⟨cs', h'⟩ := own_type h e'
  rw [hb] at h'
  injection h' with h'
  injection h' with _ h' _
  exact hne h'
theorem own_apart {W : World} {B e size n B' e' size' n' : Nat} {v v' : Value} {xs xs' : List Value} (h : W.ownsRow B e size v n xs) (h' : W.ownsRow B' e' size' v' n' xs') (hne : e ≠ e') {k : Nat} (hk : v.ownBlock = some k) : v'.ownBlock ≠ some k := by
  obtain ⟨cs, hb⟩ := own_type h hk
  exact ne_type h' hb hne
theorem WK.below {W W' : World} {B bw bl : Nat} {st : St} {vp vl vw : Value} {ll : List ShS.KV} (h : WK W B bw bl st vp vl vw ll) (hb : Below W.heap.size W W') : WK W' B bw bl st vp vl vw ll :=
  ⟨(hb.block bw (Array.getElem?_eq_some_iff.1 h.blk).1).trans h.blk, own_block h.op fun k hk => hb.block k (h.op.lt k hk).2, own_block h.ol fun k hk => hb.block k (h.ol.lt k hk).2, own_block h.ow fun k hk => hb.block k (h.ow.lt k hk).2, h.sh.below hb, h.lb⟩
end Aw
end Go.Proofs.YtipcockcndnipaaDoor
