/-
  Walk: the reader's expr, over what its term does.
-/
import Derived.Test.YtcigggffaofkhaaRcB
import Derived.Test.YtcigggffaofkhaaRcX
namespace Go.Proofs.Ytcigggffaofkhaa
open Go.RowKit
namespace Rc

theorem info_x : (Try.prog.info? 26).map (fun i => (i.zero, i.size, i.bytes)) = some (some (.agg #[.int .i64 0, .string ⟨#[]⟩, .slice none 0 0]), 3, 48) := by kernel_rfl
theorem info_parts {P : Program} {t : TypeId} {z : Value} {a b : Nat} (h : (P.info? t).map (fun i => (i.zero, i.size, i.bytes)) = some (some z, a, b)) : ∃ i, P.info? t = some i ∧ i.zero = some z ∧ i.size = a ∧ i.bytes = b := by
  cases hi : P.info? t with
  | none => rw [hi] at h; cases h
  | some i =>
    rw [hi] at h
    simp only [Option.map_some, Option.some.injEq, Prod.mk.injEq] at h
    exact ⟨i, rfl, h.1, h.2.1, h.2.2⟩
theorem lit3 (W : World) (x y z : Value) (t : TypeId) : ∀ j u, [x, y, z][j]? = some u → (W.alloc (.cells #[x, y, z] t)).cell? ((⟨W.heap.size, 0, none⟩ : Addr).add j) = some u :=
  World.news_of_block (heap_alloc_new W _)
theorem one3 {x y z : Value} (h : x.oneCell' = true ∧ y.oneCell' = true ∧ z.oneCell' = true) : ∀ u ∈ [x, y, z], u.oneCell' = true := by
  intro u hu
  simp only [List.mem_cons, List.not_mem_nil, or_false] at hu
  rcases hu with rfl | rfl | rfl
  · exact h.1
  · exact h.2.1
  · exact h.2.2
/-- a term, by its contract -/
def TermC (s : ByteArray) (dp : Int) (f : Tk → Res E) : Prop := ∀ (W : World) (b : Nat) (t : Tk), RK W b s t dp → TV s t →
  Calls Try.prog 58 #[.pointer (some ⟨b, 0, none⟩)] W fun e W' => PX W b s dp (f t) (valE W) e W'
/-- the state at a round's head -/
structure LX (W wr : World) (b : Nat) (s : ByteArray) (dp : Int) (f : Tk → Res E) (v : Value) (x : E) (acc : List E) (qs : List Q3) (t : Tk) (m : Nat) (R : Res (List E)) : Prop where
  kx : KX wr (W.heap.size + 1) v (x :: acc) qs
  rk : RK wr b s t dp
  tv : TV s t
  fq : Fq W wr b
  few : acc.length ≤ t.fin
  fuel : s.size - t.fin + 1 ≤ m
  eq : sumP s.data.toList f m t acc = R
  bx : wr.heap[W.heap.size]? = some (.cells zeroX 26 (0, 0))
theorem expr_bad1 {s : List UInt8} {f : Tk → Res E} {t : Tk} {p : Nat} {e : Int} (h : f t = .bad p e) : exprP s f t = .bad p e := by unfold exprP; rw [h]; rfl
theorem expr_bad2 {s : List UInt8} {f : Tk → Res E} {t t1 : Tk} {x : E} {p : Nat} {e : Int} (h : f t = .ok x t1) (h2 : sumP s f (s.length + 1) t1 [] = .bad p e) : exprP s f t = .bad p e := by
  unfold exprP
  rw [h]
  show (sumP s f (s.length + 1) t1 []).bind _ = _
  rw [h2]; rfl
theorem expr_ok {s : List UInt8} {f : Tk → Res E} {t t1 t2 : Tk} {x : E} {l : List E} (h : f t = .ok x t1) (h2 : sumP s f (s.length + 1) t1 [] = .ok l t2) : exprP s f t = .ok (catE x l) t2 := by
  unfold exprP
  rw [h]
  show (sumP s f (s.length + 1) t1 []).bind _ = _
  rw [h2]; rfl
/-- behind the first term: the loop's start -/
theorem LX.start {W w1 : World} {b : Nat} {s : ByteArray} {dp : Int} {f : Tk → Res E} {x : E} {t1 : Tk} {k : Int} {σ : ByteArray} {sl : Option Addr} {n cap : Nat} (hlt : b < W.heap.size)
    (hX : Fq (W.alloc (.cells zeroX 26)) w1 b) (hr : RepX w1 (fun j => (W.alloc (.cells zeroX 26)).heap.size ≤ j ∧ j < w1.heap.size) x (.agg #[.int .i64 k, .string σ, .slice sl n cap])) (hk : RK w1 b s t1 dp) (hv : TV s t1) :
    LX W (w1.alloc (.cells #[.int .i64 k, .string σ, .slice sl n cap] 26)) b s dp f (.slice (some ⟨w1.heap.size, 0, none⟩) 1 1) x [] [(.int .i64 k, .string σ, .slice sl n cap)] t1 (s.size + 1) (sumP s.data.toList f (s.size + 1) t1 []) := by
  have hsz := hX.below.size
  have hsz : W.heap.size + 1 ≤ w1.heap.size := by simpa using hsz
  have hA : Below W.heap.size W (W.alloc (.cells zeroX 26)) := (Below.refl _ _).alloc (Nat.le_refl _) _
  have h1 : Fq W w1 b := (Fq.of_below hA (Nat.le_of_lt hlt)).trans hX
  have hB : Below w1.heap.size w1 (w1.alloc (.cells #[.int .i64 k, .string σ, .slice sl n cap] 26)) := (Below.refl _ _).alloc (Nat.le_refl _) _
  refine ⟨KX.first (q := (.int .i64 k, .string σ, .slice sl n cap)) (Nat.le_refl _) hsz (by simpa using hr), hk.keep hB, hv, h1.step hlt hB, Nat.zero_le _, by omega, rfl, ?_⟩
  rw [hB.block _ (by omega), hX.block _ (by simp) (by omega)]
  exact heap_alloc_new W _
theorem LX.after {W wr w1 w2 : World} {b : Nat} {s : ByteArray} {dp : Int} {f : Tk → Res E} {v : Value} {x : E} {acc : List E} {qs : List Q3} {t : Tk} {m : Nat} {R : Res (List E)} {o : Array Value} (L : LX W wr b s dp f v x acc qs t m R) (hlt : b < W.heap.size) {t2 : Tk} (hrk : RK w1 b s t2 dp) (hfq : Fq wr w1 b)
    (hgr : (w1.alloc (.cells o 26)).grownBy w2 v.ownBlock) :
    RK w2 b s t2 dp ∧ Fq W w2 b ∧ w2.heap[W.heap.size]? = some (.cells zeroX 26 (0, 0)) ∧ (∀ j, j < w1.heap.size → v.ownBlock ≠ some j → w2.heap[j]? = w1.heap[j]?) ∧ w1.heap.size ≤ w2.heap.size ∧ W.heap.size < wr.heap.size ∧ wr.heap.size ≤ w1.heap.size := by
  have hv : ∀ j, v.ownBlock = some j → W.heap.size + 1 ≤ j ∧ j < wr.heap.size := fun j hj => L.kx.own.lt j hj
  have hW : W.heap.size < wr.heap.size := by
    rcases Nat.lt_or_ge W.heap.size wr.heap.size with h' | h'
    · exact h'
    · have hb := L.bx
      rw [Array.getElem?_eq_none h'] at hb; cases hb
  have hw1 : wr.heap.size ≤ w1.heap.size := hfq.below.size
  have hsz : w1.heap.size + 1 ≤ w2.heap.size := by have := hgr.size; simpa using this
  have hblk : ∀ j, j < w1.heap.size → v.ownBlock ≠ some j → w2.heap[j]? = w1.heap[j]? := fun j hj hne =>
    (hgr.block j (by simp; omega) (fun e => hne e.symm)).trans (heap_alloc_old w1 _ hj)
  have hb1 : v.ownBlock ≠ some b := fun e => by have := hv b e; omega
  have hb2 : v.ownBlock ≠ some W.heap.size := fun e => by have := hv _ e; omega
  refine ⟨hrk.block (by omega) (hblk b hrk.lt hb1), ?_, ?_, hblk, by omega, hW, hw1⟩
  · have h1 : Fq W w1 b := L.fq.trans hfq
    have hX : Below w1.heap.size w1 (w1.alloc (.cells o 26)) := (Below.refl _ _).alloc (Nat.le_refl _) _
    have h2 := h1.step hlt hX
    refine ⟨h2.below.grown hgr (by simp; omega) (fun j hj => by have := hv j hj; omega), fun k hk hne => ?_⟩
    rw [hblk k (by omega) (fun e => by have := hv k e; omega)]
    exact h1.block k hk hne
  · rw [hblk _ (by omega) hb2, hfq.block _ hW (by omega)]
    exact L.bx
theorem sum_stop {s : List UInt8} {f : Tk → Res E} {m : Nat} {t : Tk} {acc : List E} (h : isW t [43] = false) : sumP s f (m + 1) t acc = .ok acc t := by unfold sumP; rw [h]; rfl
theorem sum_step {s : List UInt8} {f : Tk → Res E} {m : Nat} {t : Tk} {acc : List E} (h : isW t [43] = true) : sumP s f (m + 1) t acc = (stepT s t).bind fun _ t1 => (f t1).bind fun y t2 => sumP s f m t2 (acc ++ [y]) := by rw [sumP, if_pos h]
theorem LX.next {W wr ws w1 w2 : World} {b : Nat} {s : ByteArray} {dp : Int} {f : Tk → Res E} {v : Value} {x : E} {acc : List E} {qs : List Q3} {t : Tk} {m : Nat} {R : Res (List E)} (L : LX W wr b s dp f v x acc qs t m R) (hlt : b < W.heap.size) (hp : Pg f) (hw : isW t [43] = true)
    {u : Unit} {t1 t2 : Tk} {y : E} (h1 : stepT s.data.toList t = .ok u t1) (h2 : f t1 = .ok y t2) (hv2 : TV s t2) {k : Int} {σ : ByteArray} {sl : Option Addr} {n c : Nat}
    (hfs : Fq wr ws b) (hrep : RepX w1 (fun j => ws.heap.size ≤ j ∧ j < w1.heap.size) y (.agg #[.int .i64 k, .string σ, .slice sl n c])) (hrk : RK w1 b s t2 dp) (hfq : Fq ws w1 b) {g cap : Nat}
    (hown : w2.ownsRow (W.heap.size + 1) 26 3 (.slice (some ⟨g, 0, none⟩) ((x :: acc).length + 1) cap) ((x :: acc).length + 1) (row3 qs ++ [.int .i64 k, .string σ, .slice sl n c]))
    (hgr : (w1.alloc (.cells #[.int .i64 k, .string σ, .slice sl n c] 26)).grownBy w2 v.ownBlock) (hat : v.ownBlock = some g ∨ g = w1.heap.size + 1) :
    LX W w2 b s dp f (.slice (some ⟨g, 0, none⟩) ((x :: acc).length + 1) cap) x (acc ++ [y]) (qs ++ [(.int .i64 k, .string σ, .slice sl n c)]) t2 (m - 1) R ∧ t.fin < t2.fin := by
  obtain ⟨g1, g2, g3, g4, g5, g6, g7⟩ := L.after hlt hrk (hfs.trans hfq) hgr
  have p1 := step_prog h1
  have p2 := hp _ _ _ h2
  have p3 := p1.2 p2.1
  have hf := L.fuel
  have hfe := L.few
  have hv := hv2.fin
  have hf1 := L.tv.fin
  obtain ⟨m', rfl⟩ : ∃ m', m = m' + 1 := ⟨m - 1, by omega⟩
  have hws := hfs.below.size
  have hw1 := hfq.below.size
  refine ⟨⟨?_, g1, hv2, g2, by simp; omega, by omega, ?_, g3⟩, by omega⟩
  · have := L.kx.snoc (W := w1) (W' := w2) (q := (.int .i64 k, .string σ, .slice sl n c)) (t := y) (g := g) (cap := cap) (H := w1.heap.size + 1) g7 (fun j hj1 hj2 => ?_) (by omega) (hrep.sub fun j hj => ⟨by omega, hj.2⟩) (Nat.le_succ _) ⟨g5, g4⟩ hat hown
    · exact this
    · rw [hfq.block j (by omega) (by omega), hfs.block j hj2 (by omega)]
  · rw [← L.eq, sum_step hw, h1]
    show _ = (f t1).bind _
    rw [h2]
    rfl
/-- all terms are read: one -/
theorem LX.done1 {W wr : World} {b : Nat} {s : ByteArray} {dp : Int} {f : Tk → Res E} {v : Value} {x : E} {acc : List E} {qs : List Q3} {t : Tk} {m : Nat} {R : Res (List E)} (L : LX W wr b s dp f v x acc qs t m R) (hlt : b < W.heap.size) (h0 : acc = []) :
    ∃ g cap k σ sl n c, v = .slice (some ⟨g, 0, none⟩) 1 cap ∧ wr.cell? ⟨g, 0, none⟩ = some (.int .i64 k) ∧ wr.cell? ⟨g, 1, none⟩ = some (.string σ) ∧ wr.cell? ⟨g, 2, none⟩ = some (.slice sl n c) ∧ 1 ≤ cap ∧
      valE W (catE x acc) (.returned (.agg #[.int .i64 k, .string σ, .slice sl n c])) (put3 wr W.heap.size (.int .i64 k) (.string σ) (.slice sl n c)) ∧ RK (put3 wr W.heap.size (.int .i64 k) (.string σ) (.slice sl n c)) b s t dp ∧ Fq W (put3 wr W.heap.size (.int .i64 k) (.string σ) (.slice sl n c)) b := by
  subst h0
  have k1 := L.kx
  obtain ⟨q, rfl⟩ : ∃ q, qs = [q] := by
    have := k1.len
    match qs, this with
    | [q], _ => exact ⟨q, rfl⟩
  have hrep := k1.rep 0 q x rfl rfl
  obtain ⟨k, σ, sl, n, c, he⟩ := hrep.vals
  obtain ⟨q0, q1, q2⟩ := q
  simp only [Value.agg.injEq, Array.mk.injEq, List.cons.injEq, and_true] at he
  obtain ⟨rfl, rfl, rfl⟩ := he
  obtain ⟨g, cap, rfl, hB, hg, hc⟩ := own_row3 (l := [(.int .i64 k, .string σ, .slice sl n c)]) k1.own (by simp)
  obtain ⟨c0, c1, c2⟩ := hc 0 _ rfl
  simp only [Nat.zero_add, Nat.zero_mul] at c0 c1 c2
  refine ⟨g, cap, k, σ, sl, n, c, rfl, c0, c1, c2, own_room k1.own, ⟨k, σ, sl, n, c, rfl, ?_⟩, L.rk.far (by omega) _ _ _, L.fq.put3 hlt (Nat.le_refl _) _ _ _⟩
  show RepX _ _ x _
  exact hrep.move fun j hj => ⟨⟨by omega, by rw [put3_size]; exact hj.2.1⟩, put3_heap _ _ _ _ _ (by omega)⟩
/-- all terms are read: more than one -/
theorem LX.done2 {W wr : World} {b : Nat} {s : ByteArray} {dp : Int} {f : Tk → Res E} {v : Value} {x : E} {acc : List E} {qs : List Q3} {t : Tk} {m : Nat} {R : Res (List E)} (L : LX W wr b s dp f v x acc qs t m R) (hlt : b < W.heap.size) (h0 : acc ≠ []) :
    ∃ sl cap, v = .slice sl (acc.length + 1) cap ∧ valE W (catE x acc) (.returned (.agg #[.int .i64 3, .string ⟨#[]⟩, .slice sl (acc.length + 1) cap])) (put3 wr W.heap.size (.int .i64 3) (.string ⟨#[]⟩) (.slice sl (acc.length + 1) cap)) ∧
      RK (put3 wr W.heap.size (.int .i64 3) (.string ⟨#[]⟩) (.slice sl (acc.length + 1) cap)) b s t dp ∧ Fq W (put3 wr W.heap.size (.int .i64 3) (.string ⟨#[]⟩) (.slice sl (acc.length + 1) cap)) b := by
  obtain ⟨sl, cap, rfl⟩ := own_form L.kx.own
  have hl := L.kx.list 3 ⟨#[]⟩
  refine ⟨sl, cap, rfl, ⟨3, _, _, _, _, rfl, ?_⟩, L.rk.far (by have := L.rk.lt; omega) _ _ _, L.fq.put3 hlt (Nat.le_refl _) _ _ _⟩
  unfold catE
  rw [if_neg h0]
  exact hl.move fun j hj => ⟨⟨by omega, by rw [put3_size]; exact hj.2⟩, put3_heap _ _ _ _ _ (by omega)⟩
theorem own_alloc {wr w1 : World} {B n b : Nat} {v : Value} {xs : List Value} (k : wr.ownsRow B 26 3 v n xs) (hb : b < B) (hfq : Fq wr w1 b) (o : Obj) : (w1.alloc o).ownsRow B 26 3 v n xs :=
  (own_block k (fun j hj => hfq.block j (k.lt j hj).2 (by have := (k.lt j hj).1; omega))).alloc o
end Rc
end Go.Proofs.Ytcigggffaofkhaa
