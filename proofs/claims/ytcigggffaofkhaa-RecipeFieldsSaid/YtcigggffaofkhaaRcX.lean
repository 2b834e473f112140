/-
  Expressions in memory: trees in a set of blocks, kids that are read.
-/
import Derived.Test.YtcigggffaofkhaaRcJ
import Derived.Laws.OwnMore
import Derived.Defers
import Derived.Recover
namespace Go.Proofs.Ytcigggffaofkhaa
open Go.RowKit
namespace Rc

/-- the value v is the expression x, in blocks of the set S -/
inductive RepX (W : World) (S : Nat → Prop) : E → Value → Prop
  | mk (k : Int) (s : ByteArray) (ks : List E) (sl : Option Addr) (cap : Nat) (x y z : Nat → Value) (hcap : ks.length ≤ cap) (hc : ∀ i u, ks[i]? = some u → ∃ b o, sl = some ⟨b, o, none⟩ ∧ S b ∧ W.cell? ⟨b, o + i * 3, none⟩ = some (x i) ∧ W.cell? ⟨b, o + i * 3 + 1, none⟩ = some (y i) ∧ W.cell? ⟨b, o + i * 3 + 2, none⟩ = some (z i))
      (hr : ∀ i u, ks[i]? = some u → RepX W S u (.agg #[x i, y i, z i])) : RepX W S (.mk k s ks) (.agg #[.int .i64 k, .string s, .slice sl ks.length cap])
theorem RepX.same {W W' : World} {S : Nat → Prop} (hW : ∀ b o, S b → W'.cell? ⟨b, o, none⟩ = W.cell? ⟨b, o, none⟩) {t : E} {v : Value} (hr : RepX W S t v) : RepX W' S t v := by
  induction hr with
  | mk k s ks sl cap x y z hcap hc _ ih =>
    refine .mk k s ks sl cap x y z hcap (fun i u hk => ?_) ih
    obtain ⟨b, o, e, hb, h1, h2, h3⟩ := hc i u hk
    exact ⟨b, o, e, hb, (hW _ _ hb).trans h1, (hW _ _ hb).trans h2, (hW _ _ hb).trans h3⟩
theorem RepX.sub {W : World} {S S' : Nat → Prop} (hS : ∀ b, S b → S' b) {t : E} {v : Value} (hr : RepX W S t v) : RepX W S' t v := by
  induction hr with
  | mk k s ks sl cap x y z hcap hc _ ih =>
    refine .mk k s ks sl cap x y z hcap (fun i u hk => ?_) ih
    obtain ⟨b, o, e, hb, h1, h2, h3⟩ := hc i u hk
    exact ⟨b, o, e, hS _ hb, h1, h2, h3⟩
/-- blocks of S stand as they were, and belong to S' -/
theorem RepX.move {W W' : World} {S S' : Nat → Prop} (h : ∀ b, S b → S' b ∧ W'.heap[b]? = W.heap[b]?) {t : E} {v : Value} (hr : RepX W S t v) : RepX W' S' t v :=
  (hr.same (W' := W') fun b _ hb => World.cell?_of_block (h b hb).2).sub fun b hb => (h b hb).1
theorem RepX.vals {W : World} {S : Nat → Prop} {t : E} {v : Value} (hr : RepX W S t v) : ∃ (k : Int) (σ : ByteArray) (sl : Option Addr) (n cap : Nat), v = .agg #[.int .i64 k, .string σ, .slice sl n cap] := by
  cases hr with
  | mk k s ks sl cap x y z hcap hc hr => exact ⟨_, _, _, _, _, rfl⟩
theorem RepX.one {W : World} {S : Nat → Prop} {t : E} {x y z : Value} (hr : RepX W S t (.agg #[x, y, z])) : x.oneCell' = true ∧ y.oneCell' = true ∧ z.oneCell' = true := by
  cases hr with
  | mk k s ks sl cap x y z hcap hc hr => exact ⟨rfl, rfl, rfl⟩
theorem RepX.leaf (W : World) (S : Nat → Prop) (k : Int) (s : ByteArray) : RepX W S (.mk k s []) (.agg #[.int .i64 k, .string s, .slice none 0 0]) :=
  .mk k s [] none 0 (fun _ => .nilIface) (fun _ => .nilIface) (fun _ => .nilIface) (Nat.le_refl _) (fun i k hk => by simp at hk) (fun i k hk => by simp at hk)

/-! kids -/
abbrev Q3 := Value × Value × Value
def row3 (l : List Q3) : List Value := l.flatMap fun q => [q.1, q.2.1, q.2.2]
theorem row3_get : ∀ (l : List Q3) (i : Nat) (q : Q3), l[i]? = some q → (row3 l)[i * 3]? = some q.1 ∧ (row3 l)[i * 3 + 1]? = some q.2.1 ∧ (row3 l)[i * 3 + 2]? = some q.2.2
  | [], i, q, h => by simp at h
  | r :: l, 0, q, h => by simp at h; subst h; simp [row3]
  | r :: l, i + 1, q, h => by
    have ih := row3_get l i q (by simpa using h)
    have e : row3 (r :: l) = [r.1, r.2.1, r.2.2] ++ row3 l := rfl
    have e1 : (i + 1) * 3 = i * 3 + 3 := by omega
    have ee : ∀ j, (row3 (r :: l))[j + 3]? = (row3 l)[j]? := fun j => by rw [e, List.getElem?_append_right (by simp)]; simp
    rw [e1, show i * 3 + 3 + 1 = i * 3 + 1 + 3 by omega, show i * 3 + 3 + 2 = i * 3 + 2 + 3 by omega, ee, ee, ee]
    exact ih
theorem row3_snoc (l : List Q3) (q : Q3) : row3 (l ++ [q]) = row3 l ++ [q.1, q.2.1, q.2.2] := by simp [row3]
theorem own_row3 {W : World} {B : Nat} {v : Value} {l : List Q3} (h : W.ownsRow B 26 3 v l.length (row3 l)) (hl : 0 < l.length) :
    ∃ g cap, v = .slice (some ⟨g, 0, none⟩) l.length cap ∧ B ≤ g ∧ g < W.heap.size ∧ ∀ i q, l[i]? = some q → W.cell? ⟨g, 0 + i * 3, none⟩ = some q.1 ∧ W.cell? ⟨g, 0 + i * 3 + 1, none⟩ = some q.2.1 ∧ W.cell? ⟨g, 0 + i * 3 + 2, none⟩ = some q.2.2 := by
  obtain ⟨g, cap, rfl, hg, hlt⟩ := h.form hl
  have hadd : ∀ n, (⟨g, 0, none⟩ : Addr).add n = ⟨g, n, none⟩ := fun n => by unfold Addr.add; split <;> simp_all
  refine ⟨g, cap, rfl, hg, hlt, fun i q hq => ?_⟩
  obtain ⟨h1, h2, h3⟩ := row3_get l i q hq
  have c1 := h.cells (g := g) rfl _ _ h1
  have c2 := h.cells (g := g) rfl _ _ h2
  have c3 := h.cells (g := g) rfl _ _ h3
  rw [hadd] at c1 c2 c3
  simp only [Nat.zero_add]
  exact ⟨c1, c2, c3⟩
theorem own_room {W : World} {B g n cap : Nat} {e : TypeId} {sz : Nat} {xs : List Value} (h : W.ownsRow B e sz (.slice (some ⟨g, 0, none⟩) n cap) n xs) : n ≤ cap := by
  rcases h.2 with ⟨e, _⟩ | ⟨g', cap', cur, e, _, _, hl, _⟩
  · cases e
  · cases e; exact hl
/-- the kids that are read -/
structure KX (W : World) (B : Nat) (v : Value) (ts : List E) (qs : List Q3) : Prop where
  len : qs.length = ts.length
  pos : 0 < ts.length
  own : W.ownsRow B 26 3 v ts.length (row3 qs)
  one : ∀ q ∈ qs, q.1.oneCell' = true ∧ q.2.1.oneCell' = true ∧ q.2.2.oneCell' = true
  rep : ∀ (i : Nat) (q : Q3) (t : E), qs[i]? = some q → ts[i]? = some t → RepX W (fun k => B ≤ k ∧ k < W.heap.size ∧ v.ownBlock ≠ some k) t (.agg #[q.1, q.2.1, q.2.2])
theorem KX.same {W W' : World} {B : Nat} {v : Value} {ts : List E} {qs : List Q3} (k : KX W B v ts qs) (hs : W.heap.size ≤ W'.heap.size) (hb : ∀ j, B ≤ j → j < W.heap.size → W'.heap[j]? = W.heap[j]?) : KX W' B v ts qs :=
  ⟨k.len, k.pos, own_block k.own (fun j hj => hb j (k.own.lt j hj).1 (k.own.lt j hj).2), k.one, fun i q t hq ht =>
    (k.rep i q t hq ht).move fun b hS => ⟨⟨hS.1, Nat.lt_of_lt_of_le hS.2.1 hs, hS.2.2⟩, hb b hS.1 hS.2.1⟩⟩
/-- the first kid: a slice of one, made at W -/
theorem KX.first {W : World} {B C : Nat} (hC : B ≤ C) (hB : B ≤ W.heap.size) {q : Q3} {t : E} (hr : RepX W (fun k => C ≤ k ∧ k < W.heap.size) t (.agg #[q.1, q.2.1, q.2.2])) :
    KX (W.alloc (.cells #[q.1, q.2.1, q.2.2] 26)) B (.slice (some ⟨W.heap.size, 0, none⟩) 1 1) [t] [q] := by
  refine ⟨rfl, by simp, ?_, fun q' hq' => ?_, fun i q' t' hq' ht' => ?_⟩
  · exact World.ownsRow_lit W #[q.1, q.2.1, q.2.2] 1 hB (by unfold maxLen; omega) rfl
  · rw [List.mem_singleton] at hq'
    subst hq'
    exact hr.one
  · have hi : i < [q].length := (List.getElem?_eq_some_iff.1 hq').1
    simp at hi
    subst hi
    simp at hq' ht'
    subst hq' ht'
    refine hr.move fun b hS => ⟨⟨by omega, by simp; omega, fun e => ?_⟩, heap_alloc_old W _ hS.2⟩
    have : W.heap.size = b := by simpa [Value.ownBlock] using e
    omega
/-- one kid more -/
theorem KX.snoc {W0 W W' : World} {B : Nat} {v : Value} {ts : List E} {qs : List Q3} (k : KX W0 B v ts qs) (hs : W0.heap.size ≤ W.heap.size) (hb : ∀ j, B ≤ j → j < W0.heap.size → W.heap[j]? = W0.heap[j]?) (hB : B ≤ W0.heap.size)
    {q : Q3} {t : E} (hr : RepX W (fun k => W0.heap.size ≤ k ∧ k < W.heap.size) t (.agg #[q.1, q.2.1, q.2.2]))
    {g cap : Nat} {H : Nat} (hH : W.heap.size ≤ H) (hg : W.heap.size ≤ W'.heap.size ∧ ∀ j, j < W.heap.size → v.ownBlock ≠ some j → W'.heap[j]? = W.heap[j]?)
    (hat : v.ownBlock = some g ∨ g = H) (hown : W'.ownsRow B 26 3 (.slice (some ⟨g, 0, none⟩) (ts.length + 1) cap) (ts.length + 1) (row3 qs ++ [q.1, q.2.1, q.2.2])) :
    KX W' B (.slice (some ⟨g, 0, none⟩) (ts.length + 1) cap) (ts ++ [t]) (qs ++ [q]) := by
  have hv : ∀ j, v.ownBlock = some j → B ≤ j ∧ j < W0.heap.size := fun j hj => k.own.lt j hj
  have hob : (Value.slice (some ⟨g, 0, none⟩) (ts.length + 1) cap).ownBlock = some g := rfl
  refine ⟨by simp [k.len], by simp, ?_, fun q' hq' => ?_, fun i q' t' hq' ht' => ?_⟩
  · rw [List.length_append, List.length_singleton, row3_snoc]
    exact hown
  · rw [List.mem_append, List.mem_singleton] at hq'
    rcases hq' with hq' | rfl
    · exact k.one q' hq'
    · exact hr.one
  · rcases Nat.lt_or_ge i qs.length with hi | hi
    · rw [List.getElem?_append_left hi] at hq'
      rw [List.getElem?_append_left (by rw [← k.len]; exact hi)] at ht'
      refine (k.rep i q' t' hq' ht').move fun b hS => ⟨⟨hS.1, by omega, fun e => ?_⟩, ?_⟩
      · rw [hg.2 b (by omega) hS.2.2, hb b hS.1 hS.2.1]
      · rw [hob] at e
        cases e
        rcases hat with hat | hat
        · exact hS.2.2 hat
        · omega
    · have hi' : i < (qs ++ [q]).length := (List.getElem?_eq_some_iff.1 hq').1
      simp at hi'
      obtain rfl : i = qs.length := by omega
      simp at hq'
      rw [k.len] at ht'
      simp at ht'
      subst hq' ht'
      refine hr.move fun b hS => ⟨⟨by omega, by omega, fun e => ?_⟩, hg.2 b hS.2 (fun e => ?_)⟩
      · have := hv b e; omega
      · rw [hob] at e
        cases e
        rcases hat with hat | hat
        · have := hv g hat; omega
        · omega
/-- all kids: a sum's slice -/
theorem KX.list {W : World} {B : Nat} {v : Value} {ts : List E} {qs : List Q3} (k : KX W B v ts qs) (kind : Int) (s : ByteArray) : RepX W (fun k => B ≤ k ∧ k < W.heap.size) (.mk kind s ts) (.agg #[.int .i64 kind, .string s, v]) := by
  have h' : W.ownsRow B 26 3 v qs.length (row3 qs) := by rw [k.len]; exact k.own
  obtain ⟨g, cap, rfl, hB, hlt, hc⟩ := own_row3 h' (by rw [k.len]; exact k.pos)
  rw [k.len]
  refine .mk kind s ts _ cap (fun i => (qs.getD i (.nilIface, .nilIface, .nilIface)).1) (fun i => (qs.getD i (.nilIface, .nilIface, .nilIface)).2.1) (fun i => (qs.getD i (.nilIface, .nilIface, .nilIface)).2.2) (by rw [k.len] at h'; exact own_room h') (fun i t ht => ?_) (fun i t ht => ?_)
  · have hi : i < qs.length := by rw [k.len]; exact (List.getElem?_eq_some_iff.1 ht).1
    have hq : qs[i]? = some qs[i] := List.getElem?_eq_getElem hi
    rw [List.getD_eq_getElem?_getD, hq]
    obtain ⟨h1, h2, h3⟩ := hc i _ hq
    exact ⟨g, 0, rfl, ⟨hB, hlt⟩, h1, h2, h3⟩
  · have hi : i < qs.length := by rw [k.len]; exact (List.getElem?_eq_some_iff.1 ht).1
    have hq : qs[i]? = some qs[i] := List.getElem?_eq_getElem hi
    rw [List.getD_eq_getElem?_getD, hq]
    exact (k.rep i _ t hq ht).sub (fun j hj => ⟨hj.1, hj.2.1⟩)
/-- what a reading of an expression answers -/
def valE (W : World) (x : E) (e : Ending) (W' : World) : Prop := ∃ (k : Int) (σ : ByteArray) (sl : Option Addr) (n cap : Nat), e = .returned (.agg #[.int .i64 k, .string σ, .slice sl n cap]) ∧ RepX W' (fun j => W.heap.size ≤ j ∧ j < W'.heap.size) x (.agg #[.int .i64 k, .string σ, .slice sl n cap])
abbrev zeroX : Array Value := #[.int .i64 0, .string ⟨#[]⟩, .slice none 0 0]
/-- a store of three cells into a block that is new -/
abbrev put3 (W : World) (g : Nat) (x y z : Value) : World := ((W.setCell ⟨g, 0, none⟩ x).setCell ⟨g, 1, none⟩ y).setCell ⟨g, 2, none⟩ z
theorem put3_heap (W : World) (g : Nat) (x y z : Value) {k : Nat} (h : k ≠ g) : (put3 W g x y z).heap[k]? = W.heap[k]? := by
  rw [Below.heap_setCell _ _ _ _ h, Below.heap_setCell _ _ _ _ h, Below.heap_setCell _ _ _ _ h]
theorem put3_size (W : World) (g : Nat) (x y z : Value) : (put3 W g x y z).heap.size = W.heap.size := by simp [put3, World.setCell]
theorem put3_cells {W : World} {g : Nat} {a b c x y z : Value} (h0 : W.cell? ⟨g, 0, none⟩ = some a) (h1 : W.cell? ⟨g, 1, none⟩ = some b) (h2 : W.cell? ⟨g, 2, none⟩ = some c) :
    (put3 W g x y z).cell? ⟨g, 0, none⟩ = some x ∧ (put3 W g x y z).cell? ⟨g, 1, none⟩ = some y ∧ (put3 W g x y z).cell? ⟨g, 2, none⟩ = some z := by
  refine ⟨?_, ?_, ?_⟩
  · rw [World.cell?_setCell_other _ _ _ _ (by simp), World.cell?_setCell_other _ _ _ _ (by simp)]
    exact World.cell?_setCell_same _ _ _ h0
  · rw [World.cell?_setCell_other _ _ _ _ (by simp)]
    exact World.cell?_setCell_same _ _ _ ((World.cell?_setCell_other _ _ _ _ (by simp)).trans h1)
  · exact World.cell?_setCell_same _ _ _ ((World.cell?_setCell_other _ _ _ _ (by simp)).trans ((World.cell?_setCell_other _ _ _ _ (by simp)).trans h2))
theorem Fq.put3 {W W' : World} {b : Nat} (h : Fq W W' b) (hb : b < W.heap.size) {g : Nat} (hg : W.heap.size ≤ g) (x y z : Value) : Fq W (Rc.put3 W' g x y z) b :=
  ((h.new hb ⟨g, 0, none⟩ hg x).new hb ⟨g, 1, none⟩ hg y).new hb ⟨g, 2, none⟩ hg z
theorem RD.far {W : World} {b : Nat} {s : ByteArray} {m : Nat} {tx : Bool} {ts : ByteArray} {tp : Nat} {dp : Int} (h : RD W b s m tx ts tp dp) {g : Nat} (hg : b ≠ g) (x y z : Value) : RD (put3 W g x y z) b s m tx ts tp dp :=
  h.block (by rw [put3_size]; exact Nat.le_refl _) (put3_heap _ _ _ _ _ hg)
end Rc
end Go.Proofs.Ytcigggffaofkhaa
