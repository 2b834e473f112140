/-
  Terms at every depth; fields in memory; the state of a source's reading.
-/
import Derived.Test.YtcigggffaofkhaaRcV
namespace Go.Proofs.Ytcigggffaofkhaa
open Go.RowKit
namespace Rc

theorem info_f : (Try.prog.info? 47).map (fun i => (i.zero, i.size, i.bytes)) = some (some (.agg #[.int .i64 0, .int .i64 0, .string ⟨#[]⟩, .slice none 0 0, .int .i64 0, .string ⟨#[]⟩, .slice none 0 0]), 7, 104) := by kernel_rfl
theorem info_s : (Try.prog.info? 29).map (fun i => (i.zero, i.size, i.bytes)) = some (some (.agg #[.int .i64 0, .string ⟨#[]⟩, .slice none 0 0, .int .i64 0, .string ⟨#[]⟩, .slice none 0 0, .slice none 0 0]), 7, 120) := by kernel_rfl
theorem term_any (s : ByteArray) (hs : s.size ≤ 4096) : ∀ (h : Nat) (dp : Int), 0 ≤ dp → dp + h = 32 → TermC s dp (termP s.data.toList h)
  | 0, dp, h0, hd, W, b, t, hk, hv => by
    have hd : dp = 32 := by omega
    by_cases h3 : t.kind = 3
    · exact deep_text s dp h0 W b t hk hv h3 hd (by simp [termOk, h3])
    · cases hc : l3.contains t.s.data.toList with
      | true =>
        refine deep_has s dp h0 W b t hk hv h3 hc hd ?_
        rw [l3_has hv h3] at hc
        simp only [Bool.or_eq_true] at hc
        rcases hc with (hc | hc) | hc <;> simp [termOk, hc]
      | false =>
        cases hn : nameL t.s.data.toList with
        | true => exact deep_name s dp h0 W b t hk hv h3 hc hn hd (by simp [termOk, name_kind hv h3 hn, hn])
        | false =>
          rw [l3_has hv h3] at hc
          simp only [Bool.or_eq_false_iff] at hc
          exact term_fail s dp 0 W b t hk hv h3 (by rw [l3_has hv h3]; simp [hc]) hn (by simp [termOk, hc, hn, h3])
  | h + 1, dp, h0, hd, W, b, t, hk, hv => by
    have ih := term_any s hs h (dp + 1) (by omega) (by omega)
    have h1 : dp < 32 := by omega
    by_cases h3 : t.kind = 3
    · exact term_text s hs dp h0 h1 h W b t hk hv h3
    · cases w1 : isW t [40] with
      | true => exact term_paren s hs dp h0 h1 h ih W b t hk hv w1
      | false =>
        cases w2 : isW t [105, 102] with
        | true => exact term_cond s hs dp h0 h1 h ih W b t hk hv w2
        | false =>
          cases w3 : isW t [108, 101, 116] with
          | true => exact term_bind s hs dp h0 h1 h ih W b t hk hv w3
          | false =>
            have hc : l3.contains t.s.data.toList = false := by rw [l3_has hv h3, w1, w2, w3]; rfl
            cases hn : nameL t.s.data.toList with
            | true => exact term_word s hs dp h0 h1 h W b t hk hv (name_kind hv h3 hn) hn w1 w2 w3
            | false => exact term_fail s dp (h + 1) W b t hk hv h3 hc hn (by simp [termOk, w1, w2, w3, hn, h3])
/-- an expression at the top -/
theorem top_any (s : ByteArray) (hs : s.size ≤ 4096) (W : World) (b : Nat) (t : Tk) (hk : RK W b s t 0) (hv : TV s t) :
    Calls Try.prog 48 #[.pointer (some ⟨b, 0, none⟩)] W fun e W' => PX W b s 0 (exprP s.data.toList (termP s.data.toList 32) t) (valE W) e W' :=
  expr_any s hs 0 _ (term_prog _ 32) (term_any s hs 32 0 (by omega) (by omega)) W b t hk hv

/-! fields -/
abbrev F7 := Value × Q3 × Q3
def cells7 (q : F7) : List Value := [q.1, q.2.1.1, q.2.1.2.1, q.2.1.2.2, q.2.2.1, q.2.2.2.1, q.2.2.2.2]
def row7 (l : List F7) : List Value := l.flatMap cells7
theorem row7_len : ∀ l, (row7 l).length = l.length * 7
  | [] => rfl
  | q :: l => by have := row7_len l; simp only [row7, cells7, List.flatMap_cons, List.length_append, List.length_cons, List.length_nil] at this ⊢; omega
theorem row7_get : ∀ (l : List F7) (i : Nat) (q : F7), l[i]? = some q → ∀ j, j < 7 → (row7 l)[i * 7 + j]? = (cells7 q)[j]?
  | [], i, q, h => by simp at h
  | r :: l, 0, q, h => by
    intro j hj
    simp at h
    subst h
    rw [Nat.zero_mul, Nat.zero_add, row7, List.flatMap_cons, List.getElem?_append_left (by simpa [cells7] using hj)]
  | r :: l, i + 1, q, h => by
    intro j hj
    have ih := row7_get l i q (by simpa using h) j hj
    rw [show (i + 1) * 7 + j = (i * 7 + j) + 7 by omega, row7, List.flatMap_cons, List.getElem?_append_right (by simp [cells7])]
    rw [show i * 7 + j + 7 - (cells7 r).length = i * 7 + j by simp [cells7]]
    exact ih
theorem row7_snoc (l : List F7) (q : F7) : row7 (l ++ [q]) = row7 l ++ cells7 q := by simp [row7]
/-- the value q is the field t -/
def RepF (W : World) (S : Nat → Prop) (t : Int × E × E) (q : F7) : Prop := q.1 = .int .i64 t.1 ∧ RepX W S t.2.1 (.agg #[q.2.1.1, q.2.1.2.1, q.2.1.2.2]) ∧ RepX W S t.2.2 (.agg #[q.2.2.1, q.2.2.2.1, q.2.2.2.2])
theorem RepF.move {W W' : World} {S S' : Nat → Prop} (h : ∀ b, S b → S' b ∧ W'.heap[b]? = W.heap[b]?) {t : Int × E × E} {q : F7} (hr : RepF W S t q) : RepF W' S' t q := ⟨hr.1, hr.2.1.move h, hr.2.2.move h⟩
theorem RepF.one {W : World} {S : Nat → Prop} {t : Int × E × E} {q : F7} (h : RepF W S t q) : ∀ u ∈ cells7 q, u.oneCell' = true := by
  have h0 : q.1.oneCell' = true := by rw [h.1]; rfl
  have h1 := h.2.1.one
  have h2 := h.2.2.one
  intro u hu
  simp only [cells7, List.mem_cons, List.not_mem_nil, or_false] at hu
  rcases hu with rfl | rfl | rfl | rfl | rfl | rfl | rfl
  · exact h0
  · exact h1.1
  · exact h1.2.1
  · exact h1.2.2
  · exact h2.1
  · exact h2.2.1
  · exact h2.2.2
/-- the fields that are read -/
structure KF (W : World) (B : Nat) (v : Value) (ts : List (Int × E × E)) (qs : List F7) : Prop where
  len : qs.length = ts.length
  own : W.ownsRow B 47 7 v ts.length (row7 qs)
  nil : ts.length = 0 → v = .slice none 0 0
  rep : ∀ (i : Nat) (q : F7) (t : Int × E × E), qs[i]? = some q → ts[i]? = some t → RepF W (fun k => B ≤ k ∧ k < W.heap.size ∧ v.ownBlock ≠ some k) t q
theorem KF.start (W : World) (B : Nat) : KF W B (.slice none 0 0) [] [] := ⟨rfl, World.ownsRow_nil _ _ _ _, fun _ => rfl, fun i q t hq => by simp at hq⟩
theorem KF.same {W W' : World} {B : Nat} {v : Value} {ts : List (Int × E × E)} {qs : List F7} (k : KF W B v ts qs) (hs : W.heap.size ≤ W'.heap.size) (hb : ∀ j, B ≤ j → j < W.heap.size → W'.heap[j]? = W.heap[j]?) : KF W' B v ts qs :=
  ⟨k.len, own_block k.own (fun j hj => hb j (k.own.lt j hj).1 (k.own.lt j hj).2), k.nil, fun i q t hq ht =>
    (k.rep i q t hq ht).move fun b hS => ⟨⟨hS.1, Nat.lt_of_lt_of_le hS.2.1 hs, hS.2.2⟩, hb b hS.1 hS.2.1⟩⟩
/-- one field more -/
theorem KF.snoc {W0 W W' : World} {B : Nat} {v : Value} {ts : List (Int × E × E)} {qs : List F7} (k : KF W0 B v ts qs) (hs : W0.heap.size ≤ W.heap.size) (hb : ∀ j, B ≤ j → j < W0.heap.size → W.heap[j]? = W0.heap[j]?) (hB : B ≤ W0.heap.size)
    {q : F7} {t : Int × E × E} (hr : RepF W (fun k => W0.heap.size ≤ k ∧ k < W.heap.size) t q)
    {g cap : Nat} {H : Nat} (hH : W.heap.size ≤ H) (hg : W.heap.size ≤ W'.heap.size ∧ ∀ j, j < W.heap.size → v.ownBlock ≠ some j → W'.heap[j]? = W.heap[j]?)
    (hat : v.ownBlock = some g ∨ g = H) (hown : W'.ownsRow B 47 7 (.slice (some ⟨g, 0, none⟩) (ts.length + 1) cap) (ts.length + 1) (row7 qs ++ cells7 q)) :
    KF W' B (.slice (some ⟨g, 0, none⟩) (ts.length + 1) cap) (ts ++ [t]) (qs ++ [q]) := by
  have hv : ∀ j, v.ownBlock = some j → B ≤ j ∧ j < W0.heap.size := fun j hj => k.own.lt j hj
  have hob : (Value.slice (some ⟨g, 0, none⟩) (ts.length + 1) cap).ownBlock = some g := rfl
  refine ⟨by simp [k.len], ?_, fun h => by simp at h, fun i q' t' hq' ht' => ?_⟩
  · rw [List.length_append, List.length_singleton, row7_snoc]
    exact hown
  · rcases Nat.lt_or_ge i qs.length with hi | hi
    · rw [List.getElem?_append_left hi] at hq'
      rw [List.getElem?_append_left (by rw [← k.len]; exact hi)] at ht'
      refine (k.rep i q' t' hq' ht').move fun b hS => ⟨⟨hS.1, by omega, fun e => ?_⟩, ?_⟩
      · rw [hg.2 b (by omega) hS.2.2, hb b hS.1 hS.2.1]
      · rw [hob] at e
        cases e
        rcases hat with hat | hat
        · exact hS.2.2 hat
        · omega
    · have hi' : i < (qs ++ [q]).length := (List.getElem?_eq_some_iff.1 hq').1
      simp at hi'
      obtain rfl : i = qs.length := by omega
      simp at hq'
      rw [k.len] at ht'
      simp at ht'
      subst hq' ht'
      refine hr.move fun b hS => ⟨⟨by omega, by omega, fun e => ?_⟩, hg.2 b hS.2 (fun e => ?_)⟩
      · have := hv b e; omega
      · rw [hob] at e
        cases e
        rcases hat with hat | hat
        · have := hv g hat; omega
        · omega
/-- a slice of fields in memory -/
def FS (W : World) (S : Nat → Prop) (sl : Option Addr) (n : Nat) (ts : List (Int × E × E)) : Prop := n = ts.length ∧ ∀ (i : Nat) (t : Int × E × E), ts[i]? = some t → ∃ b o q, sl = some ⟨b, o, none⟩ ∧ S b ∧ RepF W S t q ∧ ∀ j v, (cells7 q)[j]? = some v → W.cell? ⟨b, o + i * 7 + j, none⟩ = some v
theorem FS.move {W W' : World} {S S' : Nat → Prop} (h : ∀ b, S b → S' b ∧ W'.heap[b]? = W.heap[b]?) {sl : Option Addr} {n : Nat} {ts : List (Int × E × E)} (hr : FS W S sl n ts) : FS W' S' sl n ts := by
  refine ⟨hr.1, fun i t ht => ?_⟩
  obtain ⟨b, o, q, h1, h2, h3, h4⟩ := hr.2 i t ht
  exact ⟨b, o, q, h1, (h b h2).1, h3.move h, fun j v hv => (World.cell?_of_block (h b h2).2).trans (h4 j v hv)⟩
theorem KF.fs {W : World} {B : Nat} {sl : Option Addr} {n cap : Nat} {ts : List (Int × E × E)} {qs : List F7} (k : KF W B (.slice sl n cap) ts qs) : FS W (fun k => B ≤ k ∧ k < W.heap.size) sl n ts ∧ n ≤ cap := by
  rcases Nat.eq_zero_or_pos ts.length with h0 | h0
  · have := k.nil h0
    cases this
    exact ⟨⟨h0.symm, fun i t ht => by rw [List.length_eq_zero_iff.1 h0] at ht; simp at ht⟩, Nat.le_refl _⟩
  · obtain ⟨g, cap', he, hB, hlt⟩ := k.own.form h0
    cases he
    refine ⟨⟨rfl, fun i t ht => ?_⟩, own_room k.own⟩
    have hi : i < qs.length := by rw [k.len]; exact (List.getElem?_eq_some_iff.1 ht).1
    have hq : qs[i]? = some qs[i] := List.getElem?_eq_getElem hi
    refine ⟨g, 0, qs[i], rfl, ⟨hB, hlt⟩, (k.rep i _ t hq ht).move fun b hS => ⟨⟨hS.1, hS.2.1⟩, rfl⟩, fun j v hv => ?_⟩
    have hj : j < 7 := (List.getElem?_eq_some_iff.1 hv).1
    have hg := row7_get qs i _ hq j hj
    have := k.own.cells (g := g) rfl (i * 7 + j) v (by rw [hg]; exact hv)
    have hadd : ∀ n, (⟨g, 0, none⟩ : Addr).add n = ⟨g, n, none⟩ := fun n => by unfold Addr.add; split <;> simp_all
    rw [hadd] at this
    rw [Nat.zero_add]
    exact this
/-- the value v is the source x -/
def RepR (W : World) (S : Nat → Prop) (x : Src) (v : Value) : Prop := ∃ (k1 : Int) (σ1 : ByteArray) (sl1 : Option Addr) (n1 c1 : Nat) (k2 : Int) (σ2 : ByteArray) (sl2 : Option Addr) (n2 c2 : Nat) (sl : Option Addr) (n c : Nat),
  v = .agg #[.int .i64 k1, .string σ1, .slice sl1 n1 c1, .int .i64 k2, .string σ2, .slice sl2 n2 c2, .slice sl n c] ∧ RepX W S x.name (.agg #[.int .i64 k1, .string σ1, .slice sl1 n1 c1]) ∧ RepX W S x.version (.agg #[.int .i64 k2, .string σ2, .slice sl2 n2 c2]) ∧ FS W S sl n x.fields ∧ n ≤ c
theorem RepR.move {W W' : World} {S S' : Nat → Prop} (h : ∀ b, S b → S' b ∧ W'.heap[b]? = W.heap[b]?) {x : Src} {v : Value} (hr : RepR W S x v) : RepR W' S' x v := by
  obtain ⟨k1, σ1, sl1, n1, c1, k2, σ2, sl2, n2, c2, sl, n, c, h1, h2, h3, h4, h5⟩ := hr
  exact ⟨k1, σ1, sl1, n1, c1, k2, σ2, sl2, n2, c2, sl, n, c, h1, h2.move h, h3.move h, h4.move h, h5⟩
end Rc
end Go.Proofs.Ytcigggffaofkhaa
