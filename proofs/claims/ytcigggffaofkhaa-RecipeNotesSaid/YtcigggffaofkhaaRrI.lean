/-
  The reference's term: if.
-/
import Derived.Test.YtcigggffaofkhaaRrH
namespace Go.Proofs.Ytcigggffaofkhaa
open Go.RowKit
namespace Rc

/-- the word behind a part; none: nothing is wanted -/
def wW (s : List UInt8) (w : List UInt8) (t : Tk) : Res Unit := if w = [] then .ok () t else wantT s w t
/-- the parts of an if that are left -/
def ifR (s : List UInt8) (f : Tk → Res E) : List (List UInt8) → List E → Tk → Res (List E)
  | [], acc, t => .ok acc t
  | w :: ws, acc, t => (f t).bind fun x t1 => (wW s w t1).bind fun _ t2 => ifR s f ws (acc ++ [x]) t2
theorem ifR_nil {s : List UInt8} {f : Tk → Res E} {acc : List E} {t : Tk} : ifR s f [] acc t = .ok acc t := rfl
theorem ifR_cons {s : List UInt8} {f : Tk → Res E} {w : List UInt8} {ws : List (List UInt8)} {acc : List E} {t : Tk} : ifR s f (w :: ws) acc t = (f t).bind fun x t1 => (wW s w t1).bind fun _ t2 => ifR s f ws (acc ++ [x]) t2 := rfl
theorem ok_bind {α β : Type} (x : α) (t : Tk) (F : α → Tk → Res β) : (Res.ok x t).bind F = F x t := rfl
abbrev w4 : List (List UInt8) := [[61], [116, 104, 101, 110], [101, 108, 115, 101], []]
abbrev wds : List Value := [.string ⟨#[61]⟩, .string ⟨#[116, 104, 101, 110]⟩, .string ⟨#[101, 108, 115, 101]⟩, .string ⟨#[]⟩]
theorem word_at : ∀ k, k < 4 → ∃ w : ByteArray, wds[k]? = some (.string w) ∧ w4.drop k = w.data.toList :: w4.drop (k + 1) ∧ (k < 3 → w.toList.isEmpty = false ∧ w.data.toList ≠ []) ∧ (k = 3 → w.toList.isEmpty = true ∧ w.data.toList = [])
  | 0, _ => ⟨⟨#[61]⟩, rfl, rfl, fun _ => ⟨by rw [ByteArray.toList_eq]; rfl, by simp⟩, fun h => by omega⟩
  | 1, _ => ⟨⟨#[116, 104, 101, 110]⟩, rfl, rfl, fun _ => ⟨by rw [ByteArray.toList_eq]; rfl, by simp⟩, fun h => by omega⟩
  | 2, _ => ⟨⟨#[101, 108, 115, 101]⟩, rfl, rfl, fun _ => ⟨by rw [ByteArray.toList_eq]; rfl, by simp⟩, fun h => by omega⟩
  | 3, _ => ⟨⟨#[]⟩, rfl, rfl, fun h => by omega, fun _ => ⟨by rw [ByteArray.toList_eq]; rfl, rfl⟩⟩
  | k + 4, h => by omega
theorem if_eq {s : List UInt8} {h : Nat} {t : Tk} (hw : isW t [105, 102] = true) : termP s (h + 1) t = ((stepT s t).bind fun _ t1 => ifR s (exprP s (termP s h)) w4 [] t1).bind fun l t => .ok (.mk 4 ⟨#[]⟩ l) t := by
  rw [term_if hw, bind_assoc]
  congr 1
  funext _ t1
  simp only [w4, ifR_cons, ifR_nil, wW, bind_assoc, ok_bind, List.cons_ne_nil, if_false, if_true, List.nil_append, List.cons_append]
/-- the kids of an if that are read -/
structure KI (W : World) (B : Nat) (v : Value) (k : Nat) (qs : List Q3) : Prop where
  len : qs.length = k
  own : W.ownsRow B 26 3 v k (row3 qs)
  one : ∀ q ∈ qs, q.1.oneCell' = true ∧ q.2.1.oneCell' = true ∧ q.2.2.oneCell' = true
/-- they are these expressions -/
def KR (W : World) (B : Nat) (v : Value) (qs : List Q3) (ts : List E) : Prop := ts.length = qs.length ∧ ∀ (i : Nat) (q : Q3) (t : E), qs[i]? = some q → ts[i]? = some t → RepX W (fun k => B ≤ k ∧ k < W.heap.size ∧ v.ownBlock ≠ some k) t (.agg #[q.1, q.2.1, q.2.2])
theorem KI.same {W W' : World} {B k : Nat} {v : Value} {qs : List Q3} (h : KI W B v k qs) (hb : ∀ j, B ≤ j → j < W.heap.size → W'.heap[j]? = W.heap[j]?) : KI W' B v k qs :=
  ⟨h.len, own_block h.own (fun j hj => hb j (h.own.lt j hj).1 (h.own.lt j hj).2), h.one⟩
theorem KR.same {W W' : World} {B : Nat} {v : Value} {qs : List Q3} {ts : List E} (h : KR W B v qs ts) (hs : W.heap.size ≤ W'.heap.size) (hb : ∀ j, B ≤ j → j < W.heap.size → W'.heap[j]? = W.heap[j]?) : KR W' B v qs ts :=
  ⟨h.1, fun i q t hq ht => (h.2 i q t hq ht).move fun b hS => ⟨⟨hS.1, Nat.lt_of_lt_of_le hS.2.1 hs, hS.2.2⟩, hb b hS.1 hS.2.1⟩⟩
theorem KI.snoc {W' : World} {B k g cap : Nat} {qs : List Q3} (h : qs.length = k ∧ ∀ q ∈ qs, q.1.oneCell' = true ∧ q.2.1.oneCell' = true ∧ q.2.2.oneCell' = true) {q : Q3} (hone : q.1.oneCell' = true ∧ q.2.1.oneCell' = true ∧ q.2.2.oneCell' = true)
    (hown : W'.ownsRow B 26 3 (.slice (some ⟨g, 0, none⟩) (k + 1) cap) (k + 1) (row3 qs ++ [q.1, q.2.1, q.2.2])) : KI W' B (.slice (some ⟨g, 0, none⟩) (k + 1) cap) (k + 1) (qs ++ [q]) := by
  refine ⟨by simp [h.1], by rw [row3_snoc]; exact hown, fun q' hq' => ?_⟩
  rw [List.mem_append, List.mem_singleton] at hq'
  rcases hq' with hq' | rfl
  · exact h.2 q' hq'
  · exact hone
theorem KR.snoc {W0 W W' : World} {B : Nat} {v : Value} {ts : List E} {qs : List Q3} (k : KR W0 B v qs ts) (hv : ∀ j, v.ownBlock = some j → B ≤ j ∧ j < W0.heap.size) (hs : W0.heap.size ≤ W.heap.size) (hb : ∀ j, B ≤ j → j < W0.heap.size → W.heap[j]? = W0.heap[j]?) (hB : B ≤ W0.heap.size)
    {q : Q3} {t : E} (hr : RepX W (fun k => W0.heap.size ≤ k ∧ k < W.heap.size) t (.agg #[q.1, q.2.1, q.2.2]))
    {g n cap : Nat} {H : Nat} (hH : W.heap.size ≤ H) (hg : W.heap.size ≤ W'.heap.size ∧ ∀ j, j < W.heap.size → v.ownBlock ≠ some j → W'.heap[j]? = W.heap[j]?)
    (hat : v.ownBlock = some g ∨ g = H) : KR W' B (.slice (some ⟨g, 0, none⟩) n cap) (qs ++ [q]) (ts ++ [t]) := by
  have hob : (Value.slice (some ⟨g, 0, none⟩) n cap).ownBlock = some g := rfl
  refine ⟨by simp [k.1], fun i q' t' hq' ht' => ?_⟩
  rcases Nat.lt_or_ge i qs.length with hi | hi
  · rw [List.getElem?_append_left hi] at hq'
    rw [List.getElem?_append_left (by rw [k.1]; exact hi)] at ht'
    refine (k.2 i q' t' hq' ht').move fun b hS => ⟨⟨hS.1, by omega, fun e => ?_⟩, ?_⟩
    · rw [hg.2 b (by omega) hS.2.2, hb b hS.1 hS.2.1]
    · rw [hob] at e
      cases e
      rcases hat with hat | hat
      · exact hS.2.2 hat
      · omega
  · have hi' : i < (qs ++ [q]).length := (List.getElem?_eq_some_iff.1 hq').1
    simp at hi'
    obtain rfl : i = qs.length := by omega
    simp at hq'
    rw [← k.1] at ht'
    simp at ht'
    subst hq' ht'
    refine hr.move fun b hS => ⟨⟨by omega, by omega, fun e => ?_⟩, hg.2 b hS.2 (fun e => ?_)⟩
    · have := hv b e; omega
    · rw [hob] at e
      cases e
      rcases hat with hat | hat
      · have := hv g hat; omega
      · omega
/-- all kids: an if's slice -/
theorem KI.list {W : World} {B k : Nat} {v : Value} {ts : List E} {qs : List Q3} (h : KI W B v k qs) (hk : 0 < k) (hr : KR W B v qs ts) (kind : Int) (s : ByteArray) : RepX W (fun k => B ≤ k ∧ k < W.heap.size) (.mk kind s ts) (.agg #[.int .i64 kind, .string s, v]) :=
  KX.list ⟨hr.1.symm, by rw [hr.1, h.len]; exact hk, by rw [hr.1, h.len]; exact h.own, h.one, hr.2⟩ kind s
/-- the state at a round's head (pre: what is still wanted) -/
structure IX (W wr : World) (b : Nat) (s : ByteArray) (f : Tk → Res E) (tk : List Value) (g k : Nat) (v : Value) (ws : List (List UInt8)) (pre : Tk → Res Unit) (st : Res Unit) (R : Res (List E)) : Prop where
  zv : ZV W wr b s st [(W.heap.size, zeroX.toList), (W.heap.size + 1, tk), (g, [.int .i64 4, .string ⟨#[]⟩, v]), (g + 1, wds)]
  form : ∃ sl n c, v = .slice sl n c
  gt : W.heap.size + 1 < g
  kids : ∃ qs, KI wr (g + 2) v k qs ∧ ∀ u t, st = .ok u t → ∃ acc, KR wr (g + 2) v qs acc ∧ ((pre t).bind fun _ t => ifR s.data.toList f ws acc t) = R
  bad : ∀ p e, st = .bad p e → R = .bad p e
theorem IX.start {W w2 : World} {b : Nat} {s : ByteArray} {f : Tk → Res E} {tk : List Value} {st : Res Unit} (h : ZV W w2 b s st [(W.heap.size, zeroX.toList), (W.heap.size + 1, tk)]) :
    IX W ((w2.alloc (.cells #[.int .i64 4, .string ⟨#[]⟩, .slice none 0 0] 26)).alloc (.cells #[.string ⟨#[61]⟩, .string ⟨#[116, 104, 101, 110]⟩, .string ⟨#[101, 108, 115, 101]⟩, .string ⟨#[]⟩] 9)) b s f tk w2.heap.size 0 (.slice none 0 0) w4 (.ok ()) st (st.bind fun _ t => ifR s.data.toList f w4 [] t) := by
  have h2 := (h.push [.int .i64 4, .string ⟨#[]⟩, .slice none 0 0] 26 (g := w2.heap.size) rfl).push wds 9 (g := w2.heap.size + 1) (by simp)
  have hlt := h.lt 1 rfl
  refine ⟨h2, ⟨_, _, _, rfl⟩, hlt, ⟨[], ⟨rfl, ⟨rfl, .inl ⟨rfl, rfl⟩⟩, fun q hq => by simp at hq⟩, fun u t e => ⟨[], ⟨rfl, fun i q t hq => by simp at hq⟩, ?_⟩⟩, fun p e h => ?_⟩
  · subst e; rfl
  · subst h; rfl
/-- the wanted word is read -/
theorem IX.want {W wr w' : World} {b : Nat} {s : ByteArray} {f : Tk → Res E} {tk : List Value} {g k : Nat} {v : Value} {ws : List (List UInt8)} {pre : Tk → Res Unit} {st : Res Unit} {R : Res (List E)} (L : IX W wr b s f tk g k v ws pre st R)
    (hF : RF wr b s (st.bind fun _ t => pre t) w') : IX W w' b s f tk g k v ws (.ok ()) (st.bind fun _ t => pre t) R := by
  have hlt := L.zv.hlt
  have hgt := L.gt
  obtain ⟨qs, hk, hg⟩ := L.kids
  have hb : ∀ j, g + 2 ≤ j → j < wr.heap.size → w'.heap[j]? = wr.heap[j]? := fun j h1 h2 => hF.fq.block j h2 (by omega)
  refine ⟨L.zv.call hF, L.form, hgt, ⟨qs, hk.same hb, fun u t e => ?_⟩, fun p e h => ?_⟩
  · obtain ⟨u1, t1, h1, h2⟩ := bind_ok e
    obtain ⟨acc, h3, h4⟩ := hg u1 t1 h1
    rw [h2] at h4
    exact ⟨acc, h3.same hF.fq.below.size hb, h4⟩
  · cases st with
    | bad p' e' =>
      cases h
      exact L.bad p e rfl
    | ok u t =>
      obtain ⟨acc, h3, h4⟩ := hg u t rfl
      change pre t = .bad p e at h
      rw [h] at h4
      exact h4.symm
/-- one kid more -/
theorem IX.next {W wr w3 w5 : World} {b : Nat} {s : ByteArray} {f : Tk → Res E} {tk : List Value} {g k : Nat} {v : Value} {w : List UInt8} {ws : List (List UInt8)} {st : Res Unit} {R : Res (List E)} (L : IX W wr b s f tk g k v (w :: ws) (.ok ()) st R)
    (hF : RF wr b s (unitR (st.bind fun _ t => f t)) w3) {k' : Int} {σ : ByteArray} {sl : Option Addr} {n c : Nat}
    (hrep : ∀ y t2, (st.bind fun _ t => f t) = .ok y t2 → RepX w3 (fun j => wr.heap.size ≤ j ∧ j < w3.heap.size) y (.agg #[.int .i64 k', .string σ, .slice sl n c])) {o1 o2 : Obj} {g' cap : Nat} {qs : List Q3}
    (hk : KI wr (g + 2) v k qs) (hgood : ∀ u t, st = .ok u t → ∃ acc, KR wr (g + 2) v qs acc ∧ ((Res.ok () t).bind fun _ t => ifR s.data.toList f (w :: ws) acc t) = R)
    (hown : w5.ownsRow (g + 2) 26 3 (.slice (some ⟨g', 0, none⟩) (k + 1) cap) (k + 1) (row3 qs ++ [.int .i64 k', .string σ, .slice sl n c]))
    (hgr : ((w3.alloc o1).alloc o2).grownBy w5 v.ownBlock) (hat : v.ownBlock = some g' ∨ g' = w3.heap.size + 2) :
    IX W (w5.setCell ⟨g, 2, none⟩ (.slice (some ⟨g', 0, none⟩) (k + 1) cap)) b s f tk g (k + 1) (.slice (some ⟨g', 0, none⟩) (k + 1) cap) ws (wW s.data.toList w) (unitR (st.bind fun _ t => f t)) R := by
  have hlt := L.zv.hlt
  have hgt := L.gt
  have hgl := L.zv.lt 3 rfl
  have hv : ∀ j, v.ownBlock = some j → g + 2 ≤ j ∧ j < wr.heap.size := fun j hj => hk.own.lt j hj
  have s3 := hF.fq.below.size
  have hsz : w3.heap.size + 2 ≤ w5.heap.size := by have := hgr.size; simpa using this
  have hold : ∀ j, j < w3.heap.size → ((w3.alloc o1).alloc o2).heap[j]? = w3.heap[j]? := fun j hj => by
    rw [heap_alloc_old _ _ (by simp; omega), heap_alloc_old _ _ hj]
  have hblk : ∀ j, j < w3.heap.size → v.ownBlock ≠ some j → w5.heap[j]? = w3.heap[j]? := fun j hj hne =>
    (hgr.block j (by simp; omega) (fun e => hne e.symm)).trans (hold j hj)
  have hset : ∀ j, j ≠ g → (w5.setCell ⟨g, 2, none⟩ (.slice (some ⟨g', 0, none⟩) (k + 1) cap)).heap[j]? = w5.heap[j]? := fun j hj => Below.heap_setCell _ _ _ _ hj
  have hsz5 : (w5.setCell ⟨g, 2, none⟩ (.slice (some ⟨g', 0, none⟩) (k + 1) cap)).heap.size = w5.heap.size := by simp [World.setCell]
  have hz3 := L.zv.call hF
  have hz5 : ZV W w5 b s (unitR (st.bind fun _ t => f t)) [(W.heap.size, zeroX.toList), (W.heap.size + 1, tk), (g, [.int .i64 4, .string ⟨#[]⟩, v]), (g + 1, wds)] := by
    refine ⟨hlt, (((hz3.fq.made hlt o1).made hlt o2)).grown hlt hgr (fun j hj => by have := hv j hj; omega), hF.rs.block (by omega) (hblk b (by have := L.zv.rs.lt; omega) (fun e => by have := hv b e; omega)), fun i g0 vs hi => ?_⟩
    have hz := hz3.vc i g0 vs hi
    refine ⟨hz.1, hz.2.block (by have := hz.2.lt; omega) (hblk g0 hz.2.lt (fun e => ?_))⟩
    have := hv g0 e
    have hc : g0 = W.heap.size ∨ g0 = W.heap.size + 1 ∨ g0 = g ∨ g0 = g + 1 := by
      match i, hi with
      | 0, hi => cases hi; omega
      | 1, hi => cases hi; omega
      | 2, hi => cases hi; omega
      | 3, hi => cases hi; omega
      | i + 4, hi => simp at hi
    omega
  refine ⟨⟨hlt, hz5.fq.new hlt _ (by show W.heap.size ≤ g; omega) _, hz5.rs.far (by omega) 2 _, fun i g0 vs hi => ?_⟩, ⟨_, _, _, rfl⟩, hgt, ⟨qs ++ [(.int .i64 k', .string σ, .slice sl n c)], ?_, fun u t e => ?_⟩, fun p e h => ?_⟩
  · match i, hi with
    | 0, hi => cases hi; have := hz5.vc 0 _ _ rfl; exact ⟨this.1, this.2.block (by rw [hsz5]; exact this.2.lt) (hset _ (by omega))⟩
    | 1, hi => cases hi; have := hz5.vc 1 _ _ rfl; exact ⟨this.1, this.2.block (by rw [hsz5]; exact this.2.lt) (hset _ (by omega))⟩
    | 2, hi => cases hi; have := hz5.vc 2 _ _ rfl; exact ⟨this.1, this.2.set 2 (by simp) _⟩
    | 3, hi => cases hi; have := hz5.vc 3 _ _ rfl; exact ⟨this.1, this.2.block (by rw [hsz5]; exact this.2.lt) (hset _ (by omega))⟩
    | i + 4, hi => simp at hi
  · exact (KI.snoc (q := (.int .i64 k', .string σ, .slice sl n c)) ⟨hk.len, hk.one⟩ ⟨rfl, rfl, rfl⟩ hown).same fun j h1 h2 => hset j (by omega)
  · obtain ⟨y, hy⟩ := unit_ok e
    obtain ⟨u1, t1, h1, h3⟩ := bind_ok hy
    obtain ⟨acc, hr, he⟩ := hgood u1 t1 h1
    refine ⟨acc ++ [y], ?_, ?_⟩
    · refine (KR.snoc (W := w3) (W' := w5) (H := w3.heap.size + 2) (q := (.int .i64 k', .string σ, .slice sl n c)) hr hv s3 (fun j h1 h2 => hF.fq.block j h2 (by omega)) (by omega) (hrep y t hy) (by omega) ⟨by omega, fun j hj hne => hblk j hj hne⟩ hat).same (by omega) fun j h1 h2 => hset j (by omega)
    · rw [← he]
      show _ = ifR s.data.toList f (w :: ws) acc t1
      rw [ifR_cons, h3]
      rfl
  · cases st with
    | bad p' e' =>
      have := L.bad p' e' rfl
      cases h
      exact this
    | ok u t =>
      obtain ⟨acc, hr, he⟩ := hgood u t rfl
      have hb := unit_bad h
      change f t = .bad p e at hb
      rw [← he]
      show ifR s.data.toList f (w :: ws) acc t = _
      rw [ifR_cons, hb]
      rfl
end Rc
end Go.Proofs.Ytcigggffaofkhaa
