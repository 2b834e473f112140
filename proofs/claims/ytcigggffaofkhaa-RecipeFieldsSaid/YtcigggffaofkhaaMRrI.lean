/-
  The reference's term: if.
-/
import Derived.Test.YtcigggffaofkhaaRrH
import Derived.Test.YtcigggffaofkhaaRcPc
namespace Go.Proofs.Ytcigggffaofkhaa
open Go.RowKit
namespace Rc

/-- the word behind a part; none: nothing is wanted -/
def wW (s : List UInt8) (w : List UInt8) (t : Tk) : Res Unit := if w = [] then .ok () t else wantT s w t
/-- the parts of an if that are left -/
def ifR (s : List UInt8) (f : Tk → Res E) : List (List UInt8) → List E → Tk → Res (List E)
  | [], acc, t => .ok acc t
  | w :: ws, acc, t => (f t).bind fun x t1 => (wW s w t1).bind fun _ t2 => ifR s f ws (acc ++ [x]) t2
theorem ifR_nil {s : List UInt8} {f : Tk → Res E} {acc : List E} {t : Tk} : ifR s f [] acc t = .ok acc t := rfl
theorem ifR_cons {s : List UInt8} {f : Tk → Res E} {w : List UInt8} {ws : List (List UInt8)} {acc : List E} {t : Tk} : ifR s f (w :: ws) acc t = (f t).bind fun x t1 => (wW s w t1).bind fun _ t2 => ifR s f ws (acc ++ [x]) t2 := rfl
theorem ok_bind {α β : Type} (x : α) (t : Tk) (F : α → Tk → Res β) : (Res.ok x t).bind F = F x t := rfl
abbrev w4 : List (List UInt8) := [[61], [116, 104, 101, 110], [101, 108, 115, 101], []]
abbrev wds : List Value := [.string ⟨#[61]⟩, .string ⟨#[116, 104, 101, 110]⟩, .string ⟨#[101, 108, 115, 101]⟩, .string ⟨#[]⟩]
theorem word_at : ∀ k, k < 4 → ∃ w : ByteArray, wds[k]? = some (.string w) ∧ w4.drop k = w.data.toList :: w4.drop (k + 1) ∧ (k < 3 → w.toList.isEmpty = false ∧ w.data.toList ≠ []) ∧ (k = 3 → w.toList.isEmpty = true ∧ w.data.toList = [])
  | 0, _ => ⟨⟨#[61]⟩, rfl, rfl, fun _ => ⟨by rw [ByteArray.toList_eq]; rfl, by simp⟩, fun h => by omega⟩
  | 1, _ => ⟨⟨#[116, 104, 101, 110]⟩, rfl, rfl, fun _ => ⟨by rw [ByteArray.toList_eq]; rfl, by simp⟩, fun h => by omega⟩
  | 2, _ => ⟨⟨#[101, 108, 115, 101]⟩, rfl, rfl, fun _ => ⟨by rw [ByteArray.toList_eq]; rfl, by simp⟩, fun h => by omega⟩
  | 3, _ => ⟨⟨#[]⟩, rfl, rfl, fun h => by omega, fun _ => ⟨by rw [ByteArray.toList_eq]; rfl, rfl⟩⟩
  | k + 4, h => by omega
theorem if_eq {s : List UInt8} {h : Nat} {t : Tk} (hw : isW t [105, 102] = true) : termP s (h + 1) t = ((stepT s t).bind fun _ t1 => ifR s (exprP s (termP s h)) w4 [] t1).bind fun l t => .ok (.mk 4 ⟨#[]⟩ l) t := by
  rw [term_if hw, bind_assoc]
  congr 1
  funext _ t1
  simp only [w4, ifR_cons, ifR_nil, wW, bind_assoc, ok_bind, List.cons_ne_nil, if_false, if_true, List.nil_append, List.cons_append]
/-- the kids of an if that are read -/
structure KI (W : World) (B : Nat) (v : Value) (k : Nat) (qs : List Q3) : Prop where
  len : qs.length = k
  own : W.ownsRow B 26 3 v k (row3 qs)
  one : ∀ q ∈ qs, q.1.oneCell' = true ∧ q.2.1.oneCell' = true ∧ q.2.2.oneCell' = true
/-- they are these expressions -/
def KR (W : World) (B : Nat) (v : Value) (qs : List Q3) (ts : List E) : Prop := ts.length = qs.length ∧ ∀ (i : Nat) (q : Q3) (t : E), qs[i]? = some q → ts[i]? = some t → RepX W (fun k => B ≤ k ∧ k < W.heap.size ∧ v.ownBlock ≠ some k) t (.agg #[q.1, q.2.1, q.2.2])
theorem KI.same {W W' : World} {B k : Nat} {v : Value} {qs : List Q3} (h : KI W B v k qs) (hb : ∀ j, B ≤ j → j < W.heap.size → W'.heap[j]? = W.heap[j]?) : KI W' B v k qs :=
  ⟨h.len, own_block h.own (fun j hj => hb j (h.own.lt j hj).1 (h.own.lt j hj).2), h.one⟩
theorem KR.same {W W' : World} {B : Nat} {v : Value} {qs : List Q3} {ts : List E} (h : KR W B v qs ts) (hs : W.heap.size ≤ W'.heap.size) (hb : ∀ j, B ≤ j → j < W.heap.size → W'.heap[j]? = W.heap[j]?) : KR W' B v qs ts :=
  ⟨h.1, fun i q t hq ht => (h.2 i q t hq ht).move fun b hS => ⟨⟨hS.1, Nat.lt_of_lt_of_le hS.2.1 hs, hS.2.2⟩, hb b hS.1 hS.2.1⟩⟩
theorem KI.snoc {W' : World} {B k g cap : Nat} {qs : List Q3} (h : qs.length = k ∧ ∀ q ∈ qs, q.1.oneCell' = true ∧ q.2.1.oneCell' = true ∧ q.2.2.oneCell' = true) {q : Q3} (hone : q.1.oneCell' = true ∧ q.2.1.oneCell' = true ∧ q.2.2.oneCell' = true)
    (hown : W'.ownsRow B 26 3 (.slice (some ⟨g, 0, none⟩) (k + 1) cap) (k + 1) (row3 qs ++ [q.1, q.2.1, q.2.2])) : KI W' B (.slice (some ⟨g, 0, none⟩) (k + 1) cap) (k + 1) (qs ++ [q]) := by
  refine ⟨by simp [h.1], by rw [row3_snoc]; exact hown, fun q' hq' => ?_⟩
  rw [List.mem_append, List.mem_singleton] at hq'
  rcases hq' with hq' | rfl
  · exact h.2 q' hq'
  · exact hone
theorem KR.snoc {W0 W W' : World} {B : Nat} {v : Value} {ts : List E} {qs : List Q3} (k : KR W0 B v qs ts) (hv : ∀ j, v.ownBlock = some j → B ≤ j ∧ j < W0.heap.size) (hs : W0.heap.size ≤ W.heap.size) (hb : ∀ j, B ≤ j → j < W0.heap.size → W.heap[j]? = W0.heap[j]?) (hB : B ≤ W0.heap.size)
    {q : Q3} {t : E} (hr : RepX W (fun k => W0.heap.size ≤ k ∧ k < W.heap.size) t (.agg #[q.1, q.2.1, q.2.2]))
    {g n cap : Nat} {H : Nat} (hH : W.heap.size ≤ H) (hg : W.heap.size ≤ W'.heap.size ∧ ∀ j, j < W.heap.size → v.ownBlock ≠ some j → W'.heap[j]? = W.heap[j]?)
    (hat : v.ownBlock = some g ∨ g = H) : KR W' B (.slice (some ⟨g, 0, none⟩) n cap) (qs ++ [q]) (ts ++ [t]) := by
  have hob : (Value.slice (some ⟨g, 0, none⟩) n cap).ownBlock = some g := rfl
  refine ⟨by simp [k.1], fun i q' t' hq' ht' => ?_⟩
  rcases Nat.lt_or_ge i qs.length with hi | hi
  · rw [List.getElem?_append_left hi] at hq'
    rw [List.getElem?_append_left (by rw [k.1]; exact hi)] at ht'
    refine (k.2 i q' t' hq' ht').move fun b hS => ⟨⟨hS.1, by omega, fun e => ?_⟩, ?_⟩
    · rw [hg.2 b (by omega) hS.2.2, hb b hS.1 hS.2.1]
    · rw [hob] at e
      cases e
      rcases hat with hat | hat
      · exact hS.2.2 hat
      · omega
  · have hi' : i < (qs ++ [q]).length := (List.getElem?_eq_some_iff.1 hq').1
    simp at hi'
    obtain rfl : i = qs.length := by omega
    simp at hq'
    rw [← k.1] at ht'
    simp at ht'
    subst hq' ht'
    refine hr.move fun b hS => ⟨⟨by omega, by omega, fun e => ?_⟩, hg.2 b hS.2 (fun e => ?_)⟩
    · have := hv b e; omega
    · rw [hob] at e
      cases e
      rcases hat with hat | hat
      · have := hv g hat; omega
      · omega
/-- all kids: an if's slice -/
theorem KI.list {W : World} {B k : Nat} {v : Value} {ts : List E} {qs : List Q3} (h : KI W B v k qs) (hk : 0 < k) (hr : KR W B v qs ts) (kind : Int) (s : ByteArray) : RepX W (fun k => B ≤ k ∧ k < W.heap.size) (.mk kind s ts) (.agg #[.int .i64 kind, .string s, v]) :=
  KX.list ⟨hr.1.symm, by rw [hr.1, h.len]; exact hk, by rw [hr.1, h.len]; exact h.own, h.one, hr.2⟩ kind s
/-- the state at a round's head (pre: what is still wanted) -/
structure IX (W wr : World) (b : Nat) (s : ByteArray) (f : Tk → Res E) (tk : List Value) (g k : Nat) (v : Value) (ws : List (List UInt8)) (pre : Tk → Res Unit) (st : Res Unit) (R : Res (List E)) : Prop where
  zv : ZV W wr b s st [(W.heap.size, zeroX.toList), (W.heap.size + 1, tk), (g, [.int .i64 4, .string ⟨#[]⟩, v]), (g + 1, wds)]
  form : ∃ sl n c, v = .slice sl n c
  gt : W.heap.size + 1 < g
  kids : ∃ qs, KI wr (g + 2) v k qs ∧ ∀ u t, st = .ok u t → ∃ acc, KR wr (g + 2) v qs acc ∧ ((pre t).bind fun _ t => ifR s.data.toList f ws acc t) = R
  bad : ∀ p e, st = .bad p e → R = .bad p e
theorem IX.start {W w2 : World} {b : Nat} {s : ByteArray} {f : Tk → Res E} {tk : List Value} {st : Res Unit} (h : ZV W w2 b s st [(W.heap.size, zeroX.toList), (W.heap.size + 1, tk)]) :
    IX W ((w2.alloc (.cells #[.int .i64 4, .string ⟨#[]⟩, .slice none 0 0] 26)).alloc (.cells #[.string ⟨#[61]⟩, .string ⟨#[116, 104, 101, 110]⟩, .string ⟨#[101, 108, 115, 101]⟩, .string ⟨#[]⟩] 9)) b s f tk w2.heap.size 0 (.slice none 0 0) w4 (.ok ()) st (st.bind fun _ t => ifR s.data.toList f w4 [] t) := by
  have h2 := (h.push [.int .i64 4, .string ⟨#[]⟩, .slice none 0 0] 26 (g := w2.heap.size) rfl).push wds 9 (g := w2.heap.size + 1) (by simp)
  have hlt := h.lt 1 rfl
  refine ⟨h2, ⟨_, _, _, rfl⟩, hlt, ⟨[], ⟨rfl, ⟨rfl, .inl ⟨rfl, rfl⟩⟩, fun q hq => by simp at hq⟩, fun u t e => ⟨[], ⟨rfl, fun i q t hq => by simp at hq⟩, ?_⟩⟩, fun p e h => ?_⟩
  · subst e; rfl
  · subst h; rfl
/-- the wanted word is read -/
theorem IX.want {W wr w' : World} {b : Nat} {s : ByteArray} {f : Tk → Res E} {tk : List Value} {g k : Nat} {v : Value} {ws : List (List UInt8)} {pre : Tk → Res Unit} {st : Res Unit} {R : Res (List E)} (L : IX W wr b s f tk g k v ws pre st R)
    (hF : RF wr b s (st.bind fun _ t => pre t) w') : IX W w' b s f tk g k v ws (.ok ()) (st.bind fun _ t => pre t) R := by
  have hlt := L.zv.hlt
  have hgt := L.gt
  obtain ⟨qs, hk, hg⟩ := L.kids
  have hb : ∀ j, g + 2 ≤ j → j < wr.heap.size → w'.heap[j]? = wr.heap[j]? := fun j h1 h2 => hF.fq.block j h2 (by omega)
  refine ⟨L.zv.call hF, L.form, hgt, ⟨qs, hk.same hb, fun u t e => ?_⟩, fun p e h => ?_⟩
  · obtain ⟨u1, t1, h1, h2⟩ := bind_ok e
    obtain ⟨acc, h3, h4⟩ := hg u1 t1 h1
    rw [h2] at h4
    exact ⟨acc, h3.same hF.fq.below.size hb, h4⟩
  · cases st with
    | bad p' e' =>
      cases h
      exact L.bad p e rfl
    | ok u t =>
      obtain ⟨acc, h3, h4⟩ := hg u t rfl
      change pre t = .bad p e at h
      rw [h] at h4
      exact h4.symm
/-- one kid more -/
theorem IX.next {W wr w3 w5 : World} {b : Nat} {s : ByteArray} {f : Tk → Res E} {tk : List Value} {g k : Nat} {v : Value} {w : List UInt8} {ws : List (List UInt8)} {st : Res Unit} {R : Res (List E)} (L : IX W wr b s f tk g k v (w :: ws) (.ok ()) st R)
    (hF : RF wr b s (unitR (st.bind fun _ t => f t)) w3) {k' : Int} {σ : ByteArray} {sl : Option Addr} {n c : Nat}
    (hrep : ∀ y t2, (st.bind fun _ t => f t) = .ok y t2 → RepX w3 (fun j => wr.heap.size ≤ j ∧ j < w3.heap.size) y (.agg #[.int .i64 k', .string σ, .slice sl n c])) {o1 o2 : Obj} {g' cap : Nat} {qs : List Q3}
    (hk : KI wr (g + 2) v k qs) (hgood : ∀ u t, st = .ok u t → ∃ acc, KR wr (g + 2) v qs acc ∧ ((Res.ok () t).bind fun _ t => ifR s.data.toList f (w :: ws) acc t) = R)
    (hown : w5.ownsRow (g + 2) 26 3 (.slice (some ⟨g', 0, none⟩) (k + 1) cap) (k + 1) (row3 qs ++ [.int .i64 k', .string σ, .slice sl n c]))
    (hgr : ((w3.alloc o1).alloc o2).grownBy w5 v.ownBlock) (hat : v.ownBlock = some g' ∨ g' = w3.heap.size + 2) :
    IX W (w5.setCell ⟨g, 2, none⟩ (.slice (some ⟨g', 0, none⟩) (k + 1) cap)) b s f tk g (k + 1) (.slice (some ⟨g', 0, none⟩) (k + 1) cap) ws (wW s.data.toList w) (unitR (st.bind fun _ t => f t)) R := by
  have hlt := L.zv.hlt
  have hgt := L.gt
  have hgl := L.zv.lt 3 rfl
  have hv : ∀ j, v.ownBlock = some j → g + 2 ≤ j ∧ j < wr.heap.size := fun j hj => hk.own.lt j hj
  have s3 := hF.fq.below.size
  have hsz : w3.heap.size + 2 ≤ w5.heap.size := by have := hgr.size; simpa using this
  have hold : ∀ j, j < w3.heap.size → ((w3.alloc o1).alloc o2).heap[j]? = w3.heap[j]? := fun j hj => by
    rw [heap_alloc_old _ _ (by simp; omega), heap_alloc_old _ _ hj]
  have hblk : ∀ j, j < w3.heap.size → v.ownBlock ≠ some j → w5.heap[j]? = w3.heap[j]? := fun j hj hne =>
    (hgr.block j (by simp; omega) (fun e => hne e.symm)).trans (hold j hj)
  have hset : ∀ j, j ≠ g → (w5.setCell ⟨g, 2, none⟩ (.slice (some ⟨g', 0, none⟩) (k + 1) cap)).heap[j]? = w5.heap[j]? := fun j hj => Below.heap_setCell _ _ _ _ hj
  have hsz5 : (w5.setCell ⟨g, 2, none⟩ (.slice (some ⟨g', 0, none⟩) (k + 1) cap)).heap.size = w5.heap.size := by simp [World.setCell]
  have hz3 := L.zv.call hF
  have hz5 : ZV W w5 b s (unitR (st.bind fun _ t => f t)) [(W.heap.size, zeroX.toList), (W.heap.size + 1, tk), (g, [.int .i64 4, .string ⟨#[]⟩, v]), (g + 1, wds)] := by
    refine ⟨hlt, (((hz3.fq.made hlt o1).made hlt o2)).grown hlt hgr (fun j hj => by have := hv j hj; omega), hF.rs.block (by omega) (hblk b (by have := L.zv.rs.lt; omega) (fun e => by have := hv b e; omega)), fun i g0 vs hi => ?_⟩
    have hz := hz3.vc i g0 vs hi
    refine ⟨hz.1, hz.2.block (by have := hz.2.lt; omega) (hblk g0 hz.2.lt (fun e => ?_))⟩
    have := hv g0 e
    have hc : g0 = W.heap.size ∨ g0 = W.heap.size + 1 ∨ g0 = g ∨ g0 = g + 1 := by
      match i, hi with
      | 0, hi => cases hi; omega
      | 1, hi => cases hi; omega
      | 2, hi => cases hi; omega
      | 3, hi => cases hi; omega
      | i + 4, hi => simp at hi
    omega
  refine ⟨⟨hlt, hz5.fq.new hlt _ (by show W.heap.size ≤ g; omega) _, hz5.rs.far (by omega) 2 _, fun i g0 vs hi => ?_⟩, ⟨_, _, _, rfl⟩, hgt, ⟨qs ++ [(.int .i64 k', .string σ, .slice sl n c)], ?_, fun u t e => ?_⟩, fun p e h => ?_⟩
  · match i, hi with
    | 0, hi => cases hi; have := hz5.vc 0 _ _ rfl; exact ⟨this.1, this.2.block (by rw [hsz5]; exact this.2.lt) (hset _ (by omega))⟩
    | 1, hi => cases hi; have := hz5.vc 1 _ _ rfl; exact ⟨this.1, this.2.block (by rw [hsz5]; exact this.2.lt) (hset _ (by omega))⟩
    | 2, hi => cases hi; have := hz5.vc 2 _ _ rfl; exact ⟨this.1, this.2.set 2 (by simp) _⟩
    | 3, hi => cases hi; have := hz5.vc 3 _ _ rfl; exact ⟨this.1, this.2.block (by rw [hsz5]; exact this.2.lt) (hset _ (by omega))⟩
    | i + 4, hi => simp at hi
  · exact (KI.snoc (q := (.int .i64 k', .string σ, .slice sl n c)) ⟨hk.len, hk.one⟩ ⟨rfl, rfl, rfl⟩ hown).same fun j h1 h2 => hset j (by omega)
  · obtain ⟨y, hy⟩ := unit_ok e
    obtain ⟨u1, t1, h1, h3⟩ := bind_ok hy
    obtain ⟨acc, hr, he⟩ := hgood u1 t1 h1
    refine ⟨acc ++ [y], ?_, ?_⟩
    · refine (KR.snoc (W := w3) (W' := w5) (H := w3.heap.size + 2) (q := (.int .i64 k', .string σ, .slice sl n c)) hr hv s3 (fun j h1 h2 => hF.fq.block j h2 (by omega)) (by omega) (hrep y t hy) (by omega) ⟨by omega, fun j hj hne => hblk j hj hne⟩ hat).same (by omega) fun j h1 h2 => hset j (by omega)
    · rw [← he]
      show _ = ifR s.data.toList f (w :: ws) acc t1
      rw [ifR_cons, h3]
      rfl
  · cases st with
    | bad p' e' =>
      have := L.bad p' e' rfl
      cases h
      exact this
    | ok u t =>
      obtain ⟨acc, hr, he⟩ := hgood u t rfl
      have hb := unit_bad h
      change f t = .bad p e at hb
      rw [← he]
      show ifR s.data.toList f (w :: ws) acc t = _
      rw [ifR_cons, hb]
      rfl
end Rc
end Go.Proofs.Ytcigggffaofkhaa

/-
  The reference's term: if; terms at every depth.
-/
namespace Go.Proofs.Ytcigggffaofkhaa
open Go.RowKit
namespace Rc

theorem cond_end {W wr : World} {b : Nat} {s : ByteArray} {f : Tk → Res E} {tk : List Value} {g : Nat} {sl : Option Addr} {c : Nat} {st : Res Unit} {R : Res (List E)} (L : IX W wr b s f tk g 4 (.slice sl 4 c) (w4.drop 4) (.ok ()) st R) :
    PE W b s (R.bind fun l t => .ok (.mk 4 ⟨#[]⟩ l) t) (.returned (.agg #[.int .i64 4, .string ⟨#[]⟩, .slice sl 4 c])) (put3 wr W.heap.size (.int .i64 4) (.string ⟨#[]⟩) (.slice sl 4 c)) := by
  have hgt := L.gt
  obtain ⟨qs, hk, hgood⟩ := L.kids
  have hu : unitR (R.bind fun l t => .ok (E.mk 4 ⟨#[]⟩ l) t) = st := by
    cases st with
    | bad p e => rw [L.bad p e rfl]; rfl
    | ok u t =>
      obtain ⟨acc, -, h⟩ := hgood u t rfl
      rw [← h]; rfl
  refine ZV.pe (by rw [hu]; exact L.zv) (Nat.le_refl _) fun x t hx => ?_
  obtain ⟨l, t1, h1, h2⟩ := bind_ok hx
  simp only [Res.ok.injEq] at h2
  obtain ⟨rfl, rfl⟩ := h2
  cases st with
  | bad p e => rw [L.bad p e rfl] at h1; cases h1
  | ok u t2 =>
    obtain ⟨acc, hr, h⟩ := hgood u t2 rfl
    rw [← h] at h1
    change Res.ok acc t2 = Res.ok l t1 at h1
    simp only [Res.ok.injEq] at h1
    obtain ⟨rfl, rfl⟩ := h1
    exact (hk.list (by omega) hr 4 ⟨#[]⟩).sub fun j hj => ⟨by omega, hj.2, by omega⟩

set_option maxHeartbeats 1000000 in
theorem rterm_cond (s : ByteArray) (hs : s.size ≤ 4096) (dp : Int) (h0 : 0 ≤ dp) (h1 : dp < 32) (h' : Nat) (hf : ExprR s (dp + 1) (exprP s.data.toList (termP s.data.toList h'))) (W : World) (b : Nat) (t : Tk) (h : RS W b s (.ok () t)) (w1 : isW t [40] = false) (w2 : isW t [105, 102] = true) :
    Calls Try.prog 50 #[.pointer (some ⟨b, 0, none⟩), .int .i64 dp] W fun e W' => PE W b s (termP s.data.toList (h' + 1) t) e W' := by
  obtain ⟨⟨pl, hX⟩, hv, hsm⟩ := id h
  have hZ := ((ZV.start h).push zeroX.toList 26 (g := W.heap.size) rfl).push [.int .i64 t.kind, .string t.s, .int .i64 t.pl, .int .i64 t.fin] 37 (g := W.heap.size + 1) (by simp)
  change ZV W ((W.alloc (.cells zeroX 26)).alloc (.cells #[.int .i64 t.kind, .string t.s, .int .i64 t.pl, .int .i64 t.fin] 37)) b s (.ok () t) [(W.heap.size, zeroX.toList), (W.heap.size + 1, [.int .i64 t.kind, .string t.s, .int .i64 t.pl, .int .i64 t.fin])] at hZ
  have h3 : t.kind ≠ 3 := isW_no3 w2
  have k3 : ((t.kind : Int) != 3) = true := by rw [bne, beq_eq_false_iff_ne.2 (by omega)]; rfl
  have k3b : ((t.kind : Int) == 3) = false := by rw [beq_eq_false_iff_ne]; omega
  have hh1 := rhas_any ((W.alloc (.cells zeroX 26)).alloc (.cells #[.int .i64 t.kind, .string t.s, .int .i64 t.pl, .int .i64 t.fin] 37)) b s (.ok () t) ⟨#[40]⟩ hZ.rs
  rw [show hasS (.ok () t) (⟨#[40]⟩ : ByteArray).data.toList = false from w1] at hh1
  have hh2 := rhas_any ((W.alloc (.cells zeroX 26)).alloc (.cells #[.int .i64 t.kind, .string t.s, .int .i64 t.pl, .int .i64 t.fin] 37)) b s (.ok () t) ⟨#[105, 102]⟩ hZ.rs
  rw [show hasS (.ok () t) (⟨#[105, 102]⟩ : ByteArray).data.toList = true from w2] at hh2
  have e1 : (t.s.toList == [40]) = false := by rw [ByteArray.toList_eq]; exact (isW_full hv h3 (by decide)).symm.trans w1
  have e2 : (t.s.toList == [105, 102]) = true := by rw [ByteArray.toList_eq]; exact (isW_full hv h3 (by decide)).symm.trans w2
  have d1 : (dp == 32) = false := by simp; omega
  have hd : IntKind.i64.wrap (dp + 1) = dp + 1 := IntWalk.i64_in _ (by omega)
  have HE := Lib.hid (if_eq (s := s.data.toList) (h := h') w2)
  clear w1 w2 h3
  have HZ := Lib.hid hZ
  obtain ⟨lt, c0, c1, c2, c3, c4, c5, c6, fz⟩ := hX
  have u0 := hZ.at 1 0 rfl rfl
  have u1 := hZ.at 1 1 rfl rfl
  have u2 := hZ.at 1 2 rfl rfl
  have uf := hZ.fz 1 rfl
  clear h hZ hsm hv
  go_enter Try.func50, Try.ntmps50
  go_wp2_with fail
  refine hh1.mono ?_
  rintro e w1 ⟨rfl, rfl⟩
  clear hh1
  go_wp2_with fail
  refine hh2.mono ?_
  rintro e w1 ⟨rfl, rfl⟩
  clear hh2
  go_wp2_with fail
  have hc := rstep_any _ b s _ hs HZ.out.rs
  refine hc.mono ?_
  rintro e w2 ⟨rfl, hF⟩
  have hZ := HZ.out.call hF
  clear lt c0 c1 c2 c3 c4 c5 c6 fz u0 u1 u2 uf hc hF
  have u0 := hZ.at 1 0 rfl rfl
  have u1 := hZ.at 1 1 rfl rfl
  have u2 := hZ.at 1 2 rfl rfl
  have uf := hZ.fz 1 rfl
  have HL := Lib.hid (IX.start (f := exprP s.data.toList (termP s.data.toList h')) hZ)
  have HH := Lib.hid (show ((Res.ok () t).bind fun _ t => stepT s.data.toList t).bind (fun _ t => ifR s.data.toList (exprP s.data.toList (termP s.data.toList h')) w4 [] t) = (stepT s.data.toList t).bind fun _ t => ifR s.data.toList (exprP s.data.toList (termP s.data.toList h')) w4 [] t from rfl)
  rw [HH.out] at HL
  generalize (stepT s.data.toList t).bind (fun _ t => ifR s.data.toList (exprP s.data.toList (termP s.data.toList h')) w4 [] t) = R at *
  generalize exprP s.data.toList (termP s.data.toList h') = f at *
  generalize ((Res.ok () t).bind fun _ t => stepT s.data.toList t) = st0 at *
  clear hZ HZ HH
  obtain ⟨i0, hi0, hz0, hz1, hz2⟩ := info_parts info_x
  go_wp2_with fail
  generalize (w2.alloc (.cells #[.int .i64 4, .string ⟨#[]⟩, .slice none 0 0] 26)).alloc (.cells #[.string ⟨#[61]⟩, .string ⟨#[116, 104, 101, 110]⟩, .string ⟨#[101, 108, 115, 101]⟩, .string ⟨#[]⟩] 9) = w9 at *
  generalize hg : w2.heap.size = g at *
  clear hg u0 u1 u2 uf
  go_loopw [86] (fun i wr => ∃ (k : Nat) (v : Value) (st : Res Unit), k ≤ 4 ∧ i = .int .i64 k ∧ IX W wr b s f _ g k v (w4.drop k) (.ok ()) st R) (fun i _ => 4 - (intOf i).toNat)
  case atStart => exact ⟨0, _, _, Nat.zero_le _, rfl, HL.out⟩
  case round =>
    obtain ⟨k, v, st, hk4, rfl, L⟩ := hrel
    clear HL
    obtain ⟨slv, nv, cv, rfl⟩ := L.form
    obtain rfl : nv = k := by
      obtain ⟨qs, hk, -⟩ := L.kids
      obtain ⟨sl', cap', he⟩ := own_form hk.own
      simp only [Value.slice.injEq] at he
      exact he.2.1
    by_cases hk2 : nv < 4
    · obtain ⟨w, hw1, hw2, hw3, hw4⟩ := word_at nv hk2
      rw [hw2] at L
      obtain ⟨qs, hk, hgood⟩ := L.kids
      have hcell := L.zv.at 3 nv rfl hw1
      have hc := hf wr b st L.zv.rs
      have HL := Lib.hid L
      have HK := Lib.hid hk
      have HG := Lib.hid hgood
      have HW3 := Lib.hid hw3
      have HW4 := Lib.hid hw4
      have hw0 := hk.own
      clear L hk hgood hw1 hw2 hw3 hw4 hk4
      go_wp2_with fail
      refine hc.mono ?_
      rintro e w3 ⟨k', σ', sl', n', c', rfl, hF, hrep⟩
      clear hc hcell
      have hbs : b < g + 2 := by have := HL.out.gt; have := HL.out.zv.hlt; omega
      have hown := (own_alloc hw0 hbs hF.fq (.cells #[.int .i64 k', .string σ', .slice sl' n' c'] 26)).alloc (.cells #[.int .i64 k', .string σ', .slice sl' n' c'] 26)
      have hsz : g + 2 ≤ ((w3.alloc (.cells #[.int .i64 k', .string σ', .slice sl' n' c'] 26)).alloc (.cells #[.int .i64 k', .string σ', .slice sl' n' c'] 26)).heap.size := by
        have a1 := HL.out.zv.lt 3 rfl
        have a2 := hF.fq.below.size
        simp; omega
      have hV := (HL.out.zv.call hF).made (.cells #[.int .i64 k', .string σ', .slice sl' n' c'] 26)
      have g0 := hV.at 2 0 rfl rfl
      have g1 := hV.at 2 1 rfl rfl
      have g2 := hV.at 2 2 rfl rfl
      have gf := hV.fz 2 rfl
      have hV2 := ((hV.made (.cells #[.int .i64 k', .string σ', .slice sl' n' c'] 26)).vc 2 _ _ rfl).2
      have HNG := Lib.hid (show (Value.slice slv nv cv).ownBlock ≠ some g from fun e => by have := hw0.lt g e; omega)
      have HF := Lib.hid hF
      have HR := Lib.hid hrep
      clear hV hbs hw0 hF hrep
      go_wp2_with (first
        | (at_builtin; refine wpList_append_lies _ rfl _ _ 24 rfl (g + 2) 26 i0 _ 3 48 Try.underlying24 hi0 hz0 hz1 hz2 rfl (by decide) (.slice slv nv cv) nv _ rfl hown ⟨w3.heap.size + 1, 0, none⟩ 1 1 [.int .i64 k', .string σ', .slice sl' n' c'] rfl rfl (lit3' _ _ _ _ _ _ rfl) (one3 ⟨rfl, rfl, rfl⟩) (by decide) ?c3 ?c4 ?c5 (w3.heap.size + 2) (by simp) ?_))
      case c3 => unfold maxLen; omega
      case c4 => omega
      case c5 => exact hsz
      intro g' cap w5 hown2 hgr hat hlt2
      have hN := HL.out.next HF.out HR.out HK.out HG.out hown2 hgr hat
      have hV5 := hV2.block (w1 := w5) (by have := hgr.size; have := hV2.lt; omega) (hgr.block g hV2.lt (fun e => HNG.out e.symm))
      have g0 := hV5.at 0 (by simp)
      have g1 := hV5.at 1 (by simp)
      have g2 := hV5.at 2 (by simp)
      have gf := hV5.fz
      clear hown2 hgr hat hlt2 hown hV2 hV5 hsz HL HK HG HR HF HNG
      by_cases hk3 : nv < 3
      · have e1 := (HW3.out hk3).1
        have hc := rwant_any _ b s _ w hs hN.zv.rs
        have HW := Lib.hid (show (fun t => wW s.data.toList w.data.toList t) = fun t => wantT s.data.toList w.data.toList t by funext t; unfold wW; rw [if_neg (HW3.out hk3).2])
        have HN := Lib.hid hN
        clear hN HW3 HW4
        go_wp2_with fail
        refine hc.mono ?_
        rintro e w6 ⟨rfl, hF⟩
        have hN := HN.out.want (by have h9 := congrFun HW.out; simp only [h9]; exact hF)
        clear hF hc HN HW
        have HN := Lib.hid hN
        clear hN
        go_wp2_with fail
        go_roundw
        case rel => exact ⟨nv + 1, _, _, by omega, by go_num, HN.out⟩
        case measure => simp [intOf]; omega
      · have e1 := (HW4.out (by omega)).1
        have HW := Lib.hid (show wW s.data.toList w.data.toList = Res.ok () by funext t; unfold wW; rw [if_pos (HW4.out (by omega)).2])
        have HN := Lib.hid hN
        clear hN HW3 HW4
        go_wp2_with fail
        go_roundw
        case rel => exact ⟨nv + 1, _, _, by omega, by go_num, by have := HN.out; rw [HW.out] at this; exact this⟩
        case measure => simp [intOf]; omega
    · obtain rfl : nv = 4 := by omega
      have g0 := L.zv.at 2 0 rfl rfl
      have g1 := L.zv.at 2 1 rfl rfl
      have g2 := L.zv.at 2 2 rfl rfl
      have gf := L.zv.fz 2 rfl
      have q0 := L.zv.at 0 0 rfl rfl
      have q1 := L.zv.at 0 1 rfl rfl
      have q2 := L.zv.at 0 2 rfl rfl
      have qf := L.zv.fz 0 rfl
      have HL := Lib.hid L
      clear L hk4 hk2
      go_wp2_with fail
      refine bodyPost_ret (v := .agg #[.int .i64 4, .string ⟨#[]⟩, .slice slv 4 cv]) (by simp [results, Try.results50, go_sem, q0, q1, q2]) rfl ?_
      rw [HE.out]
      exact cond_end HL.out
end Rc
end Go.Proofs.Ytcigggffaofkhaa

/-
  The reference's terms and expressions at every depth.
-/
namespace Go.Proofs.Ytcigggffaofkhaa
open Go.RowKit
namespace Rc

theorem rterm_any (s : ByteArray) (hs : s.size ≤ 4096) : ∀ (h : Nat) (dp : Int), 0 ≤ dp → dp + h = 32 → TermR s dp (termP s.data.toList h)
  | h, dp, h0, hd, W, b, .bad q e0, hk => bad_rterm W b s q e0 dp _ hk
  | 0, dp, h0, hd, W, b, .ok _ t, hk => by
    have hd : dp = 32 := by omega
    show Calls _ _ _ _ fun e W' => PE W b s (termP s.data.toList 0 t) e W'
    by_cases h3 : t.kind = 3
    · exact rdeep_text s hs dp h0 hd W b t hk h3
    · cases w1 : isW t [40] with
      | true => exact rdeep_par s hs dp h0 hd W b t hk w1
      | false =>
        cases w2 : isW t [105, 102] with
        | true => exact rdeep_cond s hs dp h0 hd W b t hk w1 w2
        | false =>
          cases w3 : isW t [108, 101, 116] with
          | true => exact rdeep_bind s hs dp h0 hd W b t hk w1 w2 w3
          | false =>
            by_cases hk1 : t.kind = 1
            · cases hn : nameL t.s.data.toList with
              | true => exact rdeep_word s hs dp h0 hd W b t hk w1 w2 w3 hk1 hn
              | false => exact rfail_name s hs dp h0 0 W b t hk w1 w2 w3 hk1 hn
            · exact rfail_kind s hs dp h0 0 W b t hk w1 w2 w3 h3 hk1
  | h + 1, dp, h0, hd, W, b, .ok _ t, hk => by
    have ih := rterm_any s hs h (dp + 1) (by omega) (by omega)
    have hf : ExprR s (dp + 1) (exprP s.data.toList (termP s.data.toList h)) := fun W b st hr => rexpr_any s hs (dp + 1) _ (term_prog _ h) ih W b st hr
    have h1 : dp < 32 := by omega
    show Calls _ _ _ _ fun e W' => PE W b s (termP s.data.toList (h + 1) t) e W'
    by_cases h3 : t.kind = 3
    · exact rterm_text s hs dp h0 h1 h W b t hk h3
    · cases w1 : isW t [40] with
      | true => exact rterm_par s hs dp h0 h1 h hf W b t hk w1
      | false =>
        cases w2 : isW t [105, 102] with
        | true => exact rterm_cond s hs dp h0 h1 h hf W b t hk w1 w2
        | false =>
          cases w3 : isW t [108, 101, 116] with
          | true => exact rterm_bind s hs dp h0 h1 h hf W b t hk w1 w2 w3
          | false =>
            by_cases hk1 : t.kind = 1
            · cases hn : nameL t.s.data.toList with
              | true => exact rterm_word s hs dp h0 h1 h W b t hk w1 w2 w3 hk1 hn
              | false => exact rfail_name s hs dp h0 (h + 1) W b t hk w1 w2 w3 hk1 hn
            · exact rfail_kind s hs dp h0 (h + 1) W b t hk w1 w2 w3 h3 hk1
/-- an expression at the top -/
theorem rtop_any (s : ByteArray) (hs : s.size ≤ 4096) : ExprR s 0 (exprP s.data.toList (termP s.data.toList 32)) := fun W b st hr =>
  rexpr_any s hs 0 _ (term_prog _ 32) (rterm_any s hs 32 0 (by omega) (by omega)) W b st hr
end Rc
end Go.Proofs.Ytcigggffaofkhaa

/-
  The state of the reference's Parse.
-/
namespace Go.Proofs.Ytcigggffaofkhaa
open Go.RowKit
namespace Rc

theorem ZV.set {W w : World} {b : Nat} {s : ByteArray} {st : Res Unit} {vars : List (Nat × List Value)} (h : ZV W w b s st vars) (i j : Nat) {g : Nat} {vs : List Value} (hi : vars[i]? = some (g, vs)) (hj : j < vs.length) (hd : ∀ (i' g' : Nat) (vs' : List Value), vars[i']? = some (g', vs') → i' ≠ i → g' ≠ g) (v : Value) :
    ZV W (w.setCell ⟨g, j, none⟩ v) b s st (vars.set i (g, vs.set j v)) := by
  have hlt := h.hlt
  have hg := h.vc i g vs hi
  refine ⟨hlt, h.fq.new hlt ⟨g, j, none⟩ hg.1 v, h.rs.far (by omega) j v, fun i' g' vs' hi' => ?_⟩
  rw [List.getElem?_set] at hi'
  split at hi'
  · rename_i e
    split at hi'
    · cases hi'
      exact ⟨hg.1, hg.2.set j hj v⟩
    · cases hi'
  · rename_i e
    have h2 := h.vc i' g' vs' hi'
    exact ⟨h2.1, h2.2.block (by simp [World.setCell]; exact h2.2.lt) (Below.heap_setCell _ _ _ _ (hd i' g' vs' hi' (fun e' => e e'.symm)))⟩
/-- one variable alone -/
theorem ZV.set1 {W w : World} {b : Nat} {s : ByteArray} {st : Res Unit} {g : Nat} {vs : List Value} (h : ZV W w b s st [(g, vs)]) (j : Nat) (hj : j < vs.length) (v : Value) : ZV W (w.setCell ⟨g, j, none⟩ v) b s st [(g, vs.set j v)] :=
  h.set 0 j rfl hj (fun i' g' vs' h hne => by
    have := (List.getElem?_eq_some_iff.1 h).1
    simp at this
    omega) v
/-- rows of fields that are read -/
structure KJ (W : World) (B : Nat) (v : Value) (n : Nat) (qs : List F7) : Prop where
  len : qs.length = n
  own : W.ownsRow B 47 7 v n (row7 qs)
  nil : n = 0 → v = .slice none 0 0
def KQ (W : World) (B : Nat) (v : Value) (qs : List F7) (ts : List (Int × E × E)) : Prop := ts.length = qs.length ∧ ∀ (i : Nat) (q : F7) (t : Int × E × E), qs[i]? = some q → ts[i]? = some t → RepF W (fun k => B ≤ k ∧ k < W.heap.size ∧ v.ownBlock ≠ some k) t q
theorem KJ.start (W : World) (B : Nat) : KJ W B (.slice none 0 0) 0 [] := ⟨rfl, World.ownsRow_nil _ _ _ _, fun _ => rfl⟩
theorem KJ.same {W W' : World} {B n : Nat} {v : Value} {qs : List F7} (h : KJ W B v n qs) (hb : ∀ j, B ≤ j → j < W.heap.size → W'.heap[j]? = W.heap[j]?) : KJ W' B v n qs :=
  ⟨h.len, own_block h.own (fun j hj => hb j (h.own.lt j hj).1 (h.own.lt j hj).2), h.nil⟩
theorem KQ.kf {W : World} {B n : Nat} {v : Value} {qs : List F7} {ts : List (Int × E × E)} (h : KJ W B v n qs) (hq : KQ W B v qs ts) : KF W B v ts qs := by
  have e : ts.length = n := by rw [hq.1, h.len]
  exact ⟨hq.1.symm, by rw [e]; exact h.own, fun h0 => h.nil (by omega), hq.2⟩
theorem KQ.of_kf {W : World} {B : Nat} {v : Value} {qs : List F7} {ts : List (Int × E × E)} (h : KF W B v ts qs) : KQ W B v qs ts := ⟨h.len.symm, h.rep⟩
/-- what a field's head must be -/
def chkF (n : Nat) (t : Tk) : Res Unit := if fieldK t = 0 then .bad t.pl 50 else if n = 20 then .bad t.pl 13 else .ok () t
theorem fields_chk {s : List UInt8} {f : Tk → Res E} {m : Nat} {t : Tk} {ts : List (Int × E × E)} (h : t.kind ≠ 0) :
    fieldsP s f (m + 1) t ts = (((chkF ts.length t).bind fun _ t => stepT s t).bind fun _ t => f t).bind fun a t2 => (f t2).bind fun b t3 => fieldsP s f m t3 (ts ++ [((fieldK t : Int), a, b)]) := by
  unfold chkF
  by_cases h2 : fieldK t = 0
  · rw [fields_no h h2, if_pos h2]; rfl
  · rw [if_neg h2]
    by_cases h3 : ts.length = 20
    · rw [fields_many h h2 h3, if_pos h3]; rfl
    · rw [fields_step h h2 h3, if_neg h3, ok_bind, bind_assoc]
/-- the state at a round's head -/
structure YX (W wr : World) (b : Nat) (s : ByteArray) (f : Tk → Res E) (g : Nat) (a1 a2 : XV) (v : Value) (n : Nat) (st : Res Unit) (R : Res Src) : Prop where
  zv : ZV W wr b s st [(g, out7 a1 a2 v)]
  form : ∃ sl n c, v = .slice sl n c
  few : n ≤ 21
  kids : ∃ qs, KJ wr (g + 1) v n qs ∧ ∀ u t, st = .ok u t → ∃ x1 x2 ts m, RepX wr (fun k => g + 1 ≤ k ∧ k < wr.heap.size ∧ v.ownBlock ≠ some k) x1 a1.val ∧ RepX wr (fun k => g + 1 ≤ k ∧ k < wr.heap.size ∧ v.ownBlock ≠ some k) x2 a2.val ∧
    KQ wr (g + 1) v qs ts ∧ n ≤ 20 ∧ s.size - t.fin + 1 ≤ m ∧ ((fieldsP s.data.toList f m t ts).bind fun l t5 => .ok ⟨x1, x2, l⟩ t5) = R
  bad : ∀ p e, st = .bad p e → R = .bad p e
theorem YX.next {W wr w5 w6 : World} {b : Nat} {s : ByteArray} {f : Tk → Res E} {g : Nat} {a1 a2 : XV} {v : Value} {n : Nat} {u : Unit} {t : Tk} {R : Res Src} (L : YX W wr b s f g a1 a2 v n (.ok u t) R) (hp : Pg f) (hk0 : t.kind ≠ 0)
    {A B : Res E} (hA : A = ((chkF n t).bind fun _ t => stepT s.data.toList t).bind fun _ t => f t) (hB : B = (unitR A).bind fun _ t => f t) {fv : List (Nat × List Value)} (hZ : ZV wr w5 b s (unitR B) fv) {p q : XV}
    (hy : ∀ x t', A = .ok x t' → RepX w5 (fun j => wr.heap.size ≤ j ∧ j < w5.heap.size) x p.val) (hz : ∀ x t', B = .ok x t' → RepX w5 (fun j => wr.heap.size ≤ j ∧ j < w5.heap.size) x q.val) {kd : Int} (hkd : kd = fieldK t) {qs : List F7} (hk : KJ wr (g + 1) v n qs)
    (hgood : ∀ u' t', Res.ok u t = .ok u' t' → ∃ x1 x2 ts m, RepX wr (fun k => g + 1 ≤ k ∧ k < wr.heap.size ∧ v.ownBlock ≠ some k) x1 a1.val ∧ RepX wr (fun k => g + 1 ≤ k ∧ k < wr.heap.size ∧ v.ownBlock ≠ some k) x2 a2.val ∧
      KQ wr (g + 1) v qs ts ∧ n ≤ 20 ∧ s.size - t'.fin + 1 ≤ m ∧ ((fieldsP s.data.toList f m t' ts).bind fun l t5 => .ok ⟨x1, x2, l⟩ t5) = R)
    {g' cap : Nat} (hown : w6.ownsRow (g + 1) 47 7 (.slice (some ⟨g', 0, none⟩) (n + 1) cap) (n + 1) (row7 qs ++ cells7 (.int .i64 kd, (.int .i64 p.k, .string p.σ, .slice p.sl p.n p.c), (.int .i64 q.k, .string q.σ, .slice q.sl q.n q.c))))
    {o : Obj} (hgr : (w5.alloc o).grownBy w6 v.ownBlock) (hat : v.ownBlock = some g' ∨ g' = w5.heap.size + 1) :
    YX W (w6.setCell ⟨g, 6, none⟩ (.slice (some ⟨g', 0, none⟩) (n + 1) cap)) b s f g a1 a2 (.slice (some ⟨g', 0, none⟩) (n + 1) cap) (n + 1) (unitR B) R ∧ mr s b (w6.setCell ⟨g, 6, none⟩ (.slice (some ⟨g', 0, none⟩) (n + 1) cap)) < mr s b wr := by
  have hlt := L.zv.hlt
  have hlo := L.zv.lo 0 rfl
  have hgl := L.zv.lt 0 rfl
  have hF := hZ.fq
  have hv : ∀ j, v.ownBlock = some j → g + 1 ≤ j ∧ j < wr.heap.size := fun j hj => hk.own.lt j hj
  have s1 := L.zv.fq.below.size
  have s5 := hF.below.size
  have hsz : w5.heap.size + 1 ≤ w6.heap.size := by have := hgr.size; simpa using this
  have hblk : ∀ j, j < w5.heap.size → v.ownBlock ≠ some j → w6.heap[j]? = w5.heap[j]? := fun j hj hne =>
    (hgr.block j (by simp; omega) (fun e => hne e.symm)).trans (heap_alloc_old w5 _ hj)
  have hob : ∀ j, v.ownBlock = some j → j ≠ b ∧ j ≠ g := fun j hj => by have := hv j hj; omega
  have hz5 : ZV W w5 b s (unitR B) [(g, out7 a1 a2 v)] := L.zv.call ⟨hF, hZ.rs⟩
  have hc5 := hz5.vc 0 _ _ rfl
  have hz6 : ZV W w6 b s (unitR B) [(g, out7 a1 a2 v)] := by
    refine ⟨hlt, (hz5.fq.made hlt o).grown hlt hgr (fun j hj => by have := hv j hj; omega), hz5.rs.block (by omega) (hblk b (by omega) (fun e => (hob b e).1 rfl)), fun i g0 vs hi => ?_⟩
    match i, hi with
    | 0, hi => cases hi; exact ⟨hc5.1, hc5.2.block (by omega) (hblk g (by omega) (fun e => (hob g e).2 rfl))⟩
    | i + 1, hi => simp at hi
  have hz7 := hz6.set1 6 (by simp) (.slice (some ⟨g', 0, none⟩) (n + 1) cap)
  have h5 : ∀ j, j ≠ g → (w6.setCell ⟨g, 6, none⟩ (.slice (some ⟨g', 0, none⟩) (n + 1) cap)).heap[j]? = w6.heap[j]? := fun j hj => Below.heap_setCell _ _ _ _ hj
  have h5s : (w6.setCell ⟨g, 6, none⟩ (.slice (some ⟨g', 0, none⟩) (n + 1) cap)).heap.size = w6.heap.size := by simp [World.setCell]
  have hob' : (Value.slice (some ⟨g', 0, none⟩) (n + 1) cap).ownBlock = some g' := rfl
  have hstay : ∀ k, (g + 1 ≤ k ∧ k < wr.heap.size ∧ v.ownBlock ≠ some k) → (g + 1 ≤ k ∧ k < (w6.setCell ⟨g, 6, none⟩ (.slice (some ⟨g', 0, none⟩) (n + 1) cap)).heap.size ∧ (Value.slice (some ⟨g', 0, none⟩) (n + 1) cap).ownBlock ≠ some k) ∧ (w6.setCell ⟨g, 6, none⟩ (.slice (some ⟨g', 0, none⟩) (n + 1) cap)).heap[k]? = wr.heap[k]? := fun k hk => by
    refine ⟨⟨hk.1, by omega, fun e => ?_⟩, ?_⟩
    · rw [hob'] at e
      cases e
      rcases hat with hat | hat
      · exact hk.2.2 hat
      · omega
    · rw [h5 k (by omega), hblk k (by omega) hk.2.2, hF.block k (by omega) (by omega)]
  have hkj : KJ w6 (g + 1) (.slice (some ⟨g', 0, none⟩) (n + 1) cap) (n + 1) (qs ++ [(.int .i64 kd, (.int .i64 p.k, .string p.σ, .slice p.sl p.n p.c), (.int .i64 q.k, .string q.σ, .slice q.sl q.n q.c))]) :=
    ⟨by simp [hk.len], by rw [row7_snoc]; exact hown, fun h => by omega⟩
  obtain ⟨x1, x2, ts, m, r1, r2, hq, hn, hm, he⟩ := hgood u t rfl
  have hts : ts.length = n := by rw [hq.1, hk.len]
  obtain ⟨m', rfl⟩ : ∃ m', m = m' + 1 := ⟨m - 1, by omega⟩
  rw [fields_chk hk0, hts, ← hA] at he
  have htf := L.zv.rs.2.1.fin
  refine ⟨⟨hz7, ⟨_, _, _, rfl⟩, by omega, ⟨_, hkj.same fun j h1 h2 => h5 j (by omega), fun u' t3 e => ?_⟩, fun p' e' h => ?_⟩, ?_⟩
  · obtain ⟨z, hzz⟩ := unit_ok e
    have hB' := hB
    rw [hzz] at hB'
    obtain ⟨u2, t2, h2, h3⟩ := bind_ok hB'.symm
    obtain ⟨y, hyy⟩ := unit_ok h2
    have hA' := hA
    rw [hyy] at hA'
    obtain ⟨u1, t1, h1, h4⟩ := bind_ok hA'.symm
    obtain ⟨u0, t0, h0, h6⟩ := bind_ok h1
    have hc : t0 = t ∧ n ≠ 20 := by
      unfold chkF at h0
      split at h0
      · cases h0
      · split at h0
        · cases h0
        · rename_i h20
          cases h0
          exact ⟨rfl, h20⟩
    obtain ⟨rfl, h20⟩ := hc
    have p1 := step_prog h6
    have p2 := hp _ _ _ h4
    have p3 := hp _ _ _ h3
    have p4 := p1.2 p2.1
    have hkf := (hq.kf hk).snoc (W := w5) (W' := w6) (q := (.int .i64 kd, (.int .i64 p.k, .string p.σ, .slice p.sl p.n p.c), (.int .i64 q.k, .string q.σ, .slice q.sl q.n q.c))) (t := ((fieldK t0 : Int), y, z)) (g := g') (cap := cap) (H := w5.heap.size + 1) (by omega) (fun j hj1 hj2 => hF.block j hj2 (by omega)) (by omega)
      ⟨by rw [hkd], hy _ _ hyy, hz _ _ hzz⟩ (Nat.le_succ _) ⟨by omega, hblk⟩ hat (by rw [hts]; exact hown)
    rw [hts] at hkf
    have hr9 := hz7.rs
    rw [e] at hr9
    have hf9 := hr9.2.1.fin
    refine ⟨x1, x2, ts ++ [((fieldK t0 : Int), y, z)], m', r1.move hstay, r2.move hstay, KQ.of_kf (hkf.same (by omega) fun j h1 h2 => h5 j (by omega)), by omega, by omega, ?_⟩
    rw [← he, hyy]
    show _ = Res.bind ((f t2).bind _) _
    rw [h3]
    rfl
  · have hb := unit_bad h
    rw [hB] at hb
    rw [← he]
    cases hA2 : A with
    | bad p2 e2 =>
      rw [hA2] at hb
      cases hb
      rfl
    | ok y t2 =>
      rw [hA2] at hb
      change f t2 = .bad p' e' at hb
      show Res.bind ((f t2).bind _) _ = _
      rw [hb]
      rfl
  · rw [mr_ok L.zv.rs]
    cases hu : unitR B with
    | bad p' e' =>
      have := hz7.rs
      rw [hu] at this
      rw [mr_bad this]
      omega
    | ok u2 t3 =>
      obtain ⟨z, hzz⟩ := unit_ok hu
      have hB' := hB
      rw [hzz] at hB'
      obtain ⟨u2, t2, h2, h3⟩ := bind_ok hB'.symm
      obtain ⟨y, hyy⟩ := unit_ok h2
      have hA' := hA
      rw [hyy] at hA'
      obtain ⟨u1, t1, h1, h4⟩ := bind_ok hA'.symm
      obtain ⟨u0, t0, h0, h6⟩ := bind_ok h1
      have hc : t0 = t := by
        unfold chkF at h0
        split at h0
        · cases h0
        · split at h0
          · cases h0
          · cases h0
            rfl
      subst hc
      have p1 := step_prog h6
      have p2 := hp _ _ _ h4
      have p3 := hp _ _ _ h3
      have p4 := p1.2 p2.1
      have hr := hz7.rs
      rw [hu] at hr
      rw [mr_ok hr]
      have := hr.2.1.fin
      omega
end Rc
end Go.Proofs.Ytcigggffaofkhaa
