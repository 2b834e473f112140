/-
  The reference's expr.
-/
import Derived.Test.YtcigggffaofkhaaRrE
import Derived.Test.YtcigggffaofkhaaRcF
namespace Go.Proofs.Ytcigggffaofkhaa
open Go.RowKit
namespace Rc

def unitR {α : Type} (R : Res α) : Res Unit := R.bind fun _ t => .ok () t
/-- what a reading of an expression answers -/
def PE (W : World) (b : Nat) (s : ByteArray) (R : Res E) (e : Ending) (W' : World) : Prop := ∃ (k : Int) (σ : ByteArray) (sl : Option Addr) (n c : Nat), e = .returned (.agg #[.int .i64 k, .string σ, .slice sl n c]) ∧ RF W b s (unitR R) W' ∧
  ∀ x t, R = .ok x t → RepX W' (fun j => W.heap.size ≤ j ∧ j < W'.heap.size) x (.agg #[.int .i64 k, .string σ, .slice sl n c])
/-- a term, by its contract -/
def TermR (s : ByteArray) (dp : Int) (f : Tk → Res E) : Prop := ∀ (W : World) (b : Nat) (st : Res Unit), RS W b s st →
  Calls Try.prog 50 #[.pointer (some ⟨b, 0, none⟩), .int .i64 dp] W fun e W' => PE W b s (st.bind fun _ t => f t) e W'
/-- a variable's block and its cells -/
structure VC (w : World) (g : Nat) (vs : List Value) : Prop where
  lt : g < w.heap.size
  cs : ∀ j v, vs[j]? = some v → w.cell? ⟨g, j, none⟩ = some v
  fz : ∀ j, w.frozen? ⟨g, j, none⟩ = false
section
variable {w w1 : World} {g : Nat} {vs : List Value}
theorem VC.made (w : World) (vs : List Value) (t : TypeId) : VC (w.alloc (.cells vs.toArray t)) w.heap.size vs := by
  have hn := heap_alloc_new w (.cells vs.toArray t)
  refine ⟨by simp, fun j v hv => ?_, fun j => ?_⟩
  · simp only [World.cell?, hn]
    simpa using hv
  · simp only [World.frozen?, hn]
    rfl
theorem VC.block (h : VC w g vs) (hl : g < w1.heap.size) (hg : w1.heap[g]? = w.heap[g]?) : VC w1 g vs :=
  ⟨hl, fun j v hv => (World.cell?_of_block hg).trans (h.cs j v hv), fun j => (World.frozen?_of_block hg).trans (h.fz j)⟩
theorem VC.keep (h : VC w g vs) (hb : Below w.heap.size w w1) : VC w1 g vs := h.block (Nat.lt_of_lt_of_le h.lt hb.size) (hb.block g h.lt)
theorem VC.fq (h : VC w g vs) {b : Nat} (hf : Fq w w1 b) (hb : g ≠ b) : VC w1 g vs := h.block (Nat.lt_of_lt_of_le h.lt hf.below.size) (hf.block g h.lt hb)
theorem VC.alloc (h : VC w g vs) (o : Obj) : VC (w.alloc o) g vs := h.keep ((Below.refl _ _).alloc (Nat.le_refl _) _)
theorem VC.set (h : VC w g vs) (j : Nat) (hj : j < vs.length) (v : Value) : VC (w.setCell ⟨g, j, none⟩ v) g (vs.set j v) := by
  refine ⟨by simpa [World.setCell] using h.lt, fun i u hu => ?_, fun i => ?_⟩
  · rw [List.getElem?_set] at hu
    split at hu
    · rename_i e
      subst e
      cases hu
      exact World.cell?_setCell_same _ _ _ (h.cs j _ (List.getElem?_eq_getElem hj))
    · rename_i e
      rw [World.cell?_setCell_other _ _ _ _ (by simp)]
      exact h.cs i u hu
  · rw [World.frozen?_setCell]; exact h.fz i
theorem VC.at (h : VC w g vs) (j : Nat) (hj : j < vs.length) : w.cell? ⟨g, j, none⟩ = some vs[j] := h.cs j _ (List.getElem?_eq_getElem hj)
end
/-- the kids that are read, beside a variable's block g -/
structure KY (W : World) (B g : Nat) (v : Value) (ts : List E) (qs : List Q3) : Prop where
  len : qs.length = ts.length
  pos : 0 < ts.length
  own : W.ownsRow B 26 3 v ts.length (row3 qs)
  ng : v.ownBlock ≠ some g
  one : ∀ q ∈ qs, q.1.oneCell' = true ∧ q.2.1.oneCell' = true ∧ q.2.2.oneCell' = true
  rep : ∀ (i : Nat) (q : Q3) (t : E), qs[i]? = some q → ts[i]? = some t → RepX W (fun k => B ≤ k ∧ k < W.heap.size ∧ v.ownBlock ≠ some k ∧ k ≠ g) t (.agg #[q.1, q.2.1, q.2.2])
theorem KY.same {W W' : World} {B g : Nat} {v : Value} {ts : List E} {qs : List Q3} (k : KY W B g v ts qs) (hs : W.heap.size ≤ W'.heap.size) (hb : ∀ j, B ≤ j → j < W.heap.size → j ≠ g → W'.heap[j]? = W.heap[j]?) : KY W' B g v ts qs :=
  ⟨k.len, k.pos, own_block k.own (fun j hj => hb j (k.own.lt j hj).1 (k.own.lt j hj).2 (fun e => k.ng (by rw [← e]; exact hj))), k.ng, k.one, fun i q t hq ht =>
    (k.rep i q t hq ht).move fun b hS => ⟨⟨hS.1, Nat.lt_of_lt_of_le hS.2.1 hs, hS.2.2⟩, hb b hS.1 hS.2.1 hS.2.2.2⟩⟩
/-- one kid more -/
theorem KY.snoc {W0 W W' : World} {B G : Nat} {v : Value} {ts : List E} {qs : List Q3} (k : KY W0 B G v ts qs) (hG : G < W0.heap.size) (hs : W0.heap.size ≤ W.heap.size) (hb : ∀ j, B ≤ j → j < W0.heap.size → j ≠ G → W.heap[j]? = W0.heap[j]?) (hB : B ≤ W0.heap.size)
    {q : Q3} (hone : q.1.oneCell' = true ∧ q.2.1.oneCell' = true ∧ q.2.2.oneCell' = true) {t : E} (hr : RepX W (fun k => W0.heap.size ≤ k ∧ k < W.heap.size) t (.agg #[q.1, q.2.1, q.2.2]))
    {g cap : Nat} {H : Nat} (hH : W.heap.size ≤ H) (hg : W.heap.size ≤ W'.heap.size ∧ ∀ j, j < W.heap.size → v.ownBlock ≠ some j → W'.heap[j]? = W.heap[j]?)
    (hat : v.ownBlock = some g ∨ g = H) (hown : W'.ownsRow B 26 3 (.slice (some ⟨g, 0, none⟩) (ts.length + 1) cap) (ts.length + 1) (row3 qs ++ [q.1, q.2.1, q.2.2])) :
    KY W' B G (.slice (some ⟨g, 0, none⟩) (ts.length + 1) cap) (ts ++ [t]) (qs ++ [q]) := by
  have hv : ∀ j, v.ownBlock = some j → B ≤ j ∧ j < W0.heap.size := fun j hj => k.own.lt j hj
  have hob : (Value.slice (some ⟨g, 0, none⟩) (ts.length + 1) cap).ownBlock = some g := rfl
  refine ⟨by simp [k.len], by simp, ?_, ?_, fun q' hq' => ?_, fun i q' t' hq' ht' => ?_⟩
  · rw [List.length_append, List.length_singleton, row3_snoc]
    exact hown
  · rw [hob]
    intro e
    cases e
    rcases hat with hat | hat
    · exact k.ng hat
    · omega
  · rw [List.mem_append, List.mem_singleton] at hq'
    rcases hq' with hq' | rfl
    · exact k.one q' hq'
    · exact hone
  · rcases Nat.lt_or_ge i qs.length with hi | hi
    · rw [List.getElem?_append_left hi] at hq'
      rw [List.getElem?_append_left (by rw [← k.len]; exact hi)] at ht'
      refine (k.rep i q' t' hq' ht').move fun b hS => ⟨⟨hS.1, by omega, fun e => ?_, hS.2.2.2⟩, ?_⟩
      · rw [hg.2 b (by omega) hS.2.2.1, hb b hS.1 hS.2.1 hS.2.2.2]
      · rw [hob] at e
        cases e
        rcases hat with hat | hat
        · exact hS.2.2.1 hat
        · omega
    · have hi' : i < (qs ++ [q]).length := (List.getElem?_eq_some_iff.1 hq').1
      simp at hi'
      obtain rfl : i = qs.length := by omega
      simp at hq'
      rw [k.len] at ht'
      simp at ht'
      subst hq' ht'
      refine hr.move fun b hS => ⟨⟨by omega, by omega, fun e => ?_, by omega⟩, hg.2 b hS.2 (fun e => ?_)⟩
      · have := hv b e; omega
      · rw [hob] at e
        cases e
        rcases hat with hat | hat
        · have := hv g hat; omega
        · omega
/-- all kids: a sum's slice -/
theorem KY.list {W : World} {B g : Nat} {v : Value} {ts : List E} {qs : List Q3} (k : KY W B g v ts qs) (kind : Int) (s : ByteArray) : RepX W (fun k => B ≤ k ∧ k < W.heap.size ∧ k ≠ g) (.mk kind s ts) (.agg #[.int .i64 kind, .string s, v]) := by
  have h' : W.ownsRow B 26 3 v qs.length (row3 qs) := by rw [k.len]; exact k.own
  obtain ⟨g', cap, rfl, hB, hlt, hc⟩ := own_row3 h' (by rw [k.len]; exact k.pos)
  have hng : g' ≠ g := fun e => k.ng (by rw [e]; rfl)
  rw [k.len]
  refine .mk kind s ts _ cap (fun i => (qs.getD i (.nilIface, .nilIface, .nilIface)).1) (fun i => (qs.getD i (.nilIface, .nilIface, .nilIface)).2.1) (fun i => (qs.getD i (.nilIface, .nilIface, .nilIface)).2.2) (by rw [k.len] at h'; exact own_room h') (fun i t ht => ?_) (fun i t ht => ?_)
  · have hi : i < qs.length := by rw [k.len]; exact (List.getElem?_eq_some_iff.1 ht).1
    have hq : qs[i]? = some qs[i] := List.getElem?_eq_getElem hi
    rw [List.getD_eq_getElem?_getD, hq]
    obtain ⟨h1, h2, h3⟩ := hc i _ hq
    exact ⟨g', 0, rfl, ⟨hB, hlt, hng⟩, h1, h2, h3⟩
  · have hi : i < qs.length := by rw [k.len]; exact (List.getElem?_eq_some_iff.1 ht).1
    have hq : qs[i]? = some qs[i] := List.getElem?_eq_getElem hi
    rw [List.getD_eq_getElem?_getD, hq]
    exact (k.rep i _ t hq ht).sub (fun j hj => ⟨hj.1, hj.2.1, hj.2.2.2⟩)
theorem bind_bad {α β : Type} {R : Res α} {F : α → Tk → Res β} {p : Nat} {e : Int} (h : R = .bad p e) : R.bind F = .bad p e := by rw [h]; rfl
theorem expr_none {s : List UInt8} {f : Tk → Res E} {st : Res Unit} (h : hasS (unitR (st.bind fun _ t => f t)) [43] = false) : (st.bind fun _ t => exprP s f t) = st.bind fun _ t => f t := by
  cases st with
  | bad p e => rfl
  | ok u t =>
    show exprP s f t = f t
    change hasS (unitR (f t)) [43] = false at h
    cases hr : f t with
    | bad p e => exact expr_bad1 hr
    | ok x t1 =>
      rw [hr] at h
      exact expr_ok hr (sum_stop h)
theorem expr_more {s : List UInt8} {f : Tk → Res E} {st : Res Unit} (h : hasS (unitR (st.bind fun _ t => f t)) [43] = true) : ∃ x t1, (st.bind fun _ t => f t) = .ok x t1 ∧ isW t1 [43] = true ∧ (st.bind fun _ t => exprP s f t) = (sumP s f (s.length + 1) t1 []).bind fun l t2 => .ok (catE x l) t2 := by
  cases st with
  | bad p e => cases h
  | ok u t =>
    change hasS (unitR (f t)) [43] = true at h
    cases hr : f t with
    | bad p e => rw [hr] at h; cases h
    | ok x t1 =>
      rw [hr] at h
      refine ⟨x, t1, hr, h, ?_⟩
      show exprP s f t = _
      unfold exprP
      rw [hr]
      rfl
/-- the first kid: a slice of one, ahead of the sum's variable -/
theorem KY.first {W1 W : World} {B : Nat} {ty : TypeId} {q r : Q3} {t : E} (hB : B ≤ W1.heap.size) (hone : q.1.oneCell' = true ∧ q.2.1.oneCell' = true ∧ q.2.2.oneCell' = true) (hr : RepX W1 (fun k => B ≤ k ∧ k < W1.heap.size) t (.agg #[q.1, q.2.1, q.2.2]))
    (hW : W = ((W1.alloc (.cells #[q.1, q.2.1, q.2.2] ty)).alloc (.cells #[q.1, q.2.1, q.2.2] 26)).alloc (.cells #[r.1, r.2.1, r.2.2] ty)) :
    KY W B (W1.heap.size + 2) (.slice (some ⟨W1.heap.size + 1, 0, none⟩) 1 1) [t] [q] := by
  subst hW
  have hl : ((W1.alloc (.cells #[q.1, q.2.1, q.2.2] ty)).alloc (.cells #[q.1, q.2.1, q.2.2] 26)).ownsRow B 26 3 (.slice (some ⟨(W1.alloc (.cells #[q.1, q.2.1, q.2.2] ty)).heap.size, 0, none⟩) 1 1) 1 [q.1, q.2.1, q.2.2] :=
    World.ownsRow_lit (W1.alloc (.cells #[q.1, q.2.1, q.2.2] ty)) #[q.1, q.2.1, q.2.2] 1 (by simp; omega) (by unfold maxLen; omega) rfl
  have hsz : (W1.alloc (.cells #[q.1, q.2.1, q.2.2] ty)).heap.size = W1.heap.size + 1 := by simp
  rw [hsz] at hl
  refine ⟨rfl, by simp, hl.alloc _, ?_, fun q' hq' => ?_, fun i q' t' hq' ht' => ?_⟩
  · intro e
    have e : some (W1.heap.size + 1) = some (W1.heap.size + 2) := e
    have := Option.some.inj e
    omega
  · rw [List.mem_singleton] at hq'
    subst hq'
    exact hone
  · have hi : i < [q].length := (List.getElem?_eq_some_iff.1 hq').1
    simp at hi
    subst hi
    simp at hq' ht'
    subst hq' ht'
    refine hr.move fun b hS => ⟨⟨hS.1, by simp; omega, fun e => ?_, by omega⟩, ?_⟩
    · rw [heap_alloc_old _ _ (by simp; omega), heap_alloc_old _ _ (by simp; omega), heap_alloc_old _ _ hS.2]
    · have e : some (W1.heap.size + 1) = some b := e
      have := Option.some.inj e
      omega
/-- the state at a round's head -/
structure EX (W wr : World) (b : Nat) (s : ByteArray) (f : Tk → Res E) (g : Nat) (v : Value) (R : Res (List E)) (x : E) (st : Res Unit) : Prop where
  rs : RS wr b s st
  fq : Fq W wr b
  rc : VC wr W.heap.size zeroX.toList
  vc : VC wr g [.int .i64 3, .string ⟨#[]⟩, v]
  lo : W.heap.size + 1 ≤ g
  form : ∃ sl n c, v = .slice sl n c
  good : ∀ u t, st = .ok u t → ∃ acc qs m, KY wr (W.heap.size + 1) g v (x :: acc) qs ∧ acc.length ≤ t.fin ∧ s.size - t.fin + 1 ≤ m ∧ sumP s.data.toList f m t acc = R ∧ (acc = [] → isW t [43] = true)
  bad : ∀ p e, st = .bad p e → R = .bad p e
/-- so much is left -/
def mr (s : ByteArray) (b : Nat) (W : World) : Nat := if intOf ((W.cell? ⟨b, 5, none⟩).getD (.int .i64 0)) = 0 then s.size + 1 - (intOf ((W.cell? ⟨b, 4, none⟩).getD (.int .i64 0))).toNat else 0
theorem mr_ok {W : World} {b : Nat} {s : ByteArray} {u : Unit} {t : Tk} (h : RS W b s (.ok u t)) : mr s b W = s.size + 1 - t.fin := by
  obtain ⟨⟨pl, hX⟩, -⟩ := h
  unfold mr
  rw [hX.c5, hX.c4]
  simp [intOf]
theorem mr_bad {W : World} {b : Nat} {s : ByteArray} {p : Nat} {e : Int} (h : RS W b s (.bad p e)) : mr s b W = 0 := by
  obtain ⟨⟨k, σ, q, f, hX, -⟩, h2⟩ := h
  unfold mr
  rw [hX.c5]
  simp [intOf, h2]
theorem Fq.made {W W1 : World} {b : Nat} (h : Fq W W1 b) (hb : b < W.heap.size) (o : Obj) : Fq W (W1.alloc o) b := h.step hb ((Below.refl _ _).alloc (Nat.le_refl _) _)
theorem RS.made {W : World} {b : Nat} {s : ByteArray} {st : Res Unit} (h : RS W b s st) (o : Obj) : RS (W.alloc o) b s st := h.keep ((Below.refl _ _).alloc (Nat.le_refl _) _)
theorem RS.far {W : World} {b : Nat} {s : ByteArray} {st : Res Unit} (h : RS W b s st) {g : Nat} (hg : b ≠ g) (j : Nat) (v : Value) : RS (W.setCell ⟨g, j, none⟩ v) b s st := h.block (by simp [World.setCell]) (Below.heap_setCell _ _ _ _ hg)
theorem RS.put3 {W : World} {b : Nat} {s : ByteArray} {st : Res Unit} (h : RS W b s st) {g : Nat} (hg : b ≠ g) (x y z : Value) : RS (Rc.put3 W g x y z) b s st := ((h.far hg 0 x).far hg 1 y).far hg 2 z
theorem EX.start {W w1 : World} {b : Nat} {s : ByteArray} {f : Tk → Res E} {x : E} {t1 : Tk} {k : Int} {σ : ByteArray} {sl : Option Addr} {n c : Nat} (hlt : b < W.heap.size) (hsz : W.heap.size + 1 ≤ w1.heap.size)
    (hrs : RS (w1.alloc (.cells #[.int .i64 k, .string σ, .slice sl n c] 26)) b s (.ok () t1)) (hF : Fq W (w1.alloc (.cells #[.int .i64 k, .string σ, .slice sl n c] 26)) b)
    (hR1 : VC (w1.alloc (.cells #[.int .i64 k, .string σ, .slice sl n c] 26)) W.heap.size zeroX.toList) (hrep : RepX w1 (fun j => W.heap.size + 1 ≤ j ∧ j < w1.heap.size) x (.agg #[.int .i64 k, .string σ, .slice sl n c])) (hw : isW t1 [43] = true) :
    EX W (((w1.alloc (.cells #[.int .i64 k, .string σ, .slice sl n c] 26)).alloc (.cells #[.int .i64 k, .string σ, .slice sl n c] 26)).alloc (.cells #[.int .i64 3, .string ⟨#[]⟩, .slice (some ⟨w1.heap.size + 1, 0, none⟩) 1 1] 26)) b s f (w1.heap.size + 1 + 1) (.slice (some ⟨w1.heap.size + 1, 0, none⟩) 1 1) (sumP s.data.toList f (s.size + 1) t1 []) x (.ok () t1) := by
  have hv := VC.made ((w1.alloc (.cells #[.int .i64 k, .string σ, .slice sl n c] 26)).alloc (.cells #[.int .i64 k, .string σ, .slice sl n c] 26)) [.int .i64 3, .string ⟨#[]⟩, .slice (some ⟨w1.heap.size + 1, 0, none⟩) 1 1] 26
  rw [show ((w1.alloc (.cells #[.int .i64 k, .string σ, .slice sl n c] 26)).alloc (.cells #[.int .i64 k, .string σ, .slice sl n c] 26)).heap.size = w1.heap.size + 1 + 1 by simp] at hv
  refine ⟨(hrs.made _).made _, (hF.made hlt _).made hlt _, (hR1.alloc _).alloc _, hv, by omega, ⟨_, _, _, rfl⟩, fun u t ht => ?_, fun p e hb => by cases hb⟩
  cases ht
  exact ⟨[], [(.int .i64 k, .string σ, .slice sl n c)], s.size + 1, KY.first (q := (.int .i64 k, .string σ, .slice sl n c)) (r := (.int .i64 3, .string ⟨#[]⟩, .slice (some ⟨w1.heap.size + 1, 0, none⟩) 1 1)) hsz ⟨rfl, rfl, rfl⟩ hrep rfl, Nat.zero_le _, by omega, rfl, fun _ => hw⟩
theorem lit3' (W : World) (o : Obj) (x y z : Value) (t : TypeId) {h : Nat} (hh : h = W.heap.size + 1) : ∀ j u, [x, y, z][j]? = some u → ((W.alloc o).alloc (.cells #[x, y, z] t)).cell? ((⟨h, 0, none⟩ : Addr).add j) = some u := by
  subst hh
  have := lit3 (W.alloc o) x y z t
  rw [show (W.alloc o).heap.size = W.heap.size + 1 by simp] at this
  exact this
theorem bind_assoc {α β γ : Type} (r : Res α) (F : α → Tk → Res β) (G : β → Tk → Res γ) : (r.bind F).bind G = r.bind fun x t => (F x t).bind G := by cases r <;> rfl
theorem unit_ok {α : Type} {R : Res α} {u : Unit} {t : Tk} (h : unitR R = .ok u t) : ∃ x, R = .ok x t := by
  cases R with
  | ok x t' => cases h; exact ⟨x, rfl⟩
  | bad p e => cases h
theorem unit_bad {α : Type} {R : Res α} {p : Nat} {e : Int} (h : unitR R = .bad p e) : R = .bad p e := by
  cases R with
  | ok x t' => cases h
  | bad p' e' => cases h; rfl
theorem sum_step' {s : List UInt8} {f : Tk → Res E} {m : Nat} {t : Tk} {acc : List E} (h : isW t [43] = true) : sumP s f (m + 1) t acc = ((stepT s t).bind fun _ t1 => f t1).bind fun y t2 => sumP s f m t2 (acc ++ [y]) := by
  rw [sum_step h, bind_assoc]
theorem has_ok {st : Res Unit} {w : List UInt8} (h : hasS st w = true) : ∃ t, st = .ok () t ∧ isW t w = true := by
  cases st with
  | ok u t => exact ⟨t, rfl, h⟩
  | bad p e => cases h
/-- the sum is read -/
theorem EX.done {W wr : World} {b : Nat} {s : ByteArray} {f : Tk → Res E} {g : Nat} {sl : Option Addr} {n c : Nat} {R : Res (List E)} {x : E} {st : Res Unit} (L : EX W wr b s f g (.slice sl n c) R x st) (hlt : b < W.heap.size) (hh : hasS st [43] = false) :
    PE W b s (R.bind fun l t2 => .ok (catE x l) t2) (.returned (.agg #[.int .i64 3, .string ⟨#[]⟩, .slice sl n c])) (put3 wr W.heap.size (.int .i64 3) (.string ⟨#[]⟩) (.slice sl n c)) := by
  have hlo := L.lo
  have hrs := L.rs.put3 (g := W.heap.size) (by omega) (.int .i64 3) (.string ⟨#[]⟩) (.slice sl n c)
  have hfq := L.fq.put3 hlt (Nat.le_refl _) (.int .i64 3) (.string ⟨#[]⟩) (.slice sl n c)
  cases st with
  | bad p e =>
    have hR := L.bad p e rfl
    subst hR
    exact ⟨_, _, _, _, _, rfl, ⟨hfq, hrs⟩, fun x t h => by cases h⟩
  | ok u t =>
    obtain ⟨acc, qs, m, hk, h1, h2, h3, h4⟩ := L.good u t rfl
    have hw : isW t [43] = false := hh
    obtain ⟨m, rfl⟩ : ∃ m', m = m' + 1 := ⟨m - 1, by omega⟩
    rw [sum_stop hw] at h3
    subst h3
    have h0 : acc ≠ [] := fun e => by rw [h4 e] at hw; cases hw
    refine ⟨_, _, _, _, _, rfl, ⟨hfq, hrs⟩, fun x t h => ?_⟩
    simp only [Res.bind, Res.ok.injEq] at h
    obtain ⟨rfl, rfl⟩ := h
    unfold catE
    rw [if_neg h0]
    exact (hk.list 3 ⟨#[]⟩).move fun j hj => ⟨⟨by omega, by rw [put3_size]; exact hj.2.1⟩, put3_heap _ _ _ _ _ (by omega)⟩
/-- one term more -/
theorem EX.next {W wr w2 w3 w5 : World} {b : Nat} {s : ByteArray} {f : Tk → Res E} {g : Nat} {v : Value} {R : Res (List E)} {x : E} {t : Tk} (L : EX W wr b s f g v R x (.ok () t)) (hlt : b < W.heap.size) (hp : Pg f) (hw : isW t [43] = true)
    (hF2 : Fq wr w2 b) (hF3 : RF w2 b s (unitR ((stepT s.data.toList t).bind fun _ t => f t)) w3) {k : Int} {σ : ByteArray} {sl : Option Addr} {n c : Nat}
    (hrep : ∀ y t2, ((stepT s.data.toList t).bind fun _ t => f t) = .ok y t2 → RepX w3 (fun j => w2.heap.size ≤ j ∧ j < w3.heap.size) y (.agg #[.int .i64 k, .string σ, .slice sl n c])) {o1 o2 : Obj} {g' cap N : Nat} {qs : List Q3} {acc : List E} {m : Nat}
    (hk : KY wr (W.heap.size + 1) g v (x :: acc) qs) (hfew : acc.length ≤ t.fin) (hm : s.size - t.fin + 1 ≤ m) (he : sumP s.data.toList f m t acc = R) (hN : N = (x :: acc).length)
    (hown : w5.ownsRow (W.heap.size + 1) 26 3 (.slice (some ⟨g', 0, none⟩) (N + 1) cap) (N + 1) (row3 qs ++ [.int .i64 k, .string σ, .slice sl n c]))
    (hgr : ((w3.alloc o1).alloc o2).grownBy w5 v.ownBlock) (hat : v.ownBlock = some g' ∨ g' = w3.heap.size + 2) :
    EX W (w5.setCell ⟨g, 2, none⟩ (.slice (some ⟨g', 0, none⟩) (N + 1) cap)) b s f g (.slice (some ⟨g', 0, none⟩) (N + 1) cap) R x (unitR ((stepT s.data.toList t).bind fun _ t => f t)) ∧
      mr s b (w5.setCell ⟨g, 2, none⟩ (.slice (some ⟨g', 0, none⟩) (N + 1) cap)) < mr s b wr := by
  subst hN
  have hlo := L.lo
  have hgl := L.vc.lt
  have hv : ∀ j, v.ownBlock = some j → W.heap.size + 1 ≤ j ∧ j < wr.heap.size := fun j hj => hk.own.lt j hj
  have s2 := hF2.below.size
  have s3 := hF3.fq.below.size
  have hF : Fq wr w3 b := hF2.trans hF3.fq
  have hsz : w3.heap.size + 2 ≤ w5.heap.size := by have := hgr.size; simpa using this
  have hold : ∀ j, j < w3.heap.size → ((w3.alloc o1).alloc o2).heap[j]? = w3.heap[j]? := fun j hj => by
    rw [heap_alloc_old _ _ (by simp; omega), heap_alloc_old _ _ hj]
  have hblk : ∀ j, j < w3.heap.size → v.ownBlock ≠ some j → w5.heap[j]? = w3.heap[j]? := fun j hj hne =>
    (hgr.block j (by simp; omega) (fun e => hne e.symm)).trans (hold j hj)
  have hb1 : v.ownBlock ≠ some b := fun e => by have := hv b e; omega
  have hb2 : v.ownBlock ≠ some W.heap.size := fun e => by have := hv _ e; omega
  have hbl := L.rs.lt
  have hrs5 : RS w5 b s (unitR ((stepT s.data.toList t).bind fun _ t => f t)) := hF3.rs.block (by omega) (hblk b (by omega) hb1)
  have hF5 : Fq W w5 b := ((((L.fq.trans hF).made hlt o1).made hlt o2)).grown hlt hgr (fun j hj => by have := hv j hj; omega)
  have hset : ∀ j, j ≠ g → (w5.setCell ⟨g, 2, none⟩ (.slice (some ⟨g', 0, none⟩) ((x :: acc).length + 1) cap)).heap[j]? = w5.heap[j]? := fun j hj => Below.heap_setCell _ _ _ _ hj
  have hsz5 : (w5.setCell ⟨g, 2, none⟩ (.slice (some ⟨g', 0, none⟩) ((x :: acc).length + 1) cap)).heap.size = w5.heap.size := by simp [World.setCell]
  have hrs6 := hrs5.far (g := g) (by omega) 2 (.slice (some ⟨g', 0, none⟩) ((x :: acc).length + 1) cap)
  have hrc := L.rc.fq hF (by omega)
  have hvc := L.vc.fq hF (by omega)
  have hvc5 : VC w5 g _ := hvc.block (by omega) (hblk g (by omega) hk.ng)
  refine ⟨⟨hrs6, hF5.new hlt _ (by show W.heap.size ≤ g; omega) _, (hrc.block (w1 := w5) (by omega) (hblk W.heap.size (by omega) hb2)).block (by omega) (hset _ (by omega)), hvc5.set 2 (by simp) _, hlo, ⟨_, _, _, rfl⟩, fun u t2 h2 => ?_, fun p e h2 => ?_⟩, ?_⟩
  · obtain ⟨y, hy⟩ := unit_ok h2
    obtain ⟨u1, t1, h1, h3⟩ := bind_ok hy
    have p1 := step_prog h1
    have p2 := hp _ _ _ h3
    have p3 := p1.2 p2.1
    have htf := L.rs.2.1.fin
    have hfv : t2.fin ≤ s.size := by
      rw [hy] at hrs5
      exact hrs5.2.1.fin
    obtain ⟨m', rfl⟩ : ∃ m', m = m' + 1 := ⟨m - 1, by omega⟩
    refine ⟨acc ++ [y], qs ++ [(.int .i64 k, .string σ, .slice sl n c)], m', ?_, by simp; omega, by omega, ?_, fun e => by simp at e⟩
    · have := hk.snoc (W := w3.alloc o1) (W' := w5) (q := (.int .i64 k, .string σ, .slice sl n c)) (t := y) (g := g') (cap := cap) (H := w3.heap.size + 2) hgl (by simp; omega) (fun j hj1 hj2 _ => ?_) (by omega) ⟨rfl, rfl, rfl⟩ ((hrep y t2 hy).move fun j hj => ⟨⟨by omega, by simp; omega⟩, heap_alloc_old _ _ hj.2⟩) (by simp) ⟨by simp; omega, fun j hj hne => ?_⟩ hat hown
      · exact this.same (by omega) (fun j _ _ hj => hset j hj)
      · rw [heap_alloc_old _ _ (by omega), hF.block j hj2 (by omega)]
      · rw [hgr.block j (by simp at hj ⊢; omega) (fun e => hne e.symm), heap_alloc_old _ _ hj]
    · rw [← he, sum_step' hw, hy]
      rfl
  · obtain ⟨m', rfl⟩ : ∃ m', m = m' + 1 := ⟨m - 1, by omega⟩
    rw [← he, sum_step' hw, unit_bad h2]
    rfl
  · rw [mr_ok L.rs]
    have htf := L.rs.2.1.fin
    cases hu : unitR ((stepT s.data.toList t).bind fun _ t => f t) with
    | bad p e =>
      rw [hu] at hrs6
      rw [mr_bad hrs6]
      omega
    | ok u t2 =>
      obtain ⟨y, hy⟩ := unit_ok hu
      obtain ⟨u1, t1, h1, h3⟩ := bind_ok hy
      have p1 := step_prog h1
      have p2 := hp _ _ _ h3
      have p3 := p1.2 p2.1
      rw [hu] at hrs6
      rw [mr_ok hrs6]
      have := hrs6.2.1.fin
      omega
set_option maxHeartbeats 1000000 in
theorem rexpr_any (s : ByteArray) (hs : s.size ≤ 4096) (dp : Int) (f : Tk → Res E) (hp : Pg f) (hf : TermR s dp f) (W : World) (b : Nat) (st : Res Unit) (h : RS W b s st) :
    Calls Try.prog 32 #[.pointer (some ⟨b, 0, none⟩), .int .i64 dp] W fun e W' => PE W b s (st.bind fun _ t => exprP s.data.toList f t) e W' := by
  obtain ⟨i0, hi0, hz0, hz1, hz2⟩ := info_parts info_x
  have hA : Below W.heap.size W (W.alloc (.cells zeroX 26)) := (Below.refl _ _).alloc (Nat.le_refl _) _
  have hterm := hf _ b st (h.keep hA)
  have HR0 := Lib.hid (VC.made W zeroX.toList 26)
  have hlt := h.lt
  have hzz := Lib.size_eq s
  have HFA := Lib.hid (Fq.of_below hA (Nat.le_of_lt hlt))
  clear hA h
  go_enter Try.func32, Try.ntmps32
  go_wp2_with fail
  refine hterm.mono ?_
  rintro e w1 ⟨k, σ, sl, n, c, rfl, hF, hrep⟩
  clear hterm
  have hB : Below w1.heap.size w1 (w1.alloc (.cells #[.int .i64 k, .string σ, .slice sl n c] 26)) := (Below.refl _ _).alloc (Nat.le_refl _) _
  have hV := VC.made w1 [.int .i64 k, .string σ, .slice sl n c] 26
  change VC (w1.alloc (.cells #[.int .i64 k, .string σ, .slice sl n c] 26)) _ _ at hV
  have hR1 := (HR0.out.fq hF.fq (by omega)).keep hB
  have HSZ := Lib.hid hF.fq.below.size
  have g0 := hV.at 0 (by simp)
  have g1 := hV.at 1 (by simp)
  have g2 := hV.at 2 (by simp)
  have q0 := hR1.at 0 (by simp)
  have q1 := hR1.at 1 (by simp)
  have q2 := hR1.at 2 (by simp)
  have qf := hR1.fz
  have hh := rhas_any _ b s _ ⟨#[43]⟩ (hF.rs.keep hB)
  have HF := Lib.hid (HFA.out.trans (hF.fq.trans (Fq.of_below hB (Nat.le_of_lt hF.rs.lt))))
  have HRS := Lib.hid (hF.rs.keep hB)
  have HREP := Lib.hid hrep
  have HR1 := Lib.hid hR1
  clear hF hB hV hR1 hrep
  cases hz : hasS (unitR (st.bind fun _ t => f t)) [43] with
  | false =>
    rw [show hasS (unitR (st.bind fun _ t => f t)) (⟨#[43]⟩ : ByteArray).data.toList = false from hz] at hh
    have HE := Lib.hid (expr_none (s := s.data.toList) hz)
    clear hz
    go_wp2_with fail
    refine hh.mono ?_
    rintro e w2 ⟨rfl, rfl⟩
    clear hh
    go_wp2_with fail
    refine bodyPost_ret (v := .agg #[.int .i64 k, .string σ, .slice sl n c]) (by simp [results, Try.results32, go_sem, q0, q1, q2]) rfl ?_
    rw [HE.out]
    have hsz : W.heap.size + 1 ≤ w1.heap.size := by have := HSZ.out; simpa using this
    refine ⟨k, σ, sl, n, c, rfl, ⟨HF.out.put3 hlt (Nat.le_refl _) _ _ _, HRS.out.put3 (by omega) _ _ _⟩, fun x t hx => ?_⟩
    refine (HREP.out x t hx).move fun j hj => ⟨?_, ?_⟩
    · have h1 : W.heap.size + 1 ≤ j := by have := hj.1; simpa using this
      have h2 := hj.2
      exact ⟨by omega, by rw [put3_size]; simp; omega⟩
    · have h1 : W.heap.size + 1 ≤ j := by have := hj.1; simpa using this
      rw [put3_heap _ _ _ _ _ (by omega), heap_alloc_old _ _ hj.2]
  | true =>
    rw [show hasS (unitR (st.bind fun _ t => f t)) (⟨#[43]⟩ : ByteArray).data.toList = true from hz] at hh
    obtain ⟨x, t1, hx, hw, he⟩ := expr_more (s := s.data.toList) hz
    have hsz : W.heap.size + 1 ≤ w1.heap.size := by have := HSZ.out; simpa using this
    rw [← hzz] at he
    have HE := Lib.hid he
    have hrep := HREP.out x t1 hx
    have HRS := Lib.hid (show RS (w1.alloc (.cells #[.int .i64 k, .string σ, .slice sl n c] 26)) b s (.ok () t1) by have := HRS.out; rw [hx] at this; exact this)
    have HL := Lib.hid (EX.start (f := f) hlt hsz HRS.out HF.out HR1.out (hrep.sub fun j hj => ⟨by have := hj.1; simpa using this, hj.2⟩) hw)
    clear hz hx hw he hrep HREP HR1 HF
    go_wp2_with fail
    refine hh.mono ?_
    rintro e w2 ⟨rfl, rfl⟩
    clear hh
    clear HRS
    go_wp2_with fail
    generalize sumP s.data.toList f (s.size + 1) t1 [] = R at *
    clear q0 q1 q2 qf g0 g1 g2
    generalize hg : w1.heap.size + 1 + 1 = g at *
    clear hg hsz HSZ
    go_loopw [] (fun wr => ∃ v st, EX W wr b s f g v R x st) (fun wr => mr s b wr)
    case atStart => exact ⟨_, _, HL.out⟩
    case round =>
      obtain ⟨v, st, L⟩ := hrel
      clear HL
      obtain ⟨slv, nv, cv, rfl⟩ := L.form
      have hh := rhas_any wr b s st ⟨#[43]⟩ L.rs
      cases hz : hasS st [43] with
      | false =>
        rw [show hasS st (⟨#[43]⟩ : ByteArray).data.toList = false from hz] at hh
        have hD := L.done hlt hz
        have q0 := L.rc.at 0 (by simp)
        have q1 := L.rc.at 1 (by simp)
        have q2 := L.rc.at 2 (by simp)
        have qf := L.rc.fz
        have g0 := L.vc.at 0 (by simp)
        have g1 := L.vc.at 1 (by simp)
        have g2 := L.vc.at 2 (by simp)
        have HD := Lib.hid hD
        clear hz L hD
        go_wp2_with fail
        refine hh.mono ?_
        rintro e w2 ⟨rfl, rfl⟩
        clear hh
        go_wp2_with fail
        refine bodyPost_ret (v := .agg #[.int .i64 3, .string ⟨#[]⟩, .slice slv nv cv]) (by simp [results, Try.results32, go_sem, q0, q1, q2]) rfl ?_
        rw [HE.out]
        exact HD.out
      | true =>
        rw [show hasS st (⟨#[43]⟩ : ByteArray).data.toList = true from hz] at hh
        obtain ⟨t, rfl, hw⟩ := has_ok hz
        have hst := rstep_any wr b s (.ok () t) hs L.rs
        obtain ⟨acc, qs, m, hk, hfew, hm, he, -⟩ := L.good () t rfl
        have HL := Lib.hid L
        have HK := Lib.hid hk
        have HX := Lib.hid (And.intro hfew (And.intro hm he))
        have HW := Lib.hid hw
        obtain ⟨slv', cv', hv'⟩ := own_form hk.own
        simp only [Value.slice.injEq] at hv'
        obtain ⟨-, hnv, -⟩ := hv'
        have HNV := Lib.hid hnv
        have hfe : nv ≤ 4097 := by
          have := L.rs.2.1.fin
          rw [hnv]
          simp only [List.length_cons]
          omega
        have hw0 := hk.own
        rw [← hnv] at hw0
        clear hz hw hfew hm he hnv
        go_wp2_with fail
        refine hh.mono ?_
        rintro e w2 ⟨rfl, rfl⟩
        clear hh
        go_wp2_with fail
        refine hst.mono ?_
        rintro e w2 ⟨rfl, hF2⟩
        clear hst
        have hterm := hf w2 b _ hF2.rs
        go_wp2_with fail
        refine hterm.mono ?_
        rintro e w3 ⟨k', σ', sl', n', c', rfl, hF3, hrep⟩
        clear hterm
        have hF := hF2.fq.trans hF3.fq
        have hbs : b < W.heap.size + 1 := by omega
        have hown := (own_alloc hw0 hbs hF (.cells #[.int .i64 k', .string σ', .slice sl' n' c'] 26)).alloc (.cells #[.int .i64 k', .string σ', .slice sl' n' c'] 26)
        have hsz : W.heap.size + 1 ≤ ((w3.alloc (.cells #[.int .i64 k', .string σ', .slice sl' n' c'] 26)).alloc (.cells #[.int .i64 k', .string σ', .slice sl' n' c'] 26)).heap.size := by
          have a1 := HL.out.fq.below.size
          have a2 := hF.below.size
          have a3 := HL.out.lo
          have a4 := HL.out.vc.lt
          simp; omega
        have hV := ((HL.out.vc.fq hF (by have := HL.out.lo; omega)).alloc (.cells #[.int .i64 k', .string σ', .slice sl' n' c'] 26))
        have g0 := hV.at 0 (by simp)
        have g1 := hV.at 1 (by simp)
        have g2 := hV.at 2 (by simp)
        have gf := hV.fz
        have hV2 := hV.alloc (.cells #[.int .i64 k', .string σ', .slice sl' n' c'] 26)
        have HNG := Lib.hid hk.ng
        clear hV L hk hF hbs hw0
        go_wp2_with (first
          | (at_builtin; refine wpList_append_lies _ rfl _ _ 24 rfl (W.heap.size + 1) 26 i0 _ 3 48 Try.underlying24 hi0 hz0 hz1 hz2 rfl (by decide) (.slice slv nv cv) nv _ rfl hown ⟨w3.heap.size + 1, 0, none⟩ 1 1 [.int .i64 k', .string σ', .slice sl' n' c'] rfl rfl (lit3' _ _ _ _ _ _ rfl) (one3 ⟨rfl, rfl, rfl⟩) (by decide) ?c3 ?c4 ?c5 (w3.heap.size + 2) (by simp) ?_))
        case c3 => unfold maxLen; omega
        case c4 => omega
        case c5 => exact hsz
        intro g' cap w5 hown2 hgr hat hlt2
        have hN := HL.out.next hlt hp HW.out hF2.fq hF3 hrep HK.out HX.out.1 HX.out.2.1 HX.out.2.2 HNV.out hown2 hgr hat
        have hV5 := hV2.block (w1 := w5) (by have := hgr.size; have := hV2.lt; omega) (hgr.block g hV2.lt (fun e => HNG.out e.symm))
        have g0 := hV5.at 0 (by simp)
        have g1 := hV5.at 1 (by simp)
        have g2 := hV5.at 2 (by simp)
        have gf := hV5.fz
        have HN := Lib.hid hN
        clear hN hown2 hgr hat hlt2 hown hrep hF2 hF3 hV2 hV5 hsz HL HK
        go_wp2_with fail
        go_roundw
        case rel => exact ⟨_, _, HN.out.1⟩
        case measure => exact HN.out.2
end Rc
end Go.Proofs.Ytcigggffaofkhaa
