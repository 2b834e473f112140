/-
  The state of a source's reading.
-/
import Derived.Test.YtcigggffaofkhaaRcW
namespace Go.Proofs.Ytcigggffaofkhaa
open Go.RowKit
namespace Rc

abbrev zeroS : Array Value := #[.int .i64 0, .string ⟨#[]⟩, .slice none 0 0, .int .i64 0, .string ⟨#[]⟩, .slice none 0 0, .slice none 0 0]
/-- an expression's value -/
structure XV where
  k : Int
  σ : ByteArray
  sl : Option Addr
  n : Nat
  c : Nat
abbrev XV.val (a : XV) : Value := .agg #[.int .i64 a.k, .string a.σ, .slice a.sl a.n a.c]
/-- within a source's call: the reader, the result's block, the variable's block g -/
structure OX (W wr : World) (b : Nat) (s : ByteArray) (t : Tk) (g : Nat) (vs : List Value) : Prop where
  rk : RK wr b s t 0
  tv : TV s t
  fq : Fq W wr b
  lo : W.heap.size + 1 ≤ g
  lt : g < wr.heap.size
  bx : wr.heap[W.heap.size]? = some (.cells zeroS 29 (0, 0))
  cs : ∀ j v, vs[j]? = some v → wr.cell? ⟨g, j, none⟩ = some v
  fz : ∀ j, wr.frozen? ⟨g, j, none⟩ = false
section
variable {W wr w1 : World} {b g : Nat} {s : ByteArray} {t t1 : Tk} {vs : List Value}
theorem OX.start (hlt : b < W.heap.size) (hk : RK w1 b s t 0) (hv : TV s t) (hf : Fq (W.alloc (.cells zeroS 29)) w1 b) : OX W (w1.alloc (.cells zeroS 29)) b s t w1.heap.size zeroS.toList := by
  have hs := hf.below.size
  have hs : W.heap.size + 1 ≤ w1.heap.size := by simpa using hs
  have hA : Below W.heap.size W (W.alloc (.cells zeroS 29)) := (Below.refl _ _).alloc (Nat.le_refl _) _
  have hB : Below w1.heap.size w1 (w1.alloc (.cells zeroS 29)) := (Below.refl _ _).alloc (Nat.le_refl _) _
  have hn := heap_alloc_new w1 (.cells zeroS 29)
  refine ⟨hk.keep hB, hv, ((Fq.of_below hA (Nat.le_of_lt hlt)).trans hf).step hlt hB, hs, by simp, ?_, fun j v hv => ?_, fun j => ?_⟩
  · rw [hB.block _ (by omega), hf.block _ (by simp) (by omega)]
    exact heap_alloc_new W _
  · simp only [World.cell?, hn]
    simpa using hv
  · simp only [World.frozen?, hn]
    rfl
theorem OX.read (h : OX W wr b s t g vs) (hlt : b < W.heap.size) (hk : RK w1 b s t1 0) (hv : TV s t1) (hf : Fq wr w1 b) : OX W w1 b s t1 g vs := by
  have h1 := h.lo
  have h2 := h.lt
  have hg := hf.block g h2 (by omega)
  exact ⟨hk, hv, h.fq.trans hf, h1, Nat.lt_of_lt_of_le h2 hf.below.size, (hf.block _ (by omega) (by omega)).trans h.bx, fun j v hv => (World.cell?_of_block hg).trans (h.cs j v hv), fun j => (World.frozen?_of_block hg).trans (h.fz j)⟩
theorem OX.drewN (h : OX W wr b s t g vs) (n : Nat) : OX W (wr.drewN n) b s t g vs := ⟨h.rk.drewN n, h.tv, h.fq.drew n, h.lo, h.lt, h.bx, h.cs, h.fz⟩
theorem OX.keep (h : OX W wr b s t g vs) (hlt : b < W.heap.size) (hb : Below wr.heap.size wr w1) : OX W w1 b s t g vs := by
  have h1 := h.rk.lt
  exact h.read hlt (h.rk.keep hb) h.tv (Fq.of_below hb (by omega))
theorem OX.set (h : OX W wr b s t g vs) (hlt : b < W.heap.size) (j : Nat) (hj : j < vs.length) (v : Value) : OX W (wr.setCell ⟨g, j, none⟩ v) b s t g (vs.set j v) := by
  have h1 := h.lo
  refine ⟨h.rk.block (by simp [World.setCell]) (Below.heap_setCell _ _ _ _ (by show b ≠ g; omega)), h.tv, h.fq.new hlt _ (by show W.heap.size ≤ g; omega) v, h1, by simpa [World.setCell] using h.lt, (Below.heap_setCell _ _ _ _ (by show W.heap.size ≠ g; omega)).trans h.bx, fun i u hu => ?_, fun i => ?_⟩
  · rw [List.getElem?_set] at hu
    split at hu
    · rename_i e
      subst e
      cases hu
      exact World.cell?_setCell_same _ _ _ (h.cs j _ (List.getElem?_eq_getElem hj))
    · rename_i e
      rw [World.cell?_setCell_other _ _ _ _ (by simp)]
      exact h.cs i u hu
  · rw [World.frozen?_setCell]; exact h.fz i
theorem OX.at (h : OX W wr b s t g vs) (j : Nat) (hj : j < vs.length) : wr.cell? ⟨g, j, none⟩ = some vs[j] := h.cs j _ (List.getElem?_eq_getElem hj)
end
theorem own_alloc' {wr w1 : World} {B n b sz : Nat} {e : TypeId} {v : Value} {xs : List Value} (k : wr.ownsRow B e sz v n xs) (hb : b < B) (hfq : Fq wr w1 b) (o : Obj) : (w1.alloc o).ownsRow B e sz v n xs :=
  (own_block k (fun j hj => hfq.block j (k.lt j hj).2 (by have := (k.lt j hj).1; omega))).alloc o
/-- the seven cells of a source's variable -/
abbrev out7 (a1 a2 : XV) (v : Value) : List Value := [.int .i64 a1.k, .string a1.σ, .slice a1.sl a1.n a1.c, .int .i64 a2.k, .string a2.σ, .slice a2.sl a2.n a2.c, v]
/-- the state at a round's head -/
structure SX (W wr : World) (b : Nat) (s : ByteArray) (f : Tk → Res E) (g : Nat) (x1 x2 : E) (a1 a2 : XV) (v : Value) (ts : List (Int × E × E)) (qs : List F7) (t : Tk) (m : Nat) (R : Res (List (Int × E × E))) : Prop where
  ox : OX W wr b s t g (out7 a1 a2 v)
  r1 : RepX wr (fun k => g + 1 ≤ k ∧ k < wr.heap.size ∧ v.ownBlock ≠ some k) x1 a1.val
  r2 : RepX wr (fun k => g + 1 ≤ k ∧ k < wr.heap.size ∧ v.ownBlock ≠ some k) x2 a2.val
  kf : KF wr (g + 1) v ts qs
  few : ts.length ≤ 20
  fuel : s.size - t.fin + 1 ≤ m
  eq : fieldsP s.data.toList f m t ts = R
theorem fields_end {s : List UInt8} {f : Tk → Res E} {m : Nat} {t : Tk} {ts : List (Int × E × E)} (h : t.kind = 0) : fieldsP s f (m + 1) t ts = .ok ts t := by unfold fieldsP; rw [if_pos h]
theorem fields_no {s : List UInt8} {f : Tk → Res E} {m : Nat} {t : Tk} {ts : List (Int × E × E)} (h : t.kind ≠ 0) (h2 : fieldK t = 0) : fieldsP s f (m + 1) t ts = .bad t.pl 50 := by unfold fieldsP; rw [if_neg h, if_pos h2]
theorem fields_many {s : List UInt8} {f : Tk → Res E} {m : Nat} {t : Tk} {ts : List (Int × E × E)} (h : t.kind ≠ 0) (h2 : fieldK t ≠ 0) (h3 : ts.length = 20) : fieldsP s f (m + 1) t ts = .bad t.pl 13 := by unfold fieldsP; rw [if_neg h, if_neg h2, if_pos h3]
theorem fields_step {s : List UInt8} {f : Tk → Res E} {m : Nat} {t : Tk} {ts : List (Int × E × E)} (h : t.kind ≠ 0) (h2 : fieldK t ≠ 0) (h3 : ts.length ≠ 20) :
    fieldsP s f (m + 1) t ts = (stepT s t).bind fun _ t1 => (f t1).bind fun a t2 => (f t2).bind fun b t3 => fieldsP s f m t3 (ts ++ [((fieldK t : Int), a, b)]) := by rw [fieldsP, if_neg h, if_neg h2, if_neg h3]
theorem SX.next {W wr ws w2 w3 w4 : World} {b : Nat} {s : ByteArray} {f : Tk → Res E} {g : Nat} {x1 x2 : E} {a1 a2 : XV} {v : Value} {ts : List (Int × E × E)} {qs : List F7} {t : Tk} {m : Nat} {R : Res (List (Int × E × E))} (L : SX W wr b s f g x1 x2 a1 a2 v ts qs t m R) (hlt : b < W.heap.size) (hp : Pg f)
    (hk0 : t.kind ≠ 0) (hfk : fieldK t ≠ 0) (h20 : ts.length ≠ 20) {u : Unit} {t1 t2 t3 : Tk} {y z : E} (h1 : stepT s.data.toList t = .ok u t1) (h2 : f t1 = .ok y t2) (h3 : f t2 = .ok z t3) (hv3 : TV s t3) (hrk : RK w3 b s t3 0) {p q : XV} {kd : Int} (hkd : kd = fieldK t)
    (hfs : Fq wr ws b) (hf2 : Fq ws w2 b) (hf3 : Fq w2 w3 b) (hy : RepX w2 (fun j => ws.heap.size ≤ j ∧ j < w2.heap.size) y p.val) (hz : RepX w3 (fun j => w2.heap.size ≤ j ∧ j < w3.heap.size) z q.val)
    {g' cap : Nat} (hown : w4.ownsRow (g + 1) 47 7 (.slice (some ⟨g', 0, none⟩) (ts.length + 1) cap) (ts.length + 1) (row7 qs ++ cells7 (.int .i64 kd, (.int .i64 p.k, .string p.σ, .slice p.sl p.n p.c), (.int .i64 q.k, .string q.σ, .slice q.sl q.n q.c))))
    {o : Array Value} (hgr : (w3.alloc (.cells o 47)).grownBy w4 v.ownBlock) (hat : v.ownBlock = some g' ∨ g' = w3.heap.size + 1) :
    SX W (w4.setCell ⟨g, 6, none⟩ (.slice (some ⟨g', 0, none⟩) (ts.length + 1) cap)) b s f g x1 x2 a1 a2 (.slice (some ⟨g', 0, none⟩) (ts.length + 1) cap) (ts ++ [((fieldK t : Int), y, z)]) (qs ++ [(.int .i64 kd, (.int .i64 p.k, .string p.σ, .slice p.sl p.n p.c), (.int .i64 q.k, .string q.σ, .slice q.sl q.n q.c))]) t3 (m - 1) R ∧ t.fin < t3.fin := by
  have ho := L.ox
  have hlo := ho.lo
  have hgl := ho.lt
  have hv : ∀ j, v.ownBlock = some j → g + 1 ≤ j ∧ j < wr.heap.size := fun j hj => L.kf.own.lt j hj
  have s1 := hfs.below.size
  have s2 := hf2.below.size
  have s3 := hf3.below.size
  have hF : Fq wr w3 b := (hfs.trans hf2).trans hf3
  have hsz : w3.heap.size + 1 ≤ w4.heap.size := by have := hgr.size; simpa using this
  have hblk : ∀ j, j < w3.heap.size → v.ownBlock ≠ some j → w4.heap[j]? = w3.heap[j]? := fun j hj hne =>
    (hgr.block j (by simp; omega) (fun e => hne e.symm)).trans (heap_alloc_old w3 _ hj)
  have hob : ∀ j, v.ownBlock = some j → j ≠ b ∧ j ≠ g ∧ j ≠ W.heap.size := fun j hj => by have := hv j hj; omega
  have ho3 := ho.read hlt hrk hv3 hF
  have hX : Below w3.heap.size w3 (w3.alloc (.cells o 47)) := (Below.refl _ _).alloc (Nat.le_refl _) _
  have ho4 : OX W w4 b s t3 g (out7 a1 a2 v) := by
    have hFW := ho3.fq.step hlt hX
    refine ⟨ho3.rk.block (by omega) (hblk b ho3.rk.lt (fun e => (hob b e).1 rfl)), hv3, ⟨hFW.below.grown hgr (by simp; omega) (fun j hj => by have := hv j hj; omega), fun k hk hne => ?_⟩, hlo, by omega, ?_, fun j u hu => ?_, fun j => ?_⟩
    · rw [hblk k (by omega) (fun e => by have := hv k e; omega)]
      exact ho3.fq.block k hk hne
    · rw [hblk _ (by omega) (fun e => (hob _ e).2.2 rfl)]
      exact ho3.bx
    · rw [World.cell?_of_block (hblk g (by omega) (fun e => (hob _ e).2.1 rfl))]
      exact ho3.cs j u hu
    · rw [World.frozen?_of_block (hblk g (by omega) (fun e => (hob _ e).2.1 rfl))]
      exact ho3.fz j
  have ho5 := ho4.set hlt 6 (by simp) (.slice (some ⟨g', 0, none⟩) (ts.length + 1) cap)
  have h5 : ∀ j, j ≠ g → (w4.setCell ⟨g, 6, none⟩ (.slice (some ⟨g', 0, none⟩) (ts.length + 1) cap)).heap[j]? = w4.heap[j]? := fun j hj => Below.heap_setCell _ _ _ _ hj
  have h5s : (w4.setCell ⟨g, 6, none⟩ (.slice (some ⟨g', 0, none⟩) (ts.length + 1) cap)).heap.size = w4.heap.size := by simp [World.setCell]
  have hob' : (Value.slice (some ⟨g', 0, none⟩) (ts.length + 1) cap).ownBlock = some g' := rfl
  have hstay : ∀ k, (g + 1 ≤ k ∧ k < wr.heap.size ∧ v.ownBlock ≠ some k) → (g + 1 ≤ k ∧ k < (w4.setCell ⟨g, 6, none⟩ (.slice (some ⟨g', 0, none⟩) (ts.length + 1) cap)).heap.size ∧ (Value.slice (some ⟨g', 0, none⟩) (ts.length + 1) cap).ownBlock ≠ some k) ∧ (w4.setCell ⟨g, 6, none⟩ (.slice (some ⟨g', 0, none⟩) (ts.length + 1) cap)).heap[k]? = wr.heap[k]? := fun k hk => by
    refine ⟨⟨hk.1, by omega, fun e => ?_⟩, ?_⟩
    · rw [hob'] at e
      cases e
      rcases hat with hat | hat
      · exact hk.2.2 hat
      · omega
    · rw [h5 k (by omega), hblk k (by omega) hk.2.2, hF.block k (by omega) (by omega)]
  have hkf := L.kf.snoc (W := w3) (W' := w4) (q := (.int .i64 kd, (.int .i64 p.k, .string p.σ, .slice p.sl p.n p.c), (.int .i64 q.k, .string q.σ, .slice q.sl q.n q.c))) (t := ((fieldK t : Int), y, z)) (g := g') (cap := cap) (H := w3.heap.size + 1) (by omega) (fun j hj1 hj2 => hF.block j hj2 (by omega)) (by omega)
    ⟨by rw [hkd], hy.move fun j hj => ⟨⟨by omega, by omega⟩, hf3.block j hj.2 (by have := ho.rk.lt; omega)⟩, hz.sub fun j hj => ⟨by omega, hj.2⟩⟩ (Nat.le_succ _) ⟨by omega, hblk⟩ hat hown
  have p1 := step_prog h1
  have p2 := hp _ _ _ h2
  have p3 := hp _ _ _ h3
  have p4 := p1.2 p2.1
  have hf := L.fuel
  have hvf := hv3.fin
  have hf1 := ho.tv.fin
  have hfe := L.few
  obtain ⟨m', rfl⟩ : ∃ m', m = m' + 1 := ⟨m - 1, by omega⟩
  refine ⟨⟨ho5, L.r1.move hstay, L.r2.move hstay, hkf.same (by omega) (fun j hj1 hj2 => h5 j (by omega)), by simp; omega, by omega, ?_⟩, by omega⟩
  rw [← L.eq, fields_step hk0 hfk h20, h1]
  show _ = (f t1).bind _
  rw [h2]
  show _ = (f t2).bind _
  rw [h3]
  rfl
/-- what a reading of a source answers -/
def valS (W : World) (x : Src) (e : Ending) (W' : World) : Prop := ∃ v, e = .returned v ∧ RepR W' (fun j => W.heap.size ≤ j ∧ j < W'.heap.size) x v
/-- seven cells are stored -/
abbrev put7 (W : World) (g : Nat) (a1 a2 : XV) (v : Value) : World := ((((((W.setCell ⟨g, 0, none⟩ (.int .i64 a1.k)).setCell ⟨g, 1, none⟩ (.string a1.σ)).setCell ⟨g, 2, none⟩ (.slice a1.sl a1.n a1.c)).setCell ⟨g, 3, none⟩ (.int .i64 a2.k)).setCell ⟨g, 4, none⟩ (.string a2.σ)).setCell ⟨g, 5, none⟩ (.slice a2.sl a2.n a2.c)).setCell ⟨g, 6, none⟩ v
theorem put7_heap (W : World) (g : Nat) (a1 a2 : XV) (v : Value) {k : Nat} (h : k ≠ g) : (put7 W g a1 a2 v).heap[k]? = W.heap[k]? := by
  rw [Below.heap_setCell _ _ _ _ h, Below.heap_setCell _ _ _ _ h, Below.heap_setCell _ _ _ _ h, Below.heap_setCell _ _ _ _ h, Below.heap_setCell _ _ _ _ h, Below.heap_setCell _ _ _ _ h, Below.heap_setCell _ _ _ _ h]
theorem put7_size (W : World) (g : Nat) (a1 a2 : XV) (v : Value) : (put7 W g a1 a2 v).heap.size = W.heap.size := by simp [put7, World.setCell]
theorem SX.done {W wr : World} {b : Nat} {s : ByteArray} {f : Tk → Res E} {g : Nat} {x1 x2 : E} {a1 a2 : XV} {sl : Option Addr} {n c : Nat} {ts : List (Int × E × E)} {qs : List F7} {t : Tk} {m : Nat} {R : Res (List (Int × E × E))} (L : SX W wr b s f g x1 x2 a1 a2 (.slice sl n c) ts qs t m R) (hlt : b < W.heap.size) :
    RepR (put7 wr W.heap.size a1 a2 (.slice sl n c)) (fun j => W.heap.size ≤ j ∧ j < (put7 wr W.heap.size a1 a2 (.slice sl n c)).heap.size) ⟨x1, x2, ts⟩ (.agg #[.int .i64 a1.k, .string a1.σ, .slice a1.sl a1.n a1.c, .int .i64 a2.k, .string a2.σ, .slice a2.sl a2.n a2.c, .slice sl n c]) ∧ RK (put7 wr W.heap.size a1 a2 (.slice sl n c)) b s t 0 ∧ Fq W (put7 wr W.heap.size a1 a2 (.slice sl n c)) b := by
  have hlo := L.ox.lo
  have hst : ∀ k, (g + 1 ≤ k ∧ k < wr.heap.size) → (W.heap.size ≤ k ∧ k < (put7 wr W.heap.size a1 a2 (.slice sl n c)).heap.size) ∧ (put7 wr W.heap.size a1 a2 (.slice sl n c)).heap[k]? = wr.heap[k]? := fun k hk =>
    ⟨⟨by omega, by rw [put7_size]; exact hk.2⟩, put7_heap _ _ _ _ _ (by omega)⟩
  obtain ⟨h1, h2⟩ := L.kf.fs
  refine ⟨⟨_, _, _, _, _, _, _, _, _, _, _, _, _, rfl, L.r1.move fun k hk => hst k ⟨hk.1, hk.2.1⟩, L.r2.move fun k hk => hst k ⟨hk.1, hk.2.1⟩, h1.move hst, h2⟩, L.ox.rk.block (by rw [put7_size]; exact Nat.le_refl _) (put7_heap _ _ _ _ _ (by omega)), ?_⟩
  exact ((((((L.ox.fq.new hlt _ (Nat.le_refl _) _).new hlt _ (Nat.le_refl _) _).new hlt _ (Nat.le_refl _) _).new hlt _ (Nat.le_refl _) _).new hlt _ (Nat.le_refl _) _).new hlt _ (Nat.le_refl _) _).new hlt _ (Nat.le_refl _) _
/-- a world that is wr, but for block b, a row's own block and what is new -/
noncomputable def kr (wr : World) (b : Nat) (v : Value) (Y : World) : World := open Classical in if ∀ j, j < wr.heap.size → j ≠ b → v.ownBlock ≠ some j → Y.heap[j]? = wr.heap[j]? then Y else wr
theorem kr_spec (wr : World) (b : Nat) (v : Value) (Y : World) : ∀ j, j < wr.heap.size → j ≠ b → v.ownBlock ≠ some j → (kr wr b v Y).heap[j]? = wr.heap[j]? := by
  unfold kr
  split
  · assumption
  · exact fun _ _ _ _ => rfl
theorem kr_cell {wr : World} {b g o : Nat} {v u : Value} (h : wr.cell? ⟨g, o, none⟩ = some u) (hne : g ≠ b) (ho : v.ownBlock ≠ some g) : ∀ Y, (kr wr b v Y).cell? ⟨g, o, none⟩ = some u :=
  fun Y => (World.cell?_of_block (kr_spec wr b v Y g (World.block_lt_of_cell? wr _ h) hne ho)).trans h
theorem kr_of {wr Y : World} {b : Nat} {v : Value} (h : ∀ j, j < wr.heap.size → j ≠ b → v.ownBlock ≠ some j → Y.heap[j]? = wr.heap[j]?) : Y = kr wr b v Y := by
  unfold kr
  rw [if_pos h]
theorem kr_drew (wr : World) (b : Nat) (v : Value) : ∃ Y, wr.drew = kr wr b v Y := ⟨wr.drew, kr_of fun _ _ _ _ => rfl⟩
end Rc
end Go.Proofs.Ytcigggffaofkhaa
