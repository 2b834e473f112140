/-
  The reference's let.
-/
import Derived.Test.YtcigggffaofkhaaRrF
namespace Go.Proofs.Ytcigggffaofkhaa
open Go.RowKit
namespace Rc

/-- a function's variables: their blocks are new since W -/
structure ZV (W w : World) (b : Nat) (s : ByteArray) (st : Res Unit) (vars : List (Nat × List Value)) : Prop where
  hlt : b < W.heap.size
  fq : Fq W w b
  rs : RS w b s st
  vc : ∀ (i g : Nat) (vs : List Value), vars[i]? = some (g, vs) → W.heap.size ≤ g ∧ VC w g vs
section
variable {W w w' : World} {b : Nat} {s : ByteArray} {st st' : Res Unit} {vars : List (Nat × List Value)}
theorem ZV.start (h : RS W b s st) : ZV W W b s st [] := ⟨h.lt, Fq.refl _ _, h, fun i g vs hi => by simp at hi⟩
theorem ZV.made (h : ZV W w b s st vars) (o : Obj) : ZV W (w.alloc o) b s st vars :=
  ⟨h.hlt, h.fq.made h.hlt o, h.rs.made o, fun i g vs hi => ⟨(h.vc i g vs hi).1, (h.vc i g vs hi).2.alloc o⟩⟩
theorem ZV.push (h : ZV W w b s st vars) (vs : List Value) (ty : TypeId) {g : Nat} (hg : g = w.heap.size) : ZV W (w.alloc (.cells vs.toArray ty)) b s st (vars ++ [(g, vs)]) := by
  subst hg
  have hm := h.made (.cells vs.toArray ty)
  refine ⟨hm.hlt, hm.fq, hm.rs, fun i g us hi => ?_⟩
  rcases Nat.lt_or_ge i vars.length with hl | hl
  · rw [List.getElem?_append_left hl] at hi
    exact hm.vc i g us hi
  · rw [List.getElem?_append_right hl] at hi
    have := (List.getElem?_eq_some_iff.1 hi).1
    simp at this
    rw [show i - vars.length = 0 by omega] at hi
    cases hi
    exact ⟨Nat.le_trans (Nat.le_of_lt h.hlt |> fun _ => h.fq.below.size) (Nat.le_refl _), VC.made w vs ty⟩
theorem ZV.call (h : ZV W w b s st vars) (hF : RF w b s st' w') : ZV W w' b s st' vars :=
  ⟨h.hlt, h.fq.trans hF.fq, hF.rs, fun i g vs hi => ⟨(h.vc i g vs hi).1, (h.vc i g vs hi).2.fq hF.fq (by have := (h.vc i g vs hi).1; have := h.hlt; omega)⟩⟩
theorem ZV.below (h : ZV W w b s st vars) (hB : Below w.heap.size w w') : ZV W w' b s st vars :=
  h.call ⟨Fq.of_below hB (Nat.le_of_lt h.rs.lt), h.rs.keep hB⟩
theorem ZV.at (h : ZV W w b s st vars) (i j : Nat) {g : Nat} {vs : List Value} {v : Value} (h1 : vars[i]? = some (g, vs)) (h2 : vs[j]? = some v) : w.cell? ⟨g, j, none⟩ = some v := (h.vc i g vs h1).2.cs j v h2
theorem ZV.fz (h : ZV W w b s st vars) (i : Nat) {g : Nat} {vs : List Value} (h1 : vars[i]? = some (g, vs)) : ∀ j, w.frozen? ⟨g, j, none⟩ = false := (h.vc i g vs h1).2.fz
theorem ZV.lo (h : ZV W w b s st vars) (i : Nat) {g : Nat} {vs : List Value} (h1 : vars[i]? = some (g, vs)) : W.heap.size ≤ g := (h.vc i g vs h1).1
theorem ZV.lt (h : ZV W w b s st vars) (i : Nat) {g : Nat} {vs : List Value} (h1 : vars[i]? = some (g, vs)) : g < w.heap.size := (h.vc i g vs h1).2.lt
/-- the answer is stored and given back -/
theorem ZV.pe {R : Res E} (h : ZV W w b s (unitR R) vars) {g : Nat} (hg : W.heap.size ≤ g) {k : Int} {σ : ByteArray} {sl : Option Addr} {n c : Nat} (hrep : ∀ x t, R = .ok x t → RepX w (fun j => W.heap.size ≤ j ∧ j < w.heap.size ∧ j ≠ g) x (.agg #[.int .i64 k, .string σ, .slice sl n c])) :
    PE W b s R (.returned (.agg #[.int .i64 k, .string σ, .slice sl n c])) (put3 w g (.int .i64 k) (.string σ) (.slice sl n c)) := by
  have hlt := h.hlt
  refine ⟨_, _, _, _, _, rfl, ⟨h.fq.put3 h.hlt hg _ _ _, h.rs.put3 (by omega) _ _ _⟩, fun x t hx => ?_⟩
  exact (hrep x t hx).move fun j hj => ⟨⟨hj.1, by rw [put3_size]; exact hj.2.1⟩, put3_heap _ _ _ _ _ hj.2.2⟩
end
/-- an expression, by its contract -/
def ExprR (s : ByteArray) (dp : Int) (f : Tk → Res E) : Prop := ∀ (W : World) (b : Nat) (st : Res Unit), RS W b s st →
  Calls Try.prog 32 #[.pointer (some ⟨b, 0, none⟩), .int .i64 dp] W fun e W' => PE W b s (st.bind fun _ t => f t) e W'
theorem rs_form {W : World} {b : Nat} {s : ByteArray} {st : Res Unit} (h : RS W b s st) : ∃ k σ p f fl pl, RX W b s k σ p f fl pl ∧ σ.size ≤ 10000 ∧ (∀ u t, st = .ok u t → k = t.kind ∧ σ = t.s ∧ p = t.pl ∧ f = t.fin ∧ fl = 0) ∧ (∀ q e, st = .bad q e → fl = e ∧ pl = q ∧ e ≠ 0) := by
  cases st with
  | ok u t =>
    obtain ⟨⟨pl, hX⟩, hv, hsm⟩ := h
    exact ⟨_, _, _, _, _, _, hX, by omega, fun u t h => by cases h; exact ⟨rfl, rfl, rfl, rfl, rfl⟩, fun q e h => by cases h⟩
  | bad q e =>
    obtain ⟨⟨k, σ, p, f, hX, h3⟩, h2⟩ := h
    exact ⟨_, _, _, _, _, _, hX, h3, (fun u t h => by cases h), fun q e h => by cases h; exact ⟨rfl, rfl, h2⟩⟩
theorem rfail_any (W : World) (b : Nat) (s : ByteArray) (st : Res Unit) (p e : Int) (he : e ≠ 0) (hp : ∀ u t, st = .ok u t → p = t.pl) (h : RS W b s st) :
    Calls Try.prog 34 #[.pointer (some ⟨b, 0, none⟩), .int .i64 p, .int .i64 e] W fun en W' => en = .returned (.tuple #[]) ∧ RF W b s (st.bind fun _ t => .bad t.pl e) W' := by
  cases st with
  | ok u t =>
    rw [hp u t rfl]
    exact rfail_ok W b s t t.pl e he h
  | bad q e0 => exact rfail_bad W b s q e0 p e h
/-- is this a name? -/
def chkT (t : Tk) : Res Unit := if t.kind = 1 ∧ nameL t.s.data.toList = true then .ok () t else .bad t.pl 50
/-- what stands behind let -/
def letP (s : List UInt8) (f : Tk → Res E) (t : Tk) : Res E := (chkT t).bind fun _ t1 => (stepT s t1).bind fun _ t2 => (wantT s [61] t2).bind fun _ t3 => (f t3).bind fun a t4 => (wantT s [105, 110] t4).bind fun _ t5 => (f t5).bind fun b t6 => .ok (.mk 5 t.s [a, b]) t6
theorem let_name {s : List UInt8} {f : Tk → Res E} {t : Tk} : letP s f t = (nameT s t).bind fun nm t2 => (wantT s [61] t2).bind fun _ t3 => (f t3).bind fun a t4 => (wantT s [105, 110] t4).bind fun _ t5 => (f t5).bind fun b t6 => .ok (.mk 5 nm [a, b]) t6 := by
  unfold letP chkT nameT
  by_cases h : t.kind = 1 ∧ nameL t.s.data.toList = true
  · rw [if_pos h, if_pos (by simpa using h), bind_assoc]
    rfl
  · rw [if_neg h, if_neg (by simpa using h)]
    rfl
theorem unit_bind {α β : Type} (r : Res α) (F : α → Tk → Res β) : unitR (r.bind F) = r.bind fun x t => unitR (F x t) := by cases r <;> rfl
theorem bind_unit {α β : Type} (r : Res α) (F : Tk → Res β) : ((unitR r).bind fun _ t => F t) = r.bind fun _ t => F t := by cases r <;> rfl
theorem let_unit {s : List UInt8} {f : Tk → Res E} {st : Res Unit} : unitR (st.bind fun _ t => letP s f t) = unitR (((unitR ((((st.bind fun _ t => chkT t).bind fun _ t => stepT s t).bind fun _ t => wantT s [61] t).bind fun _ t => f t)).bind fun _ t => wantT s [105, 110] t).bind fun _ t => f t) := by
  rw [bind_unit]
  simp only [unit_bind, bind_assoc, letP]
  rfl
theorem let_ok {s : List UInt8} {f : Tk → Res E} {st : Res Unit} {x : E} {t' : Tk} (h : (st.bind fun _ t => letP s f t) = .ok x t') :
    ∃ (u : Unit) (t : Tk) (a : E) (ta : Tk) (c : E), st = .ok u t ∧ ((((st.bind fun _ t => chkT t).bind fun _ t => stepT s t).bind fun _ t => wantT s [61] t).bind fun _ t => f t) = .ok a ta ∧
      (((unitR ((((st.bind fun _ t => chkT t).bind fun _ t => stepT s t).bind fun _ t => wantT s [61] t).bind fun _ t => f t)).bind fun _ t => wantT s [105, 110] t).bind fun _ t => f t) = .ok c t' ∧ x = .mk 5 t.s [a, c] := by
  obtain ⟨u, t, rfl, h⟩ := bind_ok h
  change letP s f t = .ok x t' at h
  unfold letP at h
  obtain ⟨u1, t1, h1, h⟩ := bind_ok h
  obtain ⟨u2, t2, h2, h⟩ := bind_ok h
  obtain ⟨u3, t3, h3, h⟩ := bind_ok h
  obtain ⟨a, t4, h4, h⟩ := bind_ok h
  obtain ⟨u5, t5, h5, h⟩ := bind_ok h
  obtain ⟨c, t6, h6, h⟩ := bind_ok h
  simp only [Res.ok.injEq] at h
  obtain ⟨rfl, rfl⟩ := h
  have e1 : ((((Res.ok u t).bind fun _ t => chkT t).bind fun _ t => stepT s t).bind fun _ t => wantT s [61] t).bind (fun _ t => f t) = .ok a t4 := by
    show (((chkT t).bind fun _ t => stepT s t).bind fun _ t => wantT s [61] t).bind (fun _ t => f t) = _
    rw [h1]
    show ((stepT s t1).bind fun _ t => wantT s [61] t).bind (fun _ t => f t) = _
    rw [h2]
    show (wantT s [61] t2).bind (fun _ t => f t) = _
    rw [h3]
    exact h4
  refine ⟨u, t, a, t4, c, rfl, e1, ?_, rfl⟩
  rw [e1]
  show (wantT s [105, 110] t4).bind (fun _ t => f t) = _
  rw [h5]
  exact h6
theorem ZV.store {W w : World} {b : Nat} {s : ByteArray} {st : Res Unit} {vars : List (Nat × List Value)} (h : ZV W w b s st vars) {g : Nat} (hg : W.heap.size ≤ g) (j : Nat) (v : Value) : ZV W (w.setCell ⟨g, j, none⟩ v) b s st [] :=
  ⟨h.hlt, h.fq.new h.hlt ⟨g, j, none⟩ hg v, h.rs.far (by have := h.hlt; omega) j v, fun i g vs hi => by simp at hi⟩
theorem let_end {W w3 w4 w5 w6 : World} {b : Nat} {s : ByteArray} {st : Res Unit} {f : Tk → Res E} {σ : ByteArray} {k4 : Int} {σ4 : ByteArray} {sl4 : Option Addr} {n4 c4 : Nat} {k6 : Int} {σ6 : ByteArray} {sl6 : Option Addr} {n6 c6 : Nat} {vars : List (Nat × List Value)}
    (hZ : ZV W ((w6.alloc (.cells #[.int .i64 k6, .string σ6, .slice sl6 n6 c6] 26)).alloc (.cells #[.int .i64 k4, .string σ4, .slice sl4 n4 c4, .int .i64 k6, .string σ6, .slice sl6 n6 c6] 26)) b s (unitR (((unitR ((((st.bind fun _ t => chkT t).bind fun _ t => stepT s.data.toList t).bind fun _ t => wantT s.data.toList [61] t).bind fun _ t => f t)).bind fun _ t => wantT s.data.toList [105, 110] t).bind fun _ t => f t)) vars)
    (h3 : W.heap.size + 2 ≤ w3.heap.size) (F4 : Fq w3 w4 b) (F5 : Fq (w4.alloc (.cells #[.int .i64 k4, .string σ4, .slice sl4 n4 c4] 26)) w5 b) (F6 : Fq w5 w6 b)
    (r4 : ∀ x t, ((((st.bind fun _ t => chkT t).bind fun _ t => stepT s.data.toList t).bind fun _ t => wantT s.data.toList [61] t).bind fun _ t => f t) = .ok x t → RepX w4 (fun j => w3.heap.size ≤ j ∧ j < w4.heap.size) x (.agg #[.int .i64 k4, .string σ4, .slice sl4 n4 c4]))
    (r6 : ∀ x t, (((unitR ((((st.bind fun _ t => chkT t).bind fun _ t => stepT s.data.toList t).bind fun _ t => wantT s.data.toList [61] t).bind fun _ t => f t)).bind fun _ t => wantT s.data.toList [105, 110] t).bind fun _ t => f t) = .ok x t → RepX w6 (fun j => w5.heap.size ≤ j ∧ j < w6.heap.size) x (.agg #[.int .i64 k6, .string σ6, .slice sl6 n6 c6]))
    (hS : ∀ u t, st = .ok u t → σ = t.s) :
    PE W b s (st.bind fun _ t => letP s.data.toList f t) (.returned (.agg #[.int .i64 5, .string σ, .slice (some ⟨w6.heap.size + 1, 0, none⟩) 2 2]))
      (put3 (((w6.alloc (.cells #[.int .i64 k6, .string σ6, .slice sl6 n6 c6] 26)).alloc (.cells #[.int .i64 k4, .string σ4, .slice sl4 n4 c4, .int .i64 k6, .string σ6, .slice sl6 n6 c6] 26)).setCell ⟨W.heap.size + 1, 2, none⟩ (.slice (some ⟨w6.heap.size + 1, 0, none⟩) 2 2)) W.heap.size (.int .i64 5) (.string σ) (.slice (some ⟨w6.heap.size + 1, 0, none⟩) 2 2)) := by
  have hlt := hZ.hlt
  rw [← let_unit] at hZ
  refine (hZ.store (g := W.heap.size + 1) (by omega) 2 _).pe (Nat.le_refl _) fun x t hx => ?_
  obtain ⟨u, t0, a, ta, c, rfl, ha, hc, rfl⟩ := let_ok hx
  rw [← hS u t0 rfl]
  have e4 := F4.below.size
  have e5 := F5.below.size
  have e6 := F6.below.size
  have x4 : (w4.alloc (.cells #[.int .i64 k4, .string σ4, .slice sl4 n4 c4] 26)).heap.size = w4.heap.size + 1 := by simp
  have x6 : (w6.alloc (.cells #[.int .i64 k6, .string σ6, .slice sl6 n6 c6] 26)).heap.size = w6.heap.size + 1 := by simp
  have g4 := r4 _ _ ha
  have g6 := r6 _ _ hc
  have hr := rep_lit (W := w6.alloc (.cells #[.int .i64 k6, .string σ6, .slice sl6 n6 c6] 26)) (lo := W.heap.size + 2) (by omega) 5 σ [a, c] [(.int .i64 k4, .string σ4, .slice sl4 n4 c4), (.int .i64 k6, .string σ6, .slice sl6 n6 c6)] rfl
    (lits2 (g4.move fun j hj => ⟨⟨by omega, by omega⟩, by rw [heap_alloc_old _ _ (by omega), F6.block _ (by omega) (by omega), F5.block _ (by omega) (by omega), heap_alloc_old _ _ hj.2]⟩) (g6.move fun j hj => ⟨⟨by omega, by omega⟩, heap_alloc_old _ _ hj.2⟩))
  rw [x6] at hr
  refine hr.move fun j hj => ⟨⟨by omega, ?_, by omega⟩, Below.heap_setCell _ _ _ _ (show j ≠ W.heap.size + 1 by omega)⟩
  have := hj.2
  simpa [World.setCell] using this
set_option maxHeartbeats 1000000 in
theorem rlet_any (s : ByteArray) (hs : s.size ≤ 4096) (dp : Int) (h0 : 0 ≤ dp) (h1 : dp < 32) (f : Tk → Res E) (hf : ExprR s (dp + 1) f) (W : World) (b : Nat) (st : Res Unit) (h : RS W b s st) :
    Calls Try.prog 59 #[.pointer (some ⟨b, 0, none⟩), .int .i64 dp] W fun e W' => PE W b s (st.bind fun _ t => letP s.data.toList f t) e W' := by
  obtain ⟨k, σ, p, f0, fl, pl, hX, hσ, hok, hbad⟩ := rs_form h
  have hd : IntKind.i64.wrap (dp + 1) = dp + 1 := IntWalk.i64_in _ (by omega)
  have hZ := ((ZV.start h).push zeroX.toList 26 (g := W.heap.size) rfl).push [.int .i64 5, .string σ, .slice none 0 0] 26 (g := W.heap.size + 1) (by simp)
  change ZV W ((W.alloc (.cells zeroX 26)).alloc (.cells #[.int .i64 5, .string σ, .slice none 0 0] 26)) b s st [(W.heap.size, zeroX.toList), (W.heap.size + 1, [.int .i64 5, .string σ, .slice none 0 0])] at hZ
  have hX1 : RX ((W.alloc (.cells zeroX 26)).alloc (.cells #[.int .i64 5, .string σ, .slice none 0 0] 26)) b s k σ p f0 fl pl := (hX.keep ((Below.refl _ _).alloc (Nat.le_refl _) _)).keep ((Below.refl _ _).alloc (Nat.le_refl _) _)
  have hnm := rname0_any σ ((W.alloc (.cells zeroX 26)).alloc (.cells #[.int .i64 5, .string σ, .slice none 0 0] 26)) hσ
  have HZ := Lib.hid hZ
  have HX := Lib.hid hX
  have HX1 := Lib.hid hX1
  have HS := Lib.hid (show ∀ u t, st = .ok u t → σ = t.s from fun u t e => (hok u t e).2.1)
  have HP := Lib.hid (show ∀ u t, st = .ok u t → p = t.pl from fun u t e => (hok u t e).2.2.1)
  have HC := Lib.hid (show (st.bind fun _ t => chkT t) = if k = 1 ∧ nameL σ.data.toList = true then st else st.bind fun _ t => .bad t.pl 50 by
    cases st with
    | bad q e => split <;> rfl
    | ok u t =>
      obtain ⟨rfl, rfl, rfl, rfl, -⟩ := hok u t rfl
      show chkT t = _
      unfold chkT
      by_cases hc : t.kind = 1 ∧ nameL t.s.data.toList = true
      · rw [if_pos hc, if_pos ⟨by omega, hc.2⟩]
      · rw [if_neg hc, if_neg (by intro h; exact hc ⟨by omega, h.2⟩)]
        rfl)
  clear h hok hbad hX hX1 hZ
  obtain ⟨lt, c0, c1, c2, c3, c4, c5, c6, fz⟩ := id HX.out
  by_cases hk : k = 1
  rotate_left
  · have k1 : (k != 1) = true := by simp [hk]
    have hfl := rfail_any _ b s st p 50 (by decide) HP.out HZ.out.rs
    have HC := Lib.hid (show (st.bind fun _ t => .bad t.pl 50) = st.bind fun _ t => chkT t by rw [HC.out, if_neg (by simp [hk])])
    clear hk hnm
    go_enter Try.func59, Try.ntmps59
    go_wp2_with fail
    refine hfl.mono ?_
    rintro e w1 ⟨rfl, hF⟩
    have hZ := HZ.out.call hF
    rw [HC.out] at hZ
    clear hF hfl HZ HX1 HX HC
    have HZ := Lib.hid hZ
    clear hZ lt c0 c1 c2 c3 c4 c5 c6 fz
    have hc := rstep_any w1 b s _ hs HZ.out.rs
    go_wp2_with fail
    refine hc.mono ?_
    rintro e w2 ⟨rfl, hF⟩
    have HZ := Lib.hid (HZ.out.call hF)
    clear hc hF
    have hc := rwant_any w2 b s _ ⟨#[61]⟩ hs HZ.out.rs
    go_wp2_with fail
    refine hc.mono ?_
    rintro e w3 ⟨rfl, hF⟩
    have HZ := Lib.hid (HZ.out.call hF)
    clear hc hF
    have hc := hf w3 b _ HZ.out.rs
    go_wp2_with fail
    refine hc.mono ?_
    rintro e w4 ⟨k4, σ4, sl4, n4, c4, rfl, hF, hrep⟩
    have HR4 := Lib.hid hrep
    have hZ := (HZ.out.call hF).push [.int .i64 k4, .string σ4, .slice sl4 n4 c4] 26 rfl
    change ZV W (w4.alloc (.cells #[.int .i64 k4, .string σ4, .slice sl4 n4 c4] 26)) b s _ _ at hZ
    have hc := rwant_any _ b s _ ⟨#[105, 110]⟩ hs hZ.rs
    have HZ4 := Lib.hid (Nat.succ_le_of_lt (HZ.out.lt 1 rfl))
    have HF4 := Lib.hid hF.fq
    have HZ := Lib.hid hZ
    clear hF hZ hrep
    go_wp2_with fail
    refine hc.mono ?_
    rintro e w5 ⟨rfl, hF⟩
    have HZ := Lib.hid (HZ.out.call hF)
    have HF5 := Lib.hid hF.fq
    clear hc hF
    have hc := hf w5 b _ HZ.out.rs
    go_wp2_with fail
    refine hc.mono ?_
    rintro e w6 ⟨k6, σ6, sl6, n6, c6, rfl, hF, hrep⟩
    have HR6 := Lib.hid hrep
    have hZ := (HZ.out.call hF).push [.int .i64 k6, .string σ6, .slice sl6 n6 c6] 26 rfl
    change ZV W (w6.alloc (.cells #[.int .i64 k6, .string σ6, .slice sl6 n6 c6] 26)) b s _ _ at hZ
    have HF6 := Lib.hid hF.fq
    have x0 := hZ.at 2 0 rfl rfl
    have x1 := hZ.at 2 1 rfl rfl
    have x2 := hZ.at 2 2 rfl rfl
    have y0 := hZ.at 3 0 rfl rfl
    have y1 := hZ.at 3 1 rfl rfl
    have y2 := hZ.at 3 2 rfl rfl
    have hZ9 := hZ.made (.cells #[.int .i64 k4, .string σ4, .slice sl4 n4 c4, .int .i64 k6, .string σ6, .slice sl6 n6 c6] 26)
    have q0 := hZ9.at 0 0 rfl rfl
    have q1 := hZ9.at 0 1 rfl rfl
    have q2 := hZ9.at 0 2 rfl rfl
    have qf := hZ9.fz 0 rfl
    have o0 := hZ9.at 1 0 rfl rfl
    have o1 := hZ9.at 1 1 rfl rfl
    have o2 := hZ9.at 1 2 rfl rfl
    have of := hZ9.fz 1 rfl
    have HZ9 := Lib.hid hZ9
    have HZ := Lib.hid hZ
    clear hc hF hZ hrep hZ9
    go_wp2_with fail
    refine bodyPost_ret (v := .agg #[.int .i64 5, .string σ, .slice (some ⟨w6.heap.size + 1, 0, none⟩) 2 2]) (by simp [results, Try.results59, go_sem, q0, q1, q2]) rfl ?_
    exact let_end HZ9.out HZ4.out HF4.out HF5.out HF6.out HR4.out HR6.out HS.out
  · have k1 : (k != 1) = false := by simp [hk]
    cases hn : nameL σ.data.toList with
    | false =>
      rw [hn] at hnm
      have HC := Lib.hid (show (st.bind fun _ t => .bad t.pl 50) = st.bind fun _ t => chkT t by rw [HC.out, if_neg (by simp [hn])])
      clear hk hn
      go_enter Try.func59, Try.ntmps59
      go_wp2_with fail
      refine hnm.mono ?_
      rintro e w0 ⟨rfl, hB⟩
      have hfl := rfail_any w0 b s st p 50 (by decide) HP.out (HZ.out.below hB).rs
      have HZ := Lib.hid (HZ.out.below hB)
      have hX1 := HX1.out.keep hB
      clear hnm hB lt c0 c1 c2 c3 c4 c5 c6 fz
      obtain ⟨lt, c0, c1, c2, c3, c4, c5, c6, fz⟩ := hX1
      go_wp2_with fail
      refine hfl.mono ?_
      rintro e w1 ⟨rfl, hF⟩
      have hZ := HZ.out.call hF
      rw [HC.out] at hZ
      clear hF hfl HZ HX1 HX HC
      have HZ := Lib.hid hZ
      clear hZ lt c0 c1 c2 c3 c4 c5 c6 fz
      have hc := rstep_any w1 b s _ hs HZ.out.rs
      go_wp2_with fail
      refine hc.mono ?_
      rintro e w2 ⟨rfl, hF⟩
      have HZ := Lib.hid (HZ.out.call hF)
      clear hc hF
      have hc := rwant_any w2 b s _ ⟨#[61]⟩ hs HZ.out.rs
      go_wp2_with fail
      refine hc.mono ?_
      rintro e w3 ⟨rfl, hF⟩
      have HZ := Lib.hid (HZ.out.call hF)
      clear hc hF
      have hc := hf w3 b _ HZ.out.rs
      go_wp2_with fail
      refine hc.mono ?_
      rintro e w4 ⟨k4, σ4, sl4, n4, c4, rfl, hF, hrep⟩
      have HR4 := Lib.hid hrep
      have hZ := (HZ.out.call hF).push [.int .i64 k4, .string σ4, .slice sl4 n4 c4] 26 rfl
      change ZV W (w4.alloc (.cells #[.int .i64 k4, .string σ4, .slice sl4 n4 c4] 26)) b s _ _ at hZ
      have hc := rwant_any _ b s _ ⟨#[105, 110]⟩ hs hZ.rs
      have HZ4 := Lib.hid (Nat.succ_le_of_lt (HZ.out.lt 1 rfl))
      have HF4 := Lib.hid hF.fq
      have HZ := Lib.hid hZ
      clear hF hZ hrep
      go_wp2_with fail
      refine hc.mono ?_
      rintro e w5 ⟨rfl, hF⟩
      have HZ := Lib.hid (HZ.out.call hF)
      have HF5 := Lib.hid hF.fq
      clear hc hF
      have hc := hf w5 b _ HZ.out.rs
      go_wp2_with fail
      refine hc.mono ?_
      rintro e w6 ⟨k6, σ6, sl6, n6, c6, rfl, hF, hrep⟩
      have HR6 := Lib.hid hrep
      have hZ := (HZ.out.call hF).push [.int .i64 k6, .string σ6, .slice sl6 n6 c6] 26 rfl
      change ZV W (w6.alloc (.cells #[.int .i64 k6, .string σ6, .slice sl6 n6 c6] 26)) b s _ _ at hZ
      have HF6 := Lib.hid hF.fq
      have x0 := hZ.at 2 0 rfl rfl
      have x1 := hZ.at 2 1 rfl rfl
      have x2 := hZ.at 2 2 rfl rfl
      have y0 := hZ.at 3 0 rfl rfl
      have y1 := hZ.at 3 1 rfl rfl
      have y2 := hZ.at 3 2 rfl rfl
      have hZ9 := hZ.made (.cells #[.int .i64 k4, .string σ4, .slice sl4 n4 c4, .int .i64 k6, .string σ6, .slice sl6 n6 c6] 26)
      have q0 := hZ9.at 0 0 rfl rfl
      have q1 := hZ9.at 0 1 rfl rfl
      have q2 := hZ9.at 0 2 rfl rfl
      have qf := hZ9.fz 0 rfl
      have o0 := hZ9.at 1 0 rfl rfl
      have o1 := hZ9.at 1 1 rfl rfl
      have o2 := hZ9.at 1 2 rfl rfl
      have of := hZ9.fz 1 rfl
      have HZ9 := Lib.hid hZ9
      have HZ := Lib.hid hZ
      clear hc hF hZ hrep hZ9
      go_wp2_with fail
      refine bodyPost_ret (v := .agg #[.int .i64 5, .string σ, .slice (some ⟨w6.heap.size + 1, 0, none⟩) 2 2]) (by simp [results, Try.results59, go_sem, q0, q1, q2]) rfl ?_
      exact let_end HZ9.out HZ4.out HF4.out HF5.out HF6.out HR4.out HR6.out HS.out
    | true =>
      rw [hn] at hnm
      have HC := Lib.hid (show st = st.bind fun _ t => chkT t by rw [HC.out, if_pos ⟨hk, hn⟩])
      clear hk hn
      go_enter Try.func59, Try.ntmps59
      go_wp2_with fail
      refine hnm.mono ?_
      rintro e w1 ⟨rfl, hB⟩
      have hZ := HZ.out.below hB
      rw [HC.out] at hZ
      clear hnm hB HZ HX1 HX HC
      have HZ := Lib.hid hZ
      clear hZ lt c0 c1 c2 c3 c4 c5 c6 fz
      have hc := rstep_any w1 b s _ hs HZ.out.rs
      go_wp2_with fail
      refine hc.mono ?_
      rintro e w2 ⟨rfl, hF⟩
      have HZ := Lib.hid (HZ.out.call hF)
      clear hc hF
      have hc := rwant_any w2 b s _ ⟨#[61]⟩ hs HZ.out.rs
      go_wp2_with fail
      refine hc.mono ?_
      rintro e w3 ⟨rfl, hF⟩
      have HZ := Lib.hid (HZ.out.call hF)
      clear hc hF
      have hc := hf w3 b _ HZ.out.rs
      go_wp2_with fail
      refine hc.mono ?_
      rintro e w4 ⟨k4, σ4, sl4, n4, c4, rfl, hF, hrep⟩
      have HR4 := Lib.hid hrep
      have hZ := (HZ.out.call hF).push [.int .i64 k4, .string σ4, .slice sl4 n4 c4] 26 rfl
      change ZV W (w4.alloc (.cells #[.int .i64 k4, .string σ4, .slice sl4 n4 c4] 26)) b s _ _ at hZ
      have hc := rwant_any _ b s _ ⟨#[105, 110]⟩ hs hZ.rs
      have HZ4 := Lib.hid (Nat.succ_le_of_lt (HZ.out.lt 1 rfl))
      have HF4 := Lib.hid hF.fq
      have HZ := Lib.hid hZ
      clear hF hZ hrep
      go_wp2_with fail
      refine hc.mono ?_
      rintro e w5 ⟨rfl, hF⟩
      have HZ := Lib.hid (HZ.out.call hF)
      have HF5 := Lib.hid hF.fq
      clear hc hF
      have hc := hf w5 b _ HZ.out.rs
      go_wp2_with fail
      refine hc.mono ?_
      rintro e w6 ⟨k6, σ6, sl6, n6, c6, rfl, hF, hrep⟩
      have HR6 := Lib.hid hrep
      have hZ := (HZ.out.call hF).push [.int .i64 k6, .string σ6, .slice sl6 n6 c6] 26 rfl
      change ZV W (w6.alloc (.cells #[.int .i64 k6, .string σ6, .slice sl6 n6 c6] 26)) b s _ _ at hZ
      have HF6 := Lib.hid hF.fq
      have x0 := hZ.at 2 0 rfl rfl
      have x1 := hZ.at 2 1 rfl rfl
      have x2 := hZ.at 2 2 rfl rfl
      have y0 := hZ.at 3 0 rfl rfl
      have y1 := hZ.at 3 1 rfl rfl
      have y2 := hZ.at 3 2 rfl rfl
      have hZ9 := hZ.made (.cells #[.int .i64 k4, .string σ4, .slice sl4 n4 c4, .int .i64 k6, .string σ6, .slice sl6 n6 c6] 26)
      have q0 := hZ9.at 0 0 rfl rfl
      have q1 := hZ9.at 0 1 rfl rfl
      have q2 := hZ9.at 0 2 rfl rfl
      have qf := hZ9.fz 0 rfl
      have o0 := hZ9.at 1 0 rfl rfl
      have o1 := hZ9.at 1 1 rfl rfl
      have o2 := hZ9.at 1 2 rfl rfl
      have of := hZ9.fz 1 rfl
      have HZ9 := Lib.hid hZ9
      have HZ := Lib.hid hZ
      clear hc hF hZ hrep hZ9
      go_wp2_with fail
      refine bodyPost_ret (v := .agg #[.int .i64 5, .string σ, .slice (some ⟨w6.heap.size + 1, 0, none⟩) 2 2]) (by simp [results, Try.results59, go_sem, q0, q1, q2]) rfl ?_
      exact let_end HZ9.out HZ4.out HF4.out HF5.out HF6.out HR4.out HR6.out HS.out
end Rc
end Go.Proofs.Ytcigggffaofkhaa
