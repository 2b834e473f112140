/-
  The reference's term.
-/
import Derived.Test.YtcigggffaofkhaaRrG
namespace Go.Proofs.Ytcigggffaofkhaa
open Go.RowKit
namespace Rc

theorem ZV.pe1 {W w : World} {b : Nat} {s : ByteArray} {vars : List (Nat × List Value)} {R : Res E} (h : ZV W w b s (unitR R) vars) {k : Int} {σ : ByteArray} {sl : Option Addr} {n c : Nat} (hrep : ∀ x t, R = .ok x t → RepX w (fun j => W.heap.size ≤ j ∧ j < w.heap.size) x (.agg #[.int .i64 k, .string σ, .slice sl n c])) :
    PE W b s R (.returned (.agg #[.int .i64 k, .string σ, .slice sl n c])) w := ⟨_, _, _, _, _, rfl, ⟨h.fq, h.rs⟩, hrep⟩
theorem unit_leaf {α : Type} (r : Res Unit) (x : α) : unitR (r.bind fun _ t => .ok x t) = r := by cases r <;> rfl
theorem has_of {t : Tk} {w : List UInt8} {v : Bool} (h : isW t w = v) (u : Unit) : hasS (.ok u t) w = v := h
theorem par_unit {s : List UInt8} {f : Tk → Res E} {st : Res Unit} : unitR (st.bind fun _ t1 => (f t1).bind fun x t2 => (wantT s [41] t2).bind fun _ t3 => .ok x t3) = ((unitR (st.bind fun _ t => f t)).bind fun _ t => wantT s [41] t) := by
  rw [bind_unit, unit_bind, bind_assoc]
  congr 1
  funext _ t1
  rw [unit_bind]
  congr 1
  funext x t2
  rw [unit_leaf]
theorem par_ok {s : List UInt8} {f : Tk → Res E} {st : Res Unit} {x : E} {t' : Tk} (h : (st.bind fun _ t1 => (f t1).bind fun x t2 => (wantT s [41] t2).bind fun _ t3 => .ok x t3) = .ok x t') : ∃ ta, (st.bind fun _ t => f t) = .ok x ta := by
  obtain ⟨u, t1, h1, h⟩ := bind_ok h
  obtain ⟨y, t2, h2, h⟩ := bind_ok h
  obtain ⟨u3, t3, h3, h⟩ := bind_ok h
  simp only [Res.ok.injEq] at h
  obtain ⟨rfl, rfl⟩ := h
  rw [h1]
  exact ⟨t2, h2⟩
theorem bad_rterm (W : World) (b : Nat) (s : ByteArray) (q : Nat) (e0 dp : Int) (R : Tk → Res E) (h : RS W b s (.bad q e0)) :
    Calls Try.prog 50 #[.pointer (some ⟨b, 0, none⟩), .int .i64 dp] W fun e W' => PE W b s ((Res.bad q e0 : Res Unit).bind fun _ t => R t) e W' := by
  obtain ⟨⟨k, σ, p, f, hX, h3⟩, h2⟩ := id h
  have k1 : (e0 != 0) = true := by simp [h2]
  have hZ := (ZV.start h).push zeroX.toList 26 (g := W.heap.size) rfl
  change ZV W (W.alloc (.cells zeroX 26)) b s (.bad q e0) [(W.heap.size, zeroX.toList)] at hZ
  have HZ := Lib.hid hZ
  obtain ⟨lt, c0, c1, c2, c3, c4, c5, c6, fz⟩ := hX
  have q0 := hZ.at 0 0 rfl rfl
  have q1 := hZ.at 0 1 rfl rfl
  have q2 := hZ.at 0 2 rfl rfl
  have qf := hZ.fz 0 rfl
  clear h hZ h2 h3
  go_enter Try.func50, Try.ntmps50
  go_wp2_with fail
  refine bodyPost_ret (v := .agg #[.int .i64 0, .string ⟨#[]⟩, .slice none 0 0]) (by simp [results, Try.results50, go_sem, q0, q1, q2]) rfl ?_
  exact HZ.out.pe1 (R := .bad q e0) (fun x t h => by cases h)
theorem leaf_end {W w : World} {b : Nat} {s : ByteArray} {st : Res Unit} {k : Int} {σ : ByteArray} {vars : List (Nat × List Value)} (h : ZV W w b s st vars) :
    PE W b s (st.bind fun _ t1 => .ok (.mk k σ []) t1) (.returned (.agg #[.int .i64 k, .string σ, .slice none 0 0])) (put3 w W.heap.size (.int .i64 k) (.string σ) (.slice none 0 0)) := by
  refine ZV.pe (vars := vars) (by rw [unit_leaf]; exact h) (Nat.le_refl _) fun x t hx => ?_
  obtain ⟨u, t1, h1, h2⟩ := bind_ok hx
  simp only [Res.ok.injEq] at h2
  obtain ⟨rfl, rfl⟩ := h2
  exact RepX.leaf _ _ _ _
theorem par_end {W w2 w3 w4 : World} {b : Nat} {s : ByteArray} {st : Res Unit} {f : Tk → Res E} {k : Int} {σ : ByteArray} {sl : Option Addr} {n c : Nat} {vars : List (Nat × List Value)} (h : ZV W w4 b s ((unitR (st.bind fun _ t => f t)).bind fun _ t => wantT s.data.toList [41] t) vars)
    (h2 : W.heap.size + 1 < w2.heap.size) (hF : Fq (w3.alloc (.cells #[.int .i64 k, .string σ, .slice sl n c] 26)) w4 b) (hr : ∀ x t, (st.bind fun _ t => f t) = .ok x t → RepX w3 (fun j => w2.heap.size ≤ j ∧ j < w3.heap.size) x (.agg #[.int .i64 k, .string σ, .slice sl n c])) :
    PE W b s (st.bind fun _ t1 => (f t1).bind fun x t2 => (wantT s.data.toList [41] t2).bind fun _ t3 => .ok x t3) (.returned (.agg #[.int .i64 k, .string σ, .slice sl n c])) (put3 w4 W.heap.size (.int .i64 k) (.string σ) (.slice sl n c)) := by
  have hlt := h.hlt
  rw [← par_unit] at h
  refine h.pe (Nat.le_refl _) fun x t hx => ?_
  obtain ⟨ta, ha⟩ := par_ok hx
  have e3 : (w3.alloc (.cells #[.int .i64 k, .string σ, .slice sl n c] 26)).heap.size = w3.heap.size + 1 := by simp
  have e4 := hF.below.size
  exact (hr x ta ha).move fun j hj => ⟨⟨by omega, by omega, by omega⟩, by rw [hF.block _ (by omega) (by omega), heap_alloc_old _ _ hj.2]⟩
set_option maxHeartbeats 1000000 in
theorem rterm_text (s : ByteArray) (hs : s.size ≤ 4096) (dp : Int) (h0 : 0 ≤ dp) (h1 : dp < 32) (h' : Nat) (W : World) (b : Nat) (t : Tk) (h : RS W b s (.ok () t)) (h3 : t.kind = 3) :
    Calls Try.prog 50 #[.pointer (some ⟨b, 0, none⟩), .int .i64 dp] W fun e W' => PE W b s (termP s.data.toList (h' + 1) t) e W' := by
  obtain ⟨⟨pl, hX⟩, hv, hsm⟩ := id h
  have hZ := ((ZV.start h).push zeroX.toList 26 (g := W.heap.size) rfl).push [.int .i64 t.kind, .string t.s, .int .i64 t.pl, .int .i64 t.fin] 37 (g := W.heap.size + 1) (by simp)
  change ZV W ((W.alloc (.cells zeroX 26)).alloc (.cells #[.int .i64 t.kind, .string t.s, .int .i64 t.pl, .int .i64 t.fin] 37)) b s (.ok () t) [(W.heap.size, zeroX.toList), (W.heap.size + 1, [.int .i64 t.kind, .string t.s, .int .i64 t.pl, .int .i64 t.fin])] at hZ
  have k3 : ((t.kind : Int) != 3) = false := by simp [h3]
  have k3b : ((t.kind : Int) == 3) = true := by simp [h3]
  have d1 : (dp == 32) = false := by simp; omega
  have HE := Lib.hid (term_t3 (s := s.data.toList) (h := h') h3)
  clear h3
  have HZ := Lib.hid hZ
  obtain ⟨lt, c0, c1, c2, c3, c4, c5, c6, fz⟩ := hX
  have u0 := hZ.at 1 0 rfl rfl
  have u1 := hZ.at 1 1 rfl rfl
  have u2 := hZ.at 1 2 rfl rfl
  have uf := hZ.fz 1 rfl
  clear h hZ hsm hv
  go_enter Try.func50, Try.ntmps50
  go_wp2_with fail
  have hc := rstep_any _ b s _ hs HZ.out.rs
  refine hc.mono ?_
  rintro e w2 ⟨rfl, hF⟩
  have hZ := HZ.out.call hF
  clear lt c0 c1 c2 c3 c4 c5 c6 fz u0 u1 u2 uf hc hF
  have u0 := hZ.at 1 0 rfl rfl
  have u1 := hZ.at 1 1 rfl rfl
  have u2 := hZ.at 1 2 rfl rfl
  have uf := hZ.fz 1 rfl
  have q0 := hZ.at 0 0 rfl rfl
  have q1 := hZ.at 0 1 rfl rfl
  have q2 := hZ.at 0 2 rfl rfl
  have qf := hZ.fz 0 rfl
  have HZ := Lib.hid hZ
  clear hZ
  go_wp2_with fail
  refine bodyPost_ret (v := .agg #[.int .i64 1, .string t.s, .slice none 0 0]) (by simp [results, Try.results50, go_sem, q0, q1, q2]) rfl ?_
  rw [HE.out]
  exact leaf_end HZ.out
set_option maxHeartbeats 1000000 in
theorem rdeep_text (s : ByteArray) (_hs : s.size ≤ 4096) (dp : Int) (_h0 : 0 ≤ dp) (hd : dp = 32) (W : World) (b : Nat) (t : Tk) (h : RS W b s (.ok () t)) (h3 : t.kind = 3) :
    Calls Try.prog 50 #[.pointer (some ⟨b, 0, none⟩), .int .i64 dp] W fun e W' => PE W b s (termP s.data.toList 0 t) e W' := by
  obtain ⟨⟨pl, hX⟩, hv, hsm⟩ := id h
  have hZ := ((ZV.start h).push zeroX.toList 26 (g := W.heap.size) rfl).push [.int .i64 t.kind, .string t.s, .int .i64 t.pl, .int .i64 t.fin] 37 (g := W.heap.size + 1) (by simp)
  change ZV W ((W.alloc (.cells zeroX 26)).alloc (.cells #[.int .i64 t.kind, .string t.s, .int .i64 t.pl, .int .i64 t.fin] 37)) b s (.ok () t) [(W.heap.size, zeroX.toList), (W.heap.size + 1, [.int .i64 t.kind, .string t.s, .int .i64 t.pl, .int .i64 t.fin])] at hZ
  have k3 : ((t.kind : Int) != 3) = false := by simp [h3]
  have k3b : ((t.kind : Int) == 3) = true := by simp [h3]
  have d1 : (dp == 32) = true := by simp [hd]
  have HE := Lib.hid (term_deep (s := s.data.toList) (t := t) (by simp [termOk, h3]))
  clear h3
  have HZ := Lib.hid hZ
  obtain ⟨lt, c0, c1, c2, c3, c4, c5, c6, fz⟩ := hX
  have u0 := hZ.at 1 0 rfl rfl
  have u1 := hZ.at 1 1 rfl rfl
  have u2 := hZ.at 1 2 rfl rfl
  have uf := hZ.fz 1 rfl
  clear h hZ hsm hv
  go_enter Try.func50, Try.ntmps50
  go_wp2_with fail
  have hc := rfail_any _ b s _ t.pl 4 (by decide) (fun u t' e => by cases e; rfl) HZ.out.rs
  refine hc.mono ?_
  rintro e w2 ⟨rfl, hF⟩
  have hZ := HZ.out.call hF
  clear lt c0 c1 c2 c3 c4 c5 c6 fz u0 u1 u2 uf hc hF
  have q0 := hZ.at 0 0 rfl rfl
  have q1 := hZ.at 0 1 rfl rfl
  have q2 := hZ.at 0 2 rfl rfl
  have qf := hZ.fz 0 rfl
  have HZ := Lib.hid hZ
  clear hZ
  go_wp2_with fail
  refine bodyPost_ret (v := .agg #[.int .i64 0, .string ⟨#[]⟩, .slice none 0 0]) (by simp [results, Try.results50, go_sem, q0, q1, q2]) rfl ?_
  rw [HE.out]
  exact HZ.out.pe (R := .bad t.pl 4) (Nat.le_refl _) (fun x t h => by cases h)
set_option maxHeartbeats 1000000 in
theorem rterm_par (s : ByteArray) (hs : s.size ≤ 4096) (dp : Int) (h0 : 0 ≤ dp) (h1 : dp < 32) (h' : Nat) (hf : ExprR s (dp + 1) (exprP s.data.toList (termP s.data.toList h'))) (W : World) (b : Nat) (t : Tk) (h : RS W b s (.ok () t)) (w1 : isW t [40] = true) :
    Calls Try.prog 50 #[.pointer (some ⟨b, 0, none⟩), .int .i64 dp] W fun e W' => PE W b s (termP s.data.toList (h' + 1) t) e W' := by
  obtain ⟨⟨pl, hX⟩, hv, hsm⟩ := id h
  have hZ := ((ZV.start h).push zeroX.toList 26 (g := W.heap.size) rfl).push [.int .i64 t.kind, .string t.s, .int .i64 t.pl, .int .i64 t.fin] 37 (g := W.heap.size + 1) (by simp)
  change ZV W ((W.alloc (.cells zeroX 26)).alloc (.cells #[.int .i64 t.kind, .string t.s, .int .i64 t.pl, .int .i64 t.fin] 37)) b s (.ok () t) [(W.heap.size, zeroX.toList), (W.heap.size + 1, [.int .i64 t.kind, .string t.s, .int .i64 t.pl, .int .i64 t.fin])] at hZ
  have h3 : t.kind ≠ 3 := isW_no3 w1
  have k3 : ((t.kind : Int) != 3) = true := by rw [bne, beq_eq_false_iff_ne.2 (by omega)]; rfl
  have k3b : ((t.kind : Int) == 3) = false := by rw [beq_eq_false_iff_ne]; omega
  have hh1 := rhas_any ((W.alloc (.cells zeroX 26)).alloc (.cells #[.int .i64 t.kind, .string t.s, .int .i64 t.pl, .int .i64 t.fin] 37)) b s (.ok () t) ⟨#[40]⟩ hZ.rs
  rw [show hasS (.ok () t) (⟨#[40]⟩ : ByteArray).data.toList = true from w1] at hh1
  have e1 : (t.s.toList == [40]) = true := by rw [ByteArray.toList_eq]; exact (isW_full hv h3 (by decide)).symm.trans w1
  have d1 : (dp == 32) = false := by simp; omega
  have hd : IntKind.i64.wrap (dp + 1) = dp + 1 := IntWalk.i64_in _ (by omega)
  have HE := Lib.hid (term_par (s := s.data.toList) (h := h') w1)
  clear w1 h3
  have HZ := Lib.hid hZ
  obtain ⟨lt, c0, c1, c2, c3, c4, c5, c6, fz⟩ := hX
  have u0 := hZ.at 1 0 rfl rfl
  have u1 := hZ.at 1 1 rfl rfl
  have u2 := hZ.at 1 2 rfl rfl
  have uf := hZ.fz 1 rfl
  clear h hZ hsm hv
  go_enter Try.func50, Try.ntmps50
  go_wp2_with fail
  refine hh1.mono ?_
  rintro e w1 ⟨rfl, rfl⟩
  clear hh1
  go_wp2_with fail
  have hc := rstep_any _ b s _ hs HZ.out.rs
  refine hc.mono ?_
  rintro e w2 ⟨rfl, hF⟩
  have hZ := HZ.out.call hF
  clear lt c0 c1 c2 c3 c4 c5 c6 fz u0 u1 u2 uf hc hF
  have u0 := hZ.at 1 0 rfl rfl
  have u1 := hZ.at 1 1 rfl rfl
  have u2 := hZ.at 1 2 rfl rfl
  have uf := hZ.fz 1 rfl
  have HZ := Lib.hid hZ
  clear hZ
  have hc := hf w2 b _ HZ.out.rs
  go_wp2_with fail
  refine hc.mono ?_
  rintro e w3 ⟨k3, σ3, sl3, n3, c3, rfl, hF, hrep⟩
  have HR := Lib.hid hrep
  have H2 := Lib.hid (HZ.out.lt 1 rfl)
  have hZ := (HZ.out.call hF).push [.int .i64 k3, .string σ3, .slice sl3 n3 c3] 26 rfl
  change ZV W (w3.alloc (.cells #[.int .i64 k3, .string σ3, .slice sl3 n3 c3] 26)) b s _ _ at hZ
  have hc := rwant_any _ b s _ ⟨#[41]⟩ hs hZ.rs
  have HZ := Lib.hid hZ
  clear hF hZ hrep
  go_wp2_with fail
  refine hc.mono ?_
  rintro e w4 ⟨rfl, hF⟩
  have hZ := HZ.out.call hF
  have HF := Lib.hid hF.fq
  clear hc hF
  have q0 := hZ.at 0 0 rfl rfl
  have q1 := hZ.at 0 1 rfl rfl
  have q2 := hZ.at 0 2 rfl rfl
  have qf := hZ.fz 0 rfl
  have x0 := hZ.at 2 0 rfl rfl
  have x1 := hZ.at 2 1 rfl rfl
  have x2 := hZ.at 2 2 rfl rfl
  have xf := hZ.fz 2 rfl
  have HZ := Lib.hid hZ
  clear hZ
  go_wp2_with fail
  refine bodyPost_ret (v := .agg #[.int .i64 k3, .string σ3, .slice sl3 n3 c3]) (by simp [results, Try.results50, go_sem, q0, q1, q2]) rfl ?_
  rw [HE.out]
  exact par_end HZ.out H2.out HF.out HR.out
set_option maxHeartbeats 1000000 in
theorem rdeep_par (s : ByteArray) (_hs : s.size ≤ 4096) (dp : Int) (_h0 : 0 ≤ dp) (hd : dp = 32) (W : World) (b : Nat) (t : Tk) (h : RS W b s (.ok () t)) (w1 : isW t [40] = true) :
    Calls Try.prog 50 #[.pointer (some ⟨b, 0, none⟩), .int .i64 dp] W fun e W' => PE W b s (termP s.data.toList 0 t) e W' := by
  obtain ⟨⟨pl, hX⟩, hv, hsm⟩ := id h
  have hZ := ((ZV.start h).push zeroX.toList 26 (g := W.heap.size) rfl).push [.int .i64 t.kind, .string t.s, .int .i64 t.pl, .int .i64 t.fin] 37 (g := W.heap.size + 1) (by simp)
  change ZV W ((W.alloc (.cells zeroX 26)).alloc (.cells #[.int .i64 t.kind, .string t.s, .int .i64 t.pl, .int .i64 t.fin] 37)) b s (.ok () t) [(W.heap.size, zeroX.toList), (W.heap.size + 1, [.int .i64 t.kind, .string t.s, .int .i64 t.pl, .int .i64 t.fin])] at hZ
  have h3 : t.kind ≠ 3 := isW_no3 w1
  have k3 : ((t.kind : Int) != 3) = true := by rw [bne, beq_eq_false_iff_ne.2 (by omega)]; rfl
  have k3b : ((t.kind : Int) == 3) = false := by rw [beq_eq_false_iff_ne]; omega
  have hh1 := rhas_any ((W.alloc (.cells zeroX 26)).alloc (.cells #[.int .i64 t.kind, .string t.s, .int .i64 t.pl, .int .i64 t.fin] 37)) b s (.ok () t) ⟨#[40]⟩ hZ.rs
  rw [show hasS (.ok () t) (⟨#[40]⟩ : ByteArray).data.toList = true from w1] at hh1
  have d1 : (dp == 32) = true := by simp [hd]
  have HE := Lib.hid (term_deep (s := s.data.toList) (t := t) (by simp [termOk, w1]))
  clear w1 h3
  have HZ := Lib.hid hZ
  obtain ⟨lt, c0, c1, c2, c3, c4, c5, c6, fz⟩ := hX
  have u0 := hZ.at 1 0 rfl rfl
  have u1 := hZ.at 1 1 rfl rfl
  have u2 := hZ.at 1 2 rfl rfl
  have uf := hZ.fz 1 rfl
  clear h hZ hsm hv
  go_enter Try.func50, Try.ntmps50
  go_wp2_with fail
  refine hh1.mono ?_
  rintro e w1 ⟨rfl, rfl⟩
  clear hh1
  go_wp2_with fail
  have hc := rfail_any _ b s _ t.pl 4 (by decide) (fun u t' e => by cases e; rfl) HZ.out.rs
  refine hc.mono ?_
  rintro e w2 ⟨rfl, hF⟩
  have hZ := HZ.out.call hF
  clear lt c0 c1 c2 c3 c4 c5 c6 fz u0 u1 u2 uf hc hF
  have q0 := hZ.at 0 0 rfl rfl
  have q1 := hZ.at 0 1 rfl rfl
  have q2 := hZ.at 0 2 rfl rfl
  have qf := hZ.fz 0 rfl
  have HZ := Lib.hid hZ
  clear hZ
  go_wp2_with fail
  refine bodyPost_ret (v := .agg #[.int .i64 0, .string ⟨#[]⟩, .slice none 0 0]) (by simp [results, Try.results50, go_sem, q0, q1, q2]) rfl ?_
  rw [HE.out]
  exact HZ.out.pe (R := .bad t.pl 4) (Nat.le_refl _) (fun x t h => by cases h)
set_option maxHeartbeats 1000000 in
theorem rdeep_cond (s : ByteArray) (_hs : s.size ≤ 4096) (dp : Int) (_h0 : 0 ≤ dp) (hd : dp = 32) (W : World) (b : Nat) (t : Tk) (h : RS W b s (.ok () t)) (w1 : isW t [40] = false) (w2 : isW t [105, 102] = true) :
    Calls Try.prog 50 #[.pointer (some ⟨b, 0, none⟩), .int .i64 dp] W fun e W' => PE W b s (termP s.data.toList 0 t) e W' := by
  obtain ⟨⟨pl, hX⟩, hv, hsm⟩ := id h
  have hZ := ((ZV.start h).push zeroX.toList 26 (g := W.heap.size) rfl).push [.int .i64 t.kind, .string t.s, .int .i64 t.pl, .int .i64 t.fin] 37 (g := W.heap.size + 1) (by simp)
  change ZV W ((W.alloc (.cells zeroX 26)).alloc (.cells #[.int .i64 t.kind, .string t.s, .int .i64 t.pl, .int .i64 t.fin] 37)) b s (.ok () t) [(W.heap.size, zeroX.toList), (W.heap.size + 1, [.int .i64 t.kind, .string t.s, .int .i64 t.pl, .int .i64 t.fin])] at hZ
  have h3 : t.kind ≠ 3 := isW_no3 w2
  have k3 : ((t.kind : Int) != 3) = true := by rw [bne, beq_eq_false_iff_ne.2 (by omega)]; rfl
  have k3b : ((t.kind : Int) == 3) = false := by rw [beq_eq_false_iff_ne]; omega
  have hh1 := rhas_any ((W.alloc (.cells zeroX 26)).alloc (.cells #[.int .i64 t.kind, .string t.s, .int .i64 t.pl, .int .i64 t.fin] 37)) b s (.ok () t) ⟨#[40]⟩ hZ.rs
  rw [show hasS (.ok () t) (⟨#[40]⟩ : ByteArray).data.toList = false from w1] at hh1
  have hh2 := rhas_any ((W.alloc (.cells zeroX 26)).alloc (.cells #[.int .i64 t.kind, .string t.s, .int .i64 t.pl, .int .i64 t.fin] 37)) b s (.ok () t) ⟨#[105, 102]⟩ hZ.rs
  rw [show hasS (.ok () t) (⟨#[105, 102]⟩ : ByteArray).data.toList = true from w2] at hh2
  have d1 : (dp == 32) = true := by simp [hd]
  have HE := Lib.hid (term_deep (s := s.data.toList) (t := t) (by simp [termOk, w2]))
  clear w1 w2 h3
  have HZ := Lib.hid hZ
  obtain ⟨lt, c0, c1, c2, c3, c4, c5, c6, fz⟩ := hX
  have u0 := hZ.at 1 0 rfl rfl
  have u1 := hZ.at 1 1 rfl rfl
  have u2 := hZ.at 1 2 rfl rfl
  have uf := hZ.fz 1 rfl
  clear h hZ hsm hv
  go_enter Try.func50, Try.ntmps50
  go_wp2_with fail
  refine hh1.mono ?_
  rintro e w1 ⟨rfl, rfl⟩
  clear hh1
  go_wp2_with fail
  refine hh2.mono ?_
  rintro e w1 ⟨rfl, rfl⟩
  clear hh2
  go_wp2_with fail
  have hc := rfail_any _ b s _ t.pl 4 (by decide) (fun u t' e => by cases e; rfl) HZ.out.rs
  refine hc.mono ?_
  rintro e w2 ⟨rfl, hF⟩
  have hZ := HZ.out.call hF
  clear lt c0 c1 c2 c3 c4 c5 c6 fz u0 u1 u2 uf hc hF
  have q0 := hZ.at 0 0 rfl rfl
  have q1 := hZ.at 0 1 rfl rfl
  have q2 := hZ.at 0 2 rfl rfl
  have qf := hZ.fz 0 rfl
  have HZ := Lib.hid hZ
  clear hZ
  go_wp2_with fail
  refine bodyPost_ret (v := .agg #[.int .i64 0, .string ⟨#[]⟩, .slice none 0 0]) (by simp [results, Try.results50, go_sem, q0, q1, q2]) rfl ?_
  rw [HE.out]
  exact HZ.out.pe (R := .bad t.pl 4) (Nat.le_refl _) (fun x t h => by cases h)
set_option maxHeartbeats 1000000 in
theorem rterm_bind (s : ByteArray) (hs : s.size ≤ 4096) (dp : Int) (h0 : 0 ≤ dp) (h1 : dp < 32) (h' : Nat) (hf : ExprR s (dp + 1) (exprP s.data.toList (termP s.data.toList h'))) (W : World) (b : Nat) (t : Tk) (h : RS W b s (.ok () t)) (w1 : isW t [40] = false) (w2 : isW t [105, 102] = false) (w3 : isW t [108, 101, 116] = true) :
    Calls Try.prog 50 #[.pointer (some ⟨b, 0, none⟩), .int .i64 dp] W fun e W' => PE W b s (termP s.data.toList (h' + 1) t) e W' := by
  obtain ⟨⟨pl, hX⟩, hv, hsm⟩ := id h
  have hZ := ((ZV.start h).push zeroX.toList 26 (g := W.heap.size) rfl).push [.int .i64 t.kind, .string t.s, .int .i64 t.pl, .int .i64 t.fin] 37 (g := W.heap.size + 1) (by simp)
  change ZV W ((W.alloc (.cells zeroX 26)).alloc (.cells #[.int .i64 t.kind, .string t.s, .int .i64 t.pl, .int .i64 t.fin] 37)) b s (.ok () t) [(W.heap.size, zeroX.toList), (W.heap.size + 1, [.int .i64 t.kind, .string t.s, .int .i64 t.pl, .int .i64 t.fin])] at hZ
  have h3 : t.kind ≠ 3 := isW_no3 w3
  have k3 : ((t.kind : Int) != 3) = true := by rw [bne, beq_eq_false_iff_ne.2 (by omega)]; rfl
  have k3b : ((t.kind : Int) == 3) = false := by rw [beq_eq_false_iff_ne]; omega
  have hh1 := rhas_any ((W.alloc (.cells zeroX 26)).alloc (.cells #[.int .i64 t.kind, .string t.s, .int .i64 t.pl, .int .i64 t.fin] 37)) b s (.ok () t) ⟨#[40]⟩ hZ.rs
  rw [show hasS (.ok () t) (⟨#[40]⟩ : ByteArray).data.toList = false from w1] at hh1
  have hh2 := rhas_any ((W.alloc (.cells zeroX 26)).alloc (.cells #[.int .i64 t.kind, .string t.s, .int .i64 t.pl, .int .i64 t.fin] 37)) b s (.ok () t) ⟨#[105, 102]⟩ hZ.rs
  rw [show hasS (.ok () t) (⟨#[105, 102]⟩ : ByteArray).data.toList = false from w2] at hh2
  have hh3 := rhas_any ((W.alloc (.cells zeroX 26)).alloc (.cells #[.int .i64 t.kind, .string t.s, .int .i64 t.pl, .int .i64 t.fin] 37)) b s (.ok () t) ⟨#[108, 101, 116]⟩ hZ.rs
  rw [show hasS (.ok () t) (⟨#[108, 101, 116]⟩ : ByteArray).data.toList = true from w3] at hh3
  have e1 : (t.s.toList == [40]) = false := by rw [ByteArray.toList_eq]; exact (isW_full hv h3 (by decide)).symm.trans w1
  have e2 : (t.s.toList == [105, 102]) = false := by rw [ByteArray.toList_eq]; exact (isW_full hv h3 (by decide)).symm.trans w2
  have e3 : (t.s.toList == [108, 101, 116]) = true := by rw [ByteArray.toList_eq]; exact (isW_full hv h3 (by decide)).symm.trans w3
  have d1 : (dp == 32) = false := by simp; omega
  have HE := Lib.hid (show termP s.data.toList (h' + 1) t = (stepT s.data.toList t).bind fun _ t1 => letP s.data.toList (exprP s.data.toList (termP s.data.toList h')) t1 by rw [term_let w3]; congr 1; funext _ t1; rw [let_name])
  clear w1 w2 w3 h3
  have HZ := Lib.hid hZ
  obtain ⟨lt, c0, c1, c2, c3, c4, c5, c6, fz⟩ := hX
  have u0 := hZ.at 1 0 rfl rfl
  have u1 := hZ.at 1 1 rfl rfl
  have u2 := hZ.at 1 2 rfl rfl
  have uf := hZ.fz 1 rfl
  clear h hZ hsm hv
  go_enter Try.func50, Try.ntmps50
  go_wp2_with fail
  refine hh1.mono ?_
  rintro e w1 ⟨rfl, rfl⟩
  clear hh1
  go_wp2_with fail
  refine hh2.mono ?_
  rintro e w1 ⟨rfl, rfl⟩
  clear hh2
  go_wp2_with fail
  refine hh3.mono ?_
  rintro e w1 ⟨rfl, rfl⟩
  clear hh3
  go_wp2_with fail
  have hc := rstep_any _ b s _ hs HZ.out.rs
  refine hc.mono ?_
  rintro e w2 ⟨rfl, hF⟩
  have hZ := HZ.out.call hF
  clear lt c0 c1 c2 c3 c4 c5 c6 fz u0 u1 u2 uf hc hF
  have u0 := hZ.at 1 0 rfl rfl
  have u1 := hZ.at 1 1 rfl rfl
  have u2 := hZ.at 1 2 rfl rfl
  have uf := hZ.fz 1 rfl
  have HZ := Lib.hid hZ
  clear hZ
  have hc := rlet_any s hs dp h0 h1 _ hf w2 b _ HZ.out.rs
  go_wp2_with fail
  refine hc.mono ?_
  rintro e w3 ⟨k3, σ3, sl3, n3, c3, rfl, hF, hrep⟩
  have HR := Lib.hid hrep
  have H2 := Lib.hid (HZ.out.lt 1 rfl)
  have hZ := HZ.out.call hF
  clear hF hc hrep
  have q0 := hZ.at 0 0 rfl rfl
  have q1 := hZ.at 0 1 rfl rfl
  have q2 := hZ.at 0 2 rfl rfl
  have qf := hZ.fz 0 rfl
  have HZ := Lib.hid hZ
  clear hZ
  go_wp2_with fail
  refine bodyPost_ret (v := .agg #[.int .i64 k3, .string σ3, .slice sl3 n3 c3]) (by simp [results, Try.results50, go_sem, q0, q1, q2]) rfl ?_
  rw [HE.out]
  exact HZ.out.pe (Nat.le_refl _) fun x t h => (HR.out x t h).sub fun j hj => ⟨by have := H2.out; omega, hj.2, by have := H2.out; omega⟩
set_option maxHeartbeats 1000000 in
theorem rdeep_bind (s : ByteArray) (_hs : s.size ≤ 4096) (dp : Int) (_h0 : 0 ≤ dp) (hd : dp = 32) (W : World) (b : Nat) (t : Tk) (h : RS W b s (.ok () t)) (w1 : isW t [40] = false) (w2 : isW t [105, 102] = false) (w3 : isW t [108, 101, 116] = true) :
    Calls Try.prog 50 #[.pointer (some ⟨b, 0, none⟩), .int .i64 dp] W fun e W' => PE W b s (termP s.data.toList 0 t) e W' := by
  obtain ⟨⟨pl, hX⟩, hv, hsm⟩ := id h
  have hZ := ((ZV.start h).push zeroX.toList 26 (g := W.heap.size) rfl).push [.int .i64 t.kind, .string t.s, .int .i64 t.pl, .int .i64 t.fin] 37 (g := W.heap.size + 1) (by simp)
  change ZV W ((W.alloc (.cells zeroX 26)).alloc (.cells #[.int .i64 t.kind, .string t.s, .int .i64 t.pl, .int .i64 t.fin] 37)) b s (.ok () t) [(W.heap.size, zeroX.toList), (W.heap.size + 1, [.int .i64 t.kind, .string t.s, .int .i64 t.pl, .int .i64 t.fin])] at hZ
  have h3 : t.kind ≠ 3 := isW_no3 w3
  have k3 : ((t.kind : Int) != 3) = true := by rw [bne, beq_eq_false_iff_ne.2 (by omega)]; rfl
  have k3b : ((t.kind : Int) == 3) = false := by rw [beq_eq_false_iff_ne]; omega
  have hh1 := rhas_any ((W.alloc (.cells zeroX 26)).alloc (.cells #[.int .i64 t.kind, .string t.s, .int .i64 t.pl, .int .i64 t.fin] 37)) b s (.ok () t) ⟨#[40]⟩ hZ.rs
  rw [show hasS (.ok () t) (⟨#[40]⟩ : ByteArray).data.toList = false from w1] at hh1
  have hh2 := rhas_any ((W.alloc (.cells zeroX 26)).alloc (.cells #[.int .i64 t.kind, .string t.s, .int .i64 t.pl, .int .i64 t.fin] 37)) b s (.ok () t) ⟨#[105, 102]⟩ hZ.rs
  rw [show hasS (.ok () t) (⟨#[105, 102]⟩ : ByteArray).data.toList = false from w2] at hh2
  have hh3 := rhas_any ((W.alloc (.cells zeroX 26)).alloc (.cells #[.int .i64 t.kind, .string t.s, .int .i64 t.pl, .int .i64 t.fin] 37)) b s (.ok () t) ⟨#[108, 101, 116]⟩ hZ.rs
  rw [show hasS (.ok () t) (⟨#[108, 101, 116]⟩ : ByteArray).data.toList = true from w3] at hh3
  have d1 : (dp == 32) = true := by simp [hd]
  have HE := Lib.hid (term_deep (s := s.data.toList) (t := t) (by simp [termOk, w3]))
  clear w1 w2 w3 h3
  have HZ := Lib.hid hZ
  obtain ⟨lt, c0, c1, c2, c3, c4, c5, c6, fz⟩ := hX
  have u0 := hZ.at 1 0 rfl rfl
  have u1 := hZ.at 1 1 rfl rfl
  have u2 := hZ.at 1 2 rfl rfl
  have uf := hZ.fz 1 rfl
  clear h hZ hsm hv
  go_enter Try.func50, Try.ntmps50
  go_wp2_with fail
  refine hh1.mono ?_
  rintro e w1 ⟨rfl, rfl⟩
  clear hh1
  go_wp2_with fail
  refine hh2.mono ?_
  rintro e w1 ⟨rfl, rfl⟩
  clear hh2
  go_wp2_with fail
  refine hh3.mono ?_
  rintro e w1 ⟨rfl, rfl⟩
  clear hh3
  go_wp2_with fail
  have hc := rfail_any _ b s _ t.pl 4 (by decide) (fun u t' e => by cases e; rfl) HZ.out.rs
  refine hc.mono ?_
  rintro e w2 ⟨rfl, hF⟩
  have hZ := HZ.out.call hF
  clear lt c0 c1 c2 c3 c4 c5 c6 fz u0 u1 u2 uf hc hF
  have q0 := hZ.at 0 0 rfl rfl
  have q1 := hZ.at 0 1 rfl rfl
  have q2 := hZ.at 0 2 rfl rfl
  have qf := hZ.fz 0 rfl
  have HZ := Lib.hid hZ
  clear hZ
  go_wp2_with fail
  refine bodyPost_ret (v := .agg #[.int .i64 0, .string ⟨#[]⟩, .slice none 0 0]) (by simp [results, Try.results50, go_sem, q0, q1, q2]) rfl ?_
  rw [HE.out]
  exact HZ.out.pe (R := .bad t.pl 4) (Nat.le_refl _) (fun x t h => by cases h)
set_option maxHeartbeats 1000000 in
theorem rterm_word (s : ByteArray) (hs : s.size ≤ 4096) (dp : Int) (h0 : 0 ≤ dp) (h1 : dp < 32) (h' : Nat) (W : World) (b : Nat) (t : Tk) (h : RS W b s (.ok () t)) (w1 : isW t [40] = false) (w2 : isW t [105, 102] = false) (w3 : isW t [108, 101, 116] = false) (hk1 : t.kind = 1) (hnm : nameL t.s.data.toList = true) :
    Calls Try.prog 50 #[.pointer (some ⟨b, 0, none⟩), .int .i64 dp] W fun e W' => PE W b s (termP s.data.toList (h' + 1) t) e W' := by
  obtain ⟨⟨pl, hX⟩, hv, hsm⟩ := id h
  have hZ := ((ZV.start h).push zeroX.toList 26 (g := W.heap.size) rfl).push [.int .i64 t.kind, .string t.s, .int .i64 t.pl, .int .i64 t.fin] 37 (g := W.heap.size + 1) (by simp)
  change ZV W ((W.alloc (.cells zeroX 26)).alloc (.cells #[.int .i64 t.kind, .string t.s, .int .i64 t.pl, .int .i64 t.fin] 37)) b s (.ok () t) [(W.heap.size, zeroX.toList), (W.heap.size + 1, [.int .i64 t.kind, .string t.s, .int .i64 t.pl, .int .i64 t.fin])] at hZ
  have h3 : t.kind ≠ 3 := by omega
  have k3 : ((t.kind : Int) != 3) = true := by rw [bne, beq_eq_false_iff_ne.2 (by omega)]; rfl
  have k3b : ((t.kind : Int) == 3) = false := by rw [beq_eq_false_iff_ne]; omega
  have hh1 := rhas_any ((W.alloc (.cells zeroX 26)).alloc (.cells #[.int .i64 t.kind, .string t.s, .int .i64 t.pl, .int .i64 t.fin] 37)) b s (.ok () t) ⟨#[40]⟩ hZ.rs
  rw [show hasS (.ok () t) (⟨#[40]⟩ : ByteArray).data.toList = false from w1] at hh1
  have hh2 := rhas_any ((W.alloc (.cells zeroX 26)).alloc (.cells #[.int .i64 t.kind, .string t.s, .int .i64 t.pl, .int .i64 t.fin] 37)) b s (.ok () t) ⟨#[105, 102]⟩ hZ.rs
  rw [show hasS (.ok () t) (⟨#[105, 102]⟩ : ByteArray).data.toList = false from w2] at hh2
  have hh3 := rhas_any ((W.alloc (.cells zeroX 26)).alloc (.cells #[.int .i64 t.kind, .string t.s, .int .i64 t.pl, .int .i64 t.fin] 37)) b s (.ok () t) ⟨#[108, 101, 116]⟩ hZ.rs
  rw [show hasS (.ok () t) (⟨#[108, 101, 116]⟩ : ByteArray).data.toList = false from w3] at hh3
  have k1 : ((t.kind : Int) == 1) = true := by simp [hk1]
  have hn := rname0_any t.s ((W.alloc (.cells zeroX 26)).alloc (.cells #[.int .i64 t.kind, .string t.s, .int .i64 t.pl, .int .i64 t.fin] 37)) (by omega)
  rw [hnm] at hn
  have hX1 : RX ((W.alloc (.cells zeroX 26)).alloc (.cells #[.int .i64 t.kind, .string t.s, .int .i64 t.pl, .int .i64 t.fin] 37)) b s t.kind t.s t.pl t.fin 0 pl := (hX.keep ((Below.refl _ _).alloc (Nat.le_refl _) _)).keep ((Below.refl _ _).alloc (Nat.le_refl _) _)
  have e1 : (t.s.toList == [40]) = false := by rw [ByteArray.toList_eq]; exact (isW_full hv h3 (by decide)).symm.trans w1
  have e2 : (t.s.toList == [105, 102]) = false := by rw [ByteArray.toList_eq]; exact (isW_full hv h3 (by decide)).symm.trans w2
  have e3 : (t.s.toList == [108, 101, 116]) = false := by rw [ByteArray.toList_eq]; exact (isW_full hv h3 (by decide)).symm.trans w3
  have d1 : (dp == 32) = false := by simp; omega
  have HE := Lib.hid (term_name (s := s.data.toList) (h := h') hk1 hnm w1 w2 w3)
  clear w1 w2 w3 h3 hk1 hnm
  have HZ := Lib.hid hZ
  obtain ⟨lt, c0, c1, c2, c3, c4, c5, c6, fz⟩ := hX
  have u0 := hZ.at 1 0 rfl rfl
  have u1 := hZ.at 1 1 rfl rfl
  have u2 := hZ.at 1 2 rfl rfl
  have uf := hZ.fz 1 rfl
  clear h hZ hsm hv
  go_enter Try.func50, Try.ntmps50
  go_wp2_with fail
  refine hh1.mono ?_
  rintro e w1 ⟨rfl, rfl⟩
  clear hh1
  go_wp2_with fail
  refine hh2.mono ?_
  rintro e w1 ⟨rfl, rfl⟩
  clear hh2
  go_wp2_with fail
  refine hh3.mono ?_
  rintro e w1 ⟨rfl, rfl⟩
  clear hh3
  go_wp2_with fail
  refine hn.mono ?_
  rintro e w1 ⟨rfl, hB⟩
  have hZ := HZ.out.below hB
  have hX := hX1.keep hB
  clear hn hB lt c0 c1 c2 c3 c4 c5 c6 fz u0 u1 u2 uf
  obtain ⟨lt, c0, c1, c2, c3, c4, c5, c6, fz⟩ := hX
  have u0 := hZ.at 1 0 rfl rfl
  have u1 := hZ.at 1 1 rfl rfl
  have u2 := hZ.at 1 2 rfl rfl
  have uf := hZ.fz 1 rfl
  have HZ := Lib.hid hZ
  clear hZ hX1
  go_wp2_with fail
  have hc := rstep_any _ b s _ hs HZ.out.rs
  refine hc.mono ?_
  rintro e w2 ⟨rfl, hF⟩
  have hZ := HZ.out.call hF
  clear lt c0 c1 c2 c3 c4 c5 c6 fz u0 u1 u2 uf hc hF
  have u0 := hZ.at 1 0 rfl rfl
  have u1 := hZ.at 1 1 rfl rfl
  have u2 := hZ.at 1 2 rfl rfl
  have uf := hZ.fz 1 rfl
  have q0 := hZ.at 0 0 rfl rfl
  have q1 := hZ.at 0 1 rfl rfl
  have q2 := hZ.at 0 2 rfl rfl
  have qf := hZ.fz 0 rfl
  have HZ := Lib.hid hZ
  clear hZ
  go_wp2_with fail
  refine bodyPost_ret (v := .agg #[.int .i64 2, .string t.s, .slice none 0 0]) (by simp [results, Try.results50, go_sem, q0, q1, q2]) rfl ?_
  rw [HE.out]
  exact leaf_end HZ.out
set_option maxHeartbeats 1000000 in
theorem rdeep_word (s : ByteArray) (_hs : s.size ≤ 4096) (dp : Int) (_h0 : 0 ≤ dp) (hd : dp = 32) (W : World) (b : Nat) (t : Tk) (h : RS W b s (.ok () t)) (w1 : isW t [40] = false) (w2 : isW t [105, 102] = false) (w3 : isW t [108, 101, 116] = false) (hk1 : t.kind = 1) (hnm : nameL t.s.data.toList = true) :
    Calls Try.prog 50 #[.pointer (some ⟨b, 0, none⟩), .int .i64 dp] W fun e W' => PE W b s (termP s.data.toList 0 t) e W' := by
  obtain ⟨⟨pl, hX⟩, hv, hsm⟩ := id h
  have hZ := ((ZV.start h).push zeroX.toList 26 (g := W.heap.size) rfl).push [.int .i64 t.kind, .string t.s, .int .i64 t.pl, .int .i64 t.fin] 37 (g := W.heap.size + 1) (by simp)
  change ZV W ((W.alloc (.cells zeroX 26)).alloc (.cells #[.int .i64 t.kind, .string t.s, .int .i64 t.pl, .int .i64 t.fin] 37)) b s (.ok () t) [(W.heap.size, zeroX.toList), (W.heap.size + 1, [.int .i64 t.kind, .string t.s, .int .i64 t.pl, .int .i64 t.fin])] at hZ
  have h3 : t.kind ≠ 3 := by omega
  have k3 : ((t.kind : Int) != 3) = true := by rw [bne, beq_eq_false_iff_ne.2 (by omega)]; rfl
  have k3b : ((t.kind : Int) == 3) = false := by rw [beq_eq_false_iff_ne]; omega
  have hh1 := rhas_any ((W.alloc (.cells zeroX 26)).alloc (.cells #[.int .i64 t.kind, .string t.s, .int .i64 t.pl, .int .i64 t.fin] 37)) b s (.ok () t) ⟨#[40]⟩ hZ.rs
  rw [show hasS (.ok () t) (⟨#[40]⟩ : ByteArray).data.toList = false from w1] at hh1
  have hh2 := rhas_any ((W.alloc (.cells zeroX 26)).alloc (.cells #[.int .i64 t.kind, .string t.s, .int .i64 t.pl, .int .i64 t.fin] 37)) b s (.ok () t) ⟨#[105, 102]⟩ hZ.rs
  rw [show hasS (.ok () t) (⟨#[105, 102]⟩ : ByteArray).data.toList = false from w2] at hh2
  have hh3 := rhas_any ((W.alloc (.cells zeroX 26)).alloc (.cells #[.int .i64 t.kind, .string t.s, .int .i64 t.pl, .int .i64 t.fin] 37)) b s (.ok () t) ⟨#[108, 101, 116]⟩ hZ.rs
  rw [show hasS (.ok () t) (⟨#[108, 101, 116]⟩ : ByteArray).data.toList = false from w3] at hh3
  have k1 : ((t.kind : Int) == 1) = true := by simp [hk1]
  have hn := rname0_any t.s ((W.alloc (.cells zeroX 26)).alloc (.cells #[.int .i64 t.kind, .string t.s, .int .i64 t.pl, .int .i64 t.fin] 37)) (by omega)
  rw [hnm] at hn
  have hX1 : RX ((W.alloc (.cells zeroX 26)).alloc (.cells #[.int .i64 t.kind, .string t.s, .int .i64 t.pl, .int .i64 t.fin] 37)) b s t.kind t.s t.pl t.fin 0 pl := (hX.keep ((Below.refl _ _).alloc (Nat.le_refl _) _)).keep ((Below.refl _ _).alloc (Nat.le_refl _) _)
  have d1 : (dp == 32) = true := by simp [hd]
  have HE := Lib.hid (term_deep (s := s.data.toList) (t := t) (by simp [termOk, hk1, hnm]))
  clear w1 w2 w3 h3 hk1 hnm
  have HZ := Lib.hid hZ
  obtain ⟨lt, c0, c1, c2, c3, c4, c5, c6, fz⟩ := hX
  have u0 := hZ.at 1 0 rfl rfl
  have u1 := hZ.at 1 1 rfl rfl
  have u2 := hZ.at 1 2 rfl rfl
  have uf := hZ.fz 1 rfl
  clear h hZ hsm hv
  go_enter Try.func50, Try.ntmps50
  go_wp2_with fail
  refine hh1.mono ?_
  rintro e w1 ⟨rfl, rfl⟩
  clear hh1
  go_wp2_with fail
  refine hh2.mono ?_
  rintro e w1 ⟨rfl, rfl⟩
  clear hh2
  go_wp2_with fail
  refine hh3.mono ?_
  rintro e w1 ⟨rfl, rfl⟩
  clear hh3
  go_wp2_with fail
  refine hn.mono ?_
  rintro e w1 ⟨rfl, hB⟩
  have hZ := HZ.out.below hB
  have hX := hX1.keep hB
  clear hn hB lt c0 c1 c2 c3 c4 c5 c6 fz u0 u1 u2 uf
  obtain ⟨lt, c0, c1, c2, c3, c4, c5, c6, fz⟩ := hX
  have u0 := hZ.at 1 0 rfl rfl
  have u1 := hZ.at 1 1 rfl rfl
  have u2 := hZ.at 1 2 rfl rfl
  have uf := hZ.fz 1 rfl
  have HZ := Lib.hid hZ
  clear hZ hX1
  go_wp2_with fail
  have hc := rfail_any _ b s _ t.pl 4 (by decide) (fun u t' e => by cases e; rfl) HZ.out.rs
  refine hc.mono ?_
  rintro e w2 ⟨rfl, hF⟩
  have hZ := HZ.out.call hF
  clear lt c0 c1 c2 c3 c4 c5 c6 fz u0 u1 u2 uf hc hF
  have q0 := hZ.at 0 0 rfl rfl
  have q1 := hZ.at 0 1 rfl rfl
  have q2 := hZ.at 0 2 rfl rfl
  have qf := hZ.fz 0 rfl
  have HZ := Lib.hid hZ
  clear hZ
  go_wp2_with fail
  refine bodyPost_ret (v := .agg #[.int .i64 0, .string ⟨#[]⟩, .slice none 0 0]) (by simp [results, Try.results50, go_sem, q0, q1, q2]) rfl ?_
  rw [HE.out]
  exact HZ.out.pe (R := .bad t.pl 4) (Nat.le_refl _) (fun x t h => by cases h)
set_option maxHeartbeats 1000000 in
theorem rfail_kind (s : ByteArray) (_hs : s.size ≤ 4096) (dp : Int) (_h0 : 0 ≤ dp) (h' : Nat) (W : World) (b : Nat) (t : Tk) (h : RS W b s (.ok () t)) (w1 : isW t [40] = false) (w2 : isW t [105, 102] = false) (w3 : isW t [108, 101, 116] = false) (h3 : t.kind ≠ 3) (hk1 : t.kind ≠ 1) :
    Calls Try.prog 50 #[.pointer (some ⟨b, 0, none⟩), .int .i64 dp] W fun e W' => PE W b s (termP s.data.toList h' t) e W' := by
  obtain ⟨⟨pl, hX⟩, hv, hsm⟩ := id h
  have hZ := ((ZV.start h).push zeroX.toList 26 (g := W.heap.size) rfl).push [.int .i64 t.kind, .string t.s, .int .i64 t.pl, .int .i64 t.fin] 37 (g := W.heap.size + 1) (by simp)
  change ZV W ((W.alloc (.cells zeroX 26)).alloc (.cells #[.int .i64 t.kind, .string t.s, .int .i64 t.pl, .int .i64 t.fin] 37)) b s (.ok () t) [(W.heap.size, zeroX.toList), (W.heap.size + 1, [.int .i64 t.kind, .string t.s, .int .i64 t.pl, .int .i64 t.fin])] at hZ
  have k3 : ((t.kind : Int) != 3) = true := by rw [bne, beq_eq_false_iff_ne.2 (by omega)]; rfl
  have k3b : ((t.kind : Int) == 3) = false := by rw [beq_eq_false_iff_ne]; omega
  have hh1 := rhas_any ((W.alloc (.cells zeroX 26)).alloc (.cells #[.int .i64 t.kind, .string t.s, .int .i64 t.pl, .int .i64 t.fin] 37)) b s (.ok () t) ⟨#[40]⟩ hZ.rs
  rw [show hasS (.ok () t) (⟨#[40]⟩ : ByteArray).data.toList = false from w1] at hh1
  have hh2 := rhas_any ((W.alloc (.cells zeroX 26)).alloc (.cells #[.int .i64 t.kind, .string t.s, .int .i64 t.pl, .int .i64 t.fin] 37)) b s (.ok () t) ⟨#[105, 102]⟩ hZ.rs
  rw [show hasS (.ok () t) (⟨#[105, 102]⟩ : ByteArray).data.toList = false from w2] at hh2
  have hh3 := rhas_any ((W.alloc (.cells zeroX 26)).alloc (.cells #[.int .i64 t.kind, .string t.s, .int .i64 t.pl, .int .i64 t.fin] 37)) b s (.ok () t) ⟨#[108, 101, 116]⟩ hZ.rs
  rw [show hasS (.ok () t) (⟨#[108, 101, 116]⟩ : ByteArray).data.toList = false from w3] at hh3
  have k1 : ((t.kind : Int) == 1) = false := by rw [beq_eq_false_iff_ne]; omega
  have HE := Lib.hid (term_no (s := s.data.toList) (t := t) (by simp [termOk, w1, w2, w3, h3, hk1]) h')
  clear w1 w2 w3 h3 hk1
  have HZ := Lib.hid hZ
  obtain ⟨lt, c0, c1, c2, c3, c4, c5, c6, fz⟩ := hX
  have u0 := hZ.at 1 0 rfl rfl
  have u1 := hZ.at 1 1 rfl rfl
  have u2 := hZ.at 1 2 rfl rfl
  have uf := hZ.fz 1 rfl
  clear h hZ hsm hv
  go_enter Try.func50, Try.ntmps50
  go_wp2_with fail
  refine hh1.mono ?_
  rintro e w1 ⟨rfl, rfl⟩
  clear hh1
  go_wp2_with fail
  refine hh2.mono ?_
  rintro e w1 ⟨rfl, rfl⟩
  clear hh2
  go_wp2_with fail
  refine hh3.mono ?_
  rintro e w1 ⟨rfl, rfl⟩
  clear hh3
  go_wp2_with fail
  have hc := rfail_any _ b s _ t.pl 50 (by decide) (fun u t' e => by cases e; rfl) HZ.out.rs
  refine hc.mono ?_
  rintro e w2 ⟨rfl, hF⟩
  have hZ := HZ.out.call hF
  clear lt c0 c1 c2 c3 c4 c5 c6 fz u0 u1 u2 uf hc hF
  have q0 := hZ.at 0 0 rfl rfl
  have q1 := hZ.at 0 1 rfl rfl
  have q2 := hZ.at 0 2 rfl rfl
  have qf := hZ.fz 0 rfl
  have HZ := Lib.hid hZ
  clear hZ
  go_wp2_with fail
  refine bodyPost_ret (v := .agg #[.int .i64 0, .string ⟨#[]⟩, .slice none 0 0]) (by simp [results, Try.results50, go_sem, q0, q1, q2]) rfl ?_
  rw [HE.out]
  exact HZ.out.pe (R := .bad t.pl 50) (Nat.le_refl _) (fun x t h => by cases h)
set_option maxHeartbeats 1000000 in
theorem rfail_name (s : ByteArray) (_hs : s.size ≤ 4096) (dp : Int) (_h0 : 0 ≤ dp) (h' : Nat) (W : World) (b : Nat) (t : Tk) (h : RS W b s (.ok () t)) (w1 : isW t [40] = false) (w2 : isW t [105, 102] = false) (w3 : isW t [108, 101, 116] = false) (hk1 : t.kind = 1) (hnm : nameL t.s.data.toList = false) :
    Calls Try.prog 50 #[.pointer (some ⟨b, 0, none⟩), .int .i64 dp] W fun e W' => PE W b s (termP s.data.toList h' t) e W' := by
  obtain ⟨⟨pl, hX⟩, hv, hsm⟩ := id h
  have hZ := ((ZV.start h).push zeroX.toList 26 (g := W.heap.size) rfl).push [.int .i64 t.kind, .string t.s, .int .i64 t.pl, .int .i64 t.fin] 37 (g := W.heap.size + 1) (by simp)
  change ZV W ((W.alloc (.cells zeroX 26)).alloc (.cells #[.int .i64 t.kind, .string t.s, .int .i64 t.pl, .int .i64 t.fin] 37)) b s (.ok () t) [(W.heap.size, zeroX.toList), (W.heap.size + 1, [.int .i64 t.kind, .string t.s, .int .i64 t.pl, .int .i64 t.fin])] at hZ
  have h3 : t.kind ≠ 3 := by omega
  have k3 : ((t.kind : Int) != 3) = true := by rw [bne, beq_eq_false_iff_ne.2 (by omega)]; rfl
  have k3b : ((t.kind : Int) == 3) = false := by rw [beq_eq_false_iff_ne]; omega
  have hh1 := rhas_any ((W.alloc (.cells zeroX 26)).alloc (.cells #[.int .i64 t.kind, .string t.s, .int .i64 t.pl, .int .i64 t.fin] 37)) b s (.ok () t) ⟨#[40]⟩ hZ.rs
  rw [show hasS (.ok () t) (⟨#[40]⟩ : ByteArray).data.toList = false from w1] at hh1
  have hh2 := rhas_any ((W.alloc (.cells zeroX 26)).alloc (.cells #[.int .i64 t.kind, .string t.s, .int .i64 t.pl, .int .i64 t.fin] 37)) b s (.ok () t) ⟨#[105, 102]⟩ hZ.rs
  rw [show hasS (.ok () t) (⟨#[105, 102]⟩ : ByteArray).data.toList = false from w2] at hh2
  have hh3 := rhas_any ((W.alloc (.cells zeroX 26)).alloc (.cells #[.int .i64 t.kind, .string t.s, .int .i64 t.pl, .int .i64 t.fin] 37)) b s (.ok () t) ⟨#[108, 101, 116]⟩ hZ.rs
  rw [show hasS (.ok () t) (⟨#[108, 101, 116]⟩ : ByteArray).data.toList = false from w3] at hh3
  have k1 : ((t.kind : Int) == 1) = true := by simp [hk1]
  have hn := rname0_any t.s ((W.alloc (.cells zeroX 26)).alloc (.cells #[.int .i64 t.kind, .string t.s, .int .i64 t.pl, .int .i64 t.fin] 37)) (by omega)
  rw [hnm] at hn
  have hX1 : RX ((W.alloc (.cells zeroX 26)).alloc (.cells #[.int .i64 t.kind, .string t.s, .int .i64 t.pl, .int .i64 t.fin] 37)) b s t.kind t.s t.pl t.fin 0 pl := (hX.keep ((Below.refl _ _).alloc (Nat.le_refl _) _)).keep ((Below.refl _ _).alloc (Nat.le_refl _) _)
  have HE := Lib.hid (term_no (s := s.data.toList) (t := t) (by simp [termOk, w1, w2, w3, h3, hnm]) h')
  clear w1 w2 w3 h3 hk1 hnm
  have HZ := Lib.hid hZ
  obtain ⟨lt, c0, c1, c2, c3, c4, c5, c6, fz⟩ := hX
  have u0 := hZ.at 1 0 rfl rfl
  have u1 := hZ.at 1 1 rfl rfl
  have u2 := hZ.at 1 2 rfl rfl
  have uf := hZ.fz 1 rfl
  clear h hZ hsm hv
  go_enter Try.func50, Try.ntmps50
  go_wp2_with fail
  refine hh1.mono ?_
  rintro e w1 ⟨rfl, rfl⟩
  clear hh1
  go_wp2_with fail
  refine hh2.mono ?_
  rintro e w1 ⟨rfl, rfl⟩
  clear hh2
  go_wp2_with fail
  refine hh3.mono ?_
  rintro e w1 ⟨rfl, rfl⟩
  clear hh3
  go_wp2_with fail
  refine hn.mono ?_
  rintro e w1 ⟨rfl, hB⟩
  have hZ := HZ.out.below hB
  have hX := hX1.keep hB
  clear hn hB lt c0 c1 c2 c3 c4 c5 c6 fz u0 u1 u2 uf
  obtain ⟨lt, c0, c1, c2, c3, c4, c5, c6, fz⟩ := hX
  have u0 := hZ.at 1 0 rfl rfl
  have u1 := hZ.at 1 1 rfl rfl
  have u2 := hZ.at 1 2 rfl rfl
  have uf := hZ.fz 1 rfl
  have HZ := Lib.hid hZ
  clear hZ hX1
  go_wp2_with fail
  have hc := rfail_any _ b s _ t.pl 50 (by decide) (fun u t' e => by cases e; rfl) HZ.out.rs
  refine hc.mono ?_
  rintro e w2 ⟨rfl, hF⟩
  have hZ := HZ.out.call hF
  clear lt c0 c1 c2 c3 c4 c5 c6 fz u0 u1 u2 uf hc hF
  have q0 := hZ.at 0 0 rfl rfl
  have q1 := hZ.at 0 1 rfl rfl
  have q2 := hZ.at 0 2 rfl rfl
  have qf := hZ.fz 0 rfl
  have HZ := Lib.hid hZ
  clear hZ
  go_wp2_with fail
  refine bodyPost_ret (v := .agg #[.int .i64 0, .string ⟨#[]⟩, .slice none 0 0]) (by simp [results, Try.results50, go_sem, q0, q1, q2]) rfl ?_
  rw [HE.out]
  exact HZ.out.pe (R := .bad t.pl 50) (Nat.le_refl _) (fun x t h => by cases h)
end Rc
end Go.Proofs.Ytcigggffaofkhaa
