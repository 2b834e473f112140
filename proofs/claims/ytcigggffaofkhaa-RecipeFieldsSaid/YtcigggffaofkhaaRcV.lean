/-
  Walk: the reader's term: lets, ifs. (printed by gen_RcU.py)
-/
import Derived.Test.YtcigggffaofkhaaRcU
namespace Go.Proofs.Ytcigggffaofkhaa
open Go.RowKit
namespace Rc

/-- an expression whose kids have just been laid -/
theorem rep_lit {W : World} {lo : Nat} (hlo : lo ≤ W.heap.size) (kind : Int) (s : ByteArray) (ts : List E) (qs : List Q3) (hlen : qs.length = ts.length) (hr : ∀ (i : Nat) (q : Q3) (t : E), qs[i]? = some q → ts[i]? = some t → RepX W (fun j => lo ≤ j ∧ j < W.heap.size) t (.agg #[q.1, q.2.1, q.2.2])) :
    RepX (W.alloc (.cells (row3 qs).toArray 26)) (fun j => lo ≤ j ∧ j < (W.alloc (.cells (row3 qs).toArray 26)).heap.size) (.mk kind s ts) (.agg #[.int .i64 kind, .string s, .slice (some ⟨W.heap.size, 0, none⟩) ts.length ts.length]) := by
  have hn := heap_alloc_new W (.cells (row3 qs).toArray 26)
  have hc : ∀ (i : Nat) (v : Value), (row3 qs)[i]? = some v → (W.alloc (.cells (row3 qs).toArray 26)).cell? ⟨W.heap.size, i, none⟩ = some v := fun i v hv => by
    simp only [World.cell?, hn]
    simpa using hv
  refine .mk kind s ts _ _ (fun i => (qs.getD i (.nilIface, .nilIface, .nilIface)).1) (fun i => (qs.getD i (.nilIface, .nilIface, .nilIface)).2.1) (fun i => (qs.getD i (.nilIface, .nilIface, .nilIface)).2.2) (Nat.le_refl _) (fun i t ht => ?_) (fun i t ht => ?_)
  · have hi : i < qs.length := by rw [hlen]; exact (List.getElem?_eq_some_iff.1 ht).1
    have hq : qs[i]? = some qs[i] := List.getElem?_eq_getElem hi
    rw [List.getD_eq_getElem?_getD, hq]
    obtain ⟨h1, h2, h3⟩ := row3_get qs i _ hq
    refine ⟨W.heap.size, 0, rfl, ⟨hlo, by simp⟩, ?_, ?_, ?_⟩
    · rw [Nat.zero_add]; exact hc _ _ h1
    · rw [Nat.zero_add]; exact hc _ _ h2
    · rw [Nat.zero_add]; exact hc _ _ h3
  · have hi : i < qs.length := by rw [hlen]; exact (List.getElem?_eq_some_iff.1 ht).1
    have hq : qs[i]? = some qs[i] := List.getElem?_eq_getElem hi
    rw [List.getD_eq_getElem?_getD, hq]
    exact (hr i _ t hq ht).move fun b hb => ⟨⟨hb.1, by have := hb.2; simp; omega⟩, heap_alloc_old W _ hb.2⟩
theorem lits2 {W : World} {S : Nat → Prop} {x1 x2 : E} {q1 q2 : Q3} (h1 : RepX W S x1 (.agg #[q1.1, q1.2.1, q1.2.2])) (h2 : RepX W S x2 (.agg #[q2.1, q2.2.1, q2.2.2])) :
    ∀ (i : Nat) (q : Q3) (t : E), [q1, q2][i]? = some q → [x1, x2][i]? = some t → RepX W S t (.agg #[q.1, q.2.1, q.2.2])
  | 0, q, t, hq, ht => by cases hq; cases ht; exact h1
  | 1, q, t, hq, ht => by cases hq; cases ht; exact h2
  | i + 2, q, t, hq, ht => by simp at hq
theorem lits4 {W : World} {S : Nat → Prop} {x1 x2 x3 x4 : E} {q1 q2 q3 q4 : Q3} (h1 : RepX W S x1 (.agg #[q1.1, q1.2.1, q1.2.2])) (h2 : RepX W S x2 (.agg #[q2.1, q2.2.1, q2.2.2])) (h3 : RepX W S x3 (.agg #[q3.1, q3.2.1, q3.2.2])) (h4 : RepX W S x4 (.agg #[q4.1, q4.2.1, q4.2.2])) :
    ∀ (i : Nat) (q : Q3) (t : E), [q1, q2, q3, q4][i]? = some q → [x1, x2, x3, x4][i]? = some t → RepX W S t (.agg #[q.1, q.2.1, q.2.2])
  | 0, q, t, hq, ht => by cases hq; cases ht; exact h1
  | 1, q, t, hq, ht => by cases hq; cases ht; exact h2
  | 2, q, t, hq, ht => by cases hq; cases ht; exact h3
  | 3, q, t, hq, ht => by cases hq; cases ht; exact h4
  | i + 4, q, t, hq, ht => by simp at hq
theorem BX.drewN {W wr : World} {g : Nat} {x : E} {k : Int} {σ : ByteArray} {sl : Option Addr} {n cap : Nat} (h : BX W wr g x k σ sl n cap) (m : Nat) : BX W (wr.drewN m) g x k σ sl n cap :=
  ⟨h.lo, h.c0, h.c1, h.c2, RepX.move (W := wr) (W' := wr.drewN m) (S := fun j => W.heap.size + 2 ≤ j ∧ j < wr.heap.size) (S' := fun j => W.heap.size + 2 ≤ j ∧ j < (wr.drewN m).heap.size) (fun _ hj => ⟨hj, rfl⟩) h.rep⟩
theorem leaves_res {fn : Func} {tmps tmps' : Array Value} {R : Ending → World → Prop} (h : results fn tmps' = results fn tmps) : ∀ (ds : List Deferred) (u : FrameMode) (w : World), Leaves Try.prog fn tmps' R ds u w → Leaves Try.prog fn tmps R ds u w
  | [], .returning, w, ⟨v, h1, h2⟩ => ⟨v, by rw [← h]; exact h1, h2⟩
  | [], .panicking _, _, hl => hl
  | [], .run, _, hl => hl
  | d :: ds, u, w, ⟨h1, fv, cap, f, args, h2, h3, h4⟩ => ⟨h1, fv, cap, f, args, h2, h3, h4.mono fun e u' w' hx => by
    cases e with
    | returned v => exact leaves_res h ds _ _ hx
    | panicked c => exact leaves_res h ds _ _ hx
    | outgrown => exact hx⟩
theorem leaves_put {R : Ending → World → Prop} {c : List PanicEntry} {a : Act} {d : Option Nat} {v : Value} {w : World} (hd : d ≠ some 2) (h : bodyPostD Try.prog Try.f58 R (.panic c) (a.put d v) w) : bodyPostD Try.prog Try.f58 R (.panic c) a w := by
  cases d with
  | none => exact h
  | some k =>
    have hk : k ≠ 2 := fun e => hd (by rw [e])
    refine leaves_res ?_ _ _ _ h
    have : (a.tmps.setIfInBounds k v)[2]? = a.tmps[2]? := Array.getElem?_setIfInBounds_ne hk
    simp [results, Try.results58, Act.put, this]
set_option maxHeartbeats 4000000 in
set_option maxRecDepth 100000 in
theorem term_bind (s : ByteArray) (hs : s.size ≤ 4096) (dp : Int) (h0 : 0 ≤ dp) (h1 : dp < 32) (h : Nat) (ih : TermC s (dp + 1) (termP s.data.toList h)) (W : World) (b : Nat) (t : Tk) (hk : RK W b s t dp) (hv : TV s t) (hw : isW t [108, 101, 116] = true) :
    Calls Try.prog 58 #[.pointer (some ⟨b, 0, none⟩)] W fun e W' => PX W b s dp (termP s.data.toList (h + 1) t) (valE W) e W' := by
  have hmf : ∀ (fn : Fn) (first cap : Array Value) (w : World), (Instr.makeFunc fn first cap).run Try.prog w = .ok (.func fn first cap) w := fun _ _ _ _ => rfl
  have h3 := isW_no3 hw
  have HC := Lib.hid (show l3.contains t.s.data.toList = true by rw [l3_has hv h3]; simp [hw])
  have HE := Lib.hid (term_let (s := s.data.toList) (h := h) hw)
  have HW := Lib.hid hw
  have HD := Lib.hid (show dp ≠ 32 by omega)
  have HT3 := Lib.hid (show (t.kind == 3) = false by rw [beq_eq_false_iff_ne]; exact h3)
  have HO0 := Lib.hid (isW_two (w := [40]) hw (by decide))
  have HO1 := Lib.hid (isW_two (w := [105, 102]) hw (by decide))
  clear h3 hw
  have hT := TX.start hk hv
  unfold entry at hT
  have hlt := hk.lt
  obtain ⟨lt0, c0, c1, c2, c3, c4, c5, fz⟩ := id hT.rk
  rw [HT3.out] at c2
  have q0 := hT.q0
  have hT' := hT.made hlt (.cells #[.string ⟨#[40]⟩, .string ⟨#[105, 102]⟩, .string ⟨#[108, 101, 116]⟩] 9)
  have hh := has_any l3 (.slice (some ⟨W.heap.size + 2, 0, none⟩) 3 3) t.s _ (ss_entry W b) (by decide)
  rw [HC.out] at hh
  have q1 := hT'.q0
  obtain ⟨lt1, -, -, d2, d3, d4, -, -⟩ := id hT'.rk
  rw [HT3.out] at d2
  have HT := Lib.hid hT'
  clear hk hv hT hT'
  go_enter_defers Try.func58, Try.ntmps58
  go_wp2_with fail
  refine hh.mono ?_
  rintro e w' ⟨rfl, rfl⟩
  clear hh c0 c1 c2 c3 c4 c5 fz q0 lt0
  generalize ((W.alloc (.cells #[.pointer (some ⟨b, 0, none⟩)] 57)).alloc (.cells #[.int .i64 0, .string ⟨#[]⟩, .slice none 0 0] 26)).alloc (.cells #[.string ⟨#[40]⟩, .string ⟨#[105, 102]⟩, .string ⟨#[108, 101, 116]⟩] 9) = wr at *
  go_wp2_with fail
  go_still_tail 6, (by kernel_rfl)
  change wpList _ _ _ _ _ (World.drewN _ 1)
  have hop := open_any (World.drewN wr 1) b s t dp t.pl (HT.out.drewN 1).rk h0 (by omega)
  go_wp2_with fail
  refine hop.mono ?_
  rintro e w2 ⟨-, hx⟩
  obtain ⟨rfl, rfl⟩ := hx HD.out
  have hT1 := (HT.out.drewN 1).dep hlt (dp + 1)
  clear hop hx HT lt1 d2 d3 d4 q1
  generalize (wr.drewN 1).setCell ⟨b, 5, none⟩ (.int .i64 (dp + 1)) = wr at *
  obtain ⟨lt0, c0, c1, c2, c3, c4, c5, fz⟩ := id hT1.rk
  rw [HT3.out] at c2
  have q0 := hT1.q0
  have HT := Lib.hid hT1
  clear hT1
  go_wp2_with fail
  refine (is_any _ b s t _ ⟨#[40]⟩ HT.out.rk HT.out.tv hs (ne_nil (c := 40) (l := []))).mono ?_
  rintro e w9 ⟨hx, -⟩
  obtain ⟨rfl, rfl⟩ := hx HO0.out
  clear hx
  go_wp2_with fail
  refine (is_any _ b s t _ ⟨#[105, 102]⟩ HT.out.rk HT.out.tv hs (ne_nil (c := 105) (l := [102]))).mono ?_
  rintro e w9 ⟨hx, -⟩
  obtain ⟨rfl, rfl⟩ := hx HO1.out
  clear hx
  go_wp2_with fail
  refine (is_any _ b s t _ ⟨#[108, 101, 116]⟩ HT.out.rk HT.out.tv hs (ne_nil (c := 108) (l := [101, 116]))).mono ?_
  rintro e w1 ⟨-, hx⟩
  have hx := hx HW.out
  rcases res_or (stepT s.data.toList t) with ⟨p, f, hr1⟩ | ⟨u1, t1, hr1⟩
  · rw [hr1] at hx
    obtain ⟨rfl, hS, hF⟩ := hx
    exact door_bad HT.out hlt hS hF (bindB HE.out hr1) _
  rw [hr1] at hx
  obtain ⟨rfl, hk1, hF1, hv1⟩ := hx
  have HE := Lib.hid (bindE HE.out hr1)
  have HT := Lib.hid (HT.out.read hlt hk1 hv1 hF1)
  clear hk1 hF1 hv1 hr1 q0
  have q0 := HT.out.q0
  go_wp2_with fail
  refine (rname_any _ b s t1 _ HT.out.rk HT.out.tv hs).mono ?_
  intro e w2 hx
  rcases res_or (nameT s.data.toList t1) with ⟨p, f, hr2⟩ | ⟨nm, t2, hr2⟩
  · rw [hr2] at hx
    obtain ⟨rfl, hS, hF⟩ := hx
    exact door_bad HT.out hlt hS hF (bindB HE.out hr2) _
  rw [hr2] at hx
  obtain ⟨rfl, hk2, hF2, hv2⟩ := hx
  have HE := Lib.hid (bindE HE.out hr2)
  have HT := Lib.hid (HT.out.read hlt hk2 hv2 hF2)
  clear hk2 hF2 hv2 hr2 q0
  have q0 := HT.out.q0
  go_wp2_with fail
  refine (want_any _ b s t2 _ ⟨#[61]⟩ HT.out.rk HT.out.tv hs (ne_nil (c := 61) (l := []))).mono ?_
  intro e w3 hx
  rcases res_or (wantT s.data.toList [61] t2) with ⟨p, f, hr3⟩ | ⟨u3, t3, hr3⟩
  · rw [show wantT s.data.toList (⟨#[61]⟩ : ByteArray).data.toList t2 = .bad p f from hr3] at hx
    obtain ⟨rfl, hS, hF⟩ := hx
    exact door_bad HT.out hlt hS hF (bindB HE.out hr3) _
  rw [show wantT s.data.toList (⟨#[61]⟩ : ByteArray).data.toList t2 = .ok u3 t3 from hr3] at hx
  obtain ⟨rfl, hk3, hF3, hv3⟩ := hx
  have HE := Lib.hid (bindE HE.out hr3)
  have HT := Lib.hid (HT.out.read hlt hk3 hv3 hF3)
  clear hk3 hF3 hv3 hr3 q0
  have q0 := HT.out.q0
  go_wp2_with fail
  refine (expr_any s hs (dp + 1) (termP s.data.toList h) (term_prog _ h) ih _ b t3 HT.out.rk HT.out.tv).mono ?_
  intro e w4 hx
  rcases res_or (exprP s.data.toList (termP s.data.toList h) t3) with ⟨p, f, hr4⟩ | ⟨x4, t4, hr4⟩
  · rw [hr4] at hx
    obtain ⟨rfl, hS, hF⟩ := hx
    exact door_bad HT.out hlt hS hF (bindB HE.out hr4) _
  rw [hr4] at hx
  obtain ⟨⟨k4, σ4, sl4, n4, cap4, rfl, hrep4⟩, hk4, hF4, hv4⟩ := hx
  have HE := Lib.hid (bindE HE.out hr4)
  have hlo := HT.out.lt
  have HT := Lib.hid (HT.out.read hlt hk4 hv4 hF4)
  have hrep4 := hrep4.sub (S' := fun j => W.heap.size + 2 ≤ j ∧ j < w4.heap.size) fun j hj => ⟨by omega, hj.2⟩
  have HB4 := Lib.hid (BX.made (W := W) (wr := w4) (by have := HT.out.lt; omega) hrep4)
  have HT := Lib.hid (HT.out.made hlt (.cells #[.int .i64 k4, .string σ4, .slice sl4 n4 cap4] 26))
  clear hlo hrep4 hk4 hF4 hv4 hr4 q0
  have q0 := HT.out.q0
  go_wp2_with fail
  refine (want_any _ b s t4 _ ⟨#[105, 110]⟩ HT.out.rk HT.out.tv hs (ne_nil (c := 105) (l := [110]))).mono ?_
  intro e w5 hx
  rcases res_or (wantT s.data.toList [105, 110] t4) with ⟨p, f, hr5⟩ | ⟨u5, t5, hr5⟩
  · rw [show wantT s.data.toList (⟨#[105, 110]⟩ : ByteArray).data.toList t4 = .bad p f from hr5] at hx
    obtain ⟨rfl, hS, hF⟩ := hx
    exact door_bad HT.out hlt hS hF (bindB HE.out hr5) _
  rw [show wantT s.data.toList (⟨#[105, 110]⟩ : ByteArray).data.toList t4 = .ok u5 t5 from hr5] at hx
  obtain ⟨rfl, hk5, hF5, hv5⟩ := hx
  have HE := Lib.hid (bindE HE.out hr5)
  have HB4 := Lib.hid (HB4.out.keep hlt hF5)
  have HT := Lib.hid (HT.out.read hlt hk5 hv5 hF5)
  clear hk5 hF5 hv5 hr5 q0
  have q0 := HT.out.q0
  go_wp2_with fail
  have e4_0 := kq_cell HB4.out.c0 (show _ ≠ b by have := HB4.out.lo; omega)
  have e4_1 := kq_cell HB4.out.c1 (show _ ≠ b by have := HB4.out.lo; omega)
  have e4_2 := kq_cell HB4.out.c2 (show _ ≠ b by have := HB4.out.lo; omega)
  have eq0 := kq_cell HT.out.q0 (show W.heap.size ≠ b by omega)
  refine Mix.region_d (fun w' => ∃ Y, w' = kq w5 b Y) 6 [0, 0, 0, 1, 1, 1, 9] [true, false] 2 (by kernel_rfl) (by kernel_rfl) (fun _ _ _ _ _ hd h => leaves_put hd h) (by rfl) (by kernel_rfl) (kq_drew _ _) ?_
  simp only [Mix.selP_cons, Mix.selP_nil, Mix.sel_cons, Mix.sel_nil, Nat.reduceBEq, Nat.reduceAdd, cond_true, cond_false, List.drop_succ_cons, List.drop_zero]
  refine Mix.parts_q ?_
  repeat (go_big_quiet_step (fail))
  refine wpQuiet_nil ?_
  refine Mix.parts_e ?_
  clear e4_0 e4_1 e4_2 eq0 q0
  have HT := Lib.hid (HT.out.drewN 1)
  have HB4 := Lib.hid (HB4.out.drewN 1)
  have hcall := expr_any s hs (dp + 1) (termP s.data.toList h) (term_prog _ h) ih (w5.drewN 1) b t5 HT.out.rk HT.out.tv
  refine Mix.eff_step (fun K hK => ?_)
  go_simp
  refine hcall.mono ?_
  clear hcall
  intro e w6 hx
  rcases res_or (exprP s.data.toList (termP s.data.toList h) t5) with ⟨p, f, hr6⟩ | ⟨x6, t6, hr6⟩
  · rw [hr6] at hx
    obtain ⟨rfl, hS, hF⟩ := hx
    exact door_bad HT.out hlt hS hF (bindB HE.out hr6) _
  rw [hr6] at hx
  obtain ⟨⟨k6, σ6, sl6, n6, cap6, rfl, hrep6⟩, hk6, hF6, hv6⟩ := hx
  have HE := Lib.hid (bindE HE.out hr6)
  refine hK _ _ ⟨_, kq_of hF6.block⟩ ?_
  clear hK K
  have hAl := (hF6.trans (fq_alloc w6 b (by have h1 := HT.out.lt; have h2 := hF6.below.size; have h3 : (w5.drewN 1).heap.size = w5.heap.size := rfl; omega) (.cells #[.int .i64 k4, .string σ4, .slice sl4 n4 cap4, .int .i64 k6, .string σ6, .slice sl6 n6 cap6] 26))).block
  refine Mix.eff_step (fun K hK => ?_)
  go_simp
  refine hK _ _ ⟨_, kq_of hAl⟩ ?_
  clear hK K
  refine Mix.eff_step (fun K hK => ?_)
  go_simp
  refine hK _ _ ⟨_, kq_of hAl⟩ ?_
  clear hK K hAl
  refine Mix.eff_nil (Mix.parts_n ?_)
  have hlo := HT.out.lt
  have hT9 := HT.out.read hlt hk6 hv6 hF6
  have hrep6 := hrep6.sub (S' := fun j => W.heap.size + 2 ≤ j ∧ j < w6.heap.size) fun j hj => ⟨Nat.le_trans hlo hj.1, hj.2⟩
  have hrep4 := (HB4.out.keep hlt hF6).rep
  have hR := rep_lit (W := w6) (lo := W.heap.size + 2) (by have := hT9.lt; omega) 5 nm [x4, x6] [(.int .i64 k4, .string σ4, .slice sl4 n4 cap4), (.int .i64 k6, .string σ6, .slice sl6 n6 cap6)] rfl (lits2 hrep4 hrep6)
  have hT10 := hT9.made hlt (.cells #[.int .i64 k4, .string σ4, .slice sl4 n4 cap4, .int .i64 k6, .string σ6, .slice sl6 n6 cap6] 26)
  have o0 := hT10.o0
  have o1 := hT10.o1
  have o2 := hT10.o2
  have of := hT10.of
  clear hrep4 hrep6 hr6 hlo HT HB4
  go_wp2_with fail
  exact door_ok hT10 hlt h0 h1 hR HE.out _ rfl
set_option maxHeartbeats 4000000 in
set_option maxRecDepth 100000 in
theorem term_cond (s : ByteArray) (hs : s.size ≤ 4096) (dp : Int) (h0 : 0 ≤ dp) (h1 : dp < 32) (h : Nat) (ih : TermC s (dp + 1) (termP s.data.toList h)) (W : World) (b : Nat) (t : Tk) (hk : RK W b s t dp) (hv : TV s t) (hw : isW t [105, 102] = true) :
    Calls Try.prog 58 #[.pointer (some ⟨b, 0, none⟩)] W fun e W' => PX W b s dp (termP s.data.toList (h + 1) t) (valE W) e W' := by
  have hmf : ∀ (fn : Fn) (first cap : Array Value) (w : World), (Instr.makeFunc fn first cap).run Try.prog w = .ok (.func fn first cap) w := fun _ _ _ _ => rfl
  have h3 := isW_no3 hw
  have HC := Lib.hid (show l3.contains t.s.data.toList = true by rw [l3_has hv h3]; simp [hw])
  have HE := Lib.hid (term_if (s := s.data.toList) (h := h) hw)
  have HW := Lib.hid hw
  have HD := Lib.hid (show dp ≠ 32 by omega)
  have HT3 := Lib.hid (show (t.kind == 3) = false by rw [beq_eq_false_iff_ne]; exact h3)
  have HO0 := Lib.hid (isW_two (w := [40]) hw (by decide))
  clear h3 hw
  have hT := TX.start hk hv
  unfold entry at hT
  have hlt := hk.lt
  obtain ⟨lt0, c0, c1, c2, c3, c4, c5, fz⟩ := id hT.rk
  rw [HT3.out] at c2
  have q0 := hT.q0
  have hT' := hT.made hlt (.cells #[.string ⟨#[40]⟩, .string ⟨#[105, 102]⟩, .string ⟨#[108, 101, 116]⟩] 9)
  have hh := has_any l3 (.slice (some ⟨W.heap.size + 2, 0, none⟩) 3 3) t.s _ (ss_entry W b) (by decide)
  rw [HC.out] at hh
  have q1 := hT'.q0
  obtain ⟨lt1, -, -, d2, d3, d4, -, -⟩ := id hT'.rk
  rw [HT3.out] at d2
  have HT := Lib.hid hT'
  clear hk hv hT hT'
  go_enter_defers Try.func58, Try.ntmps58
  go_wp2_with fail
  refine hh.mono ?_
  rintro e w' ⟨rfl, rfl⟩
  clear hh c0 c1 c2 c3 c4 c5 fz q0 lt0
  generalize ((W.alloc (.cells #[.pointer (some ⟨b, 0, none⟩)] 57)).alloc (.cells #[.int .i64 0, .string ⟨#[]⟩, .slice none 0 0] 26)).alloc (.cells #[.string ⟨#[40]⟩, .string ⟨#[105, 102]⟩, .string ⟨#[108, 101, 116]⟩] 9) = wr at *
  go_wp2_with fail
  go_still_tail 6, (by kernel_rfl)
  change wpList _ _ _ _ _ (World.drewN _ 1)
  have hop := open_any (World.drewN wr 1) b s t dp t.pl (HT.out.drewN 1).rk h0 (by omega)
  go_wp2_with fail
  refine hop.mono ?_
  rintro e w2 ⟨-, hx⟩
  obtain ⟨rfl, rfl⟩ := hx HD.out
  have hT1 := (HT.out.drewN 1).dep hlt (dp + 1)
  clear hop hx HT lt1 d2 d3 d4 q1
  generalize (wr.drewN 1).setCell ⟨b, 5, none⟩ (.int .i64 (dp + 1)) = wr at *
  obtain ⟨lt0, c0, c1, c2, c3, c4, c5, fz⟩ := id hT1.rk
  rw [HT3.out] at c2
  have q0 := hT1.q0
  have HT := Lib.hid hT1
  clear hT1
  go_wp2_with fail
  refine (is_any _ b s t _ ⟨#[40]⟩ HT.out.rk HT.out.tv hs (ne_nil (c := 40) (l := []))).mono ?_
  rintro e w9 ⟨hx, -⟩
  obtain ⟨rfl, rfl⟩ := hx HO0.out
  clear hx
  go_wp2_with fail
  refine (is_any _ b s t _ ⟨#[105, 102]⟩ HT.out.rk HT.out.tv hs (ne_nil (c := 105) (l := [102]))).mono ?_
  rintro e w1 ⟨-, hx⟩
  have hx := hx HW.out
  rcases res_or (stepT s.data.toList t) with ⟨p, f, hr1⟩ | ⟨u1, t1, hr1⟩
  · rw [hr1] at hx
    obtain ⟨rfl, hS, hF⟩ := hx
    exact door_bad HT.out hlt hS hF (bindB HE.out hr1) _
  rw [hr1] at hx
  obtain ⟨rfl, hk1, hF1, hv1⟩ := hx
  have HE := Lib.hid (bindE HE.out hr1)
  have HT := Lib.hid (HT.out.read hlt hk1 hv1 hF1)
  clear hk1 hF1 hv1 hr1 q0
  have q0 := HT.out.q0
  go_wp2_with fail
  refine (expr_any s hs (dp + 1) (termP s.data.toList h) (term_prog _ h) ih _ b t1 HT.out.rk HT.out.tv).mono ?_
  intro e w2 hx
  rcases res_or (exprP s.data.toList (termP s.data.toList h) t1) with ⟨p, f, hr2⟩ | ⟨x2, t2, hr2⟩
  · rw [hr2] at hx
    obtain ⟨rfl, hS, hF⟩ := hx
    exact door_bad HT.out hlt hS hF (bindB HE.out hr2) _
  rw [hr2] at hx
  obtain ⟨⟨k2, σ2, sl2, n2, cap2, rfl, hrep2⟩, hk2, hF2, hv2⟩ := hx
  have HE := Lib.hid (bindE HE.out hr2)
  have hlo := HT.out.lt
  have HT := Lib.hid (HT.out.read hlt hk2 hv2 hF2)
  have hrep2 := hrep2.sub (S' := fun j => W.heap.size + 2 ≤ j ∧ j < w2.heap.size) fun j hj => ⟨by omega, hj.2⟩
  have HB2 := Lib.hid (BX.made (W := W) (wr := w2) (by have := HT.out.lt; omega) hrep2)
  have HT := Lib.hid (HT.out.made hlt (.cells #[.int .i64 k2, .string σ2, .slice sl2 n2 cap2] 26))
  clear hlo hrep2 hk2 hF2 hv2 hr2 q0
  have q0 := HT.out.q0
  go_wp2_with fail
  refine (want_any _ b s t2 _ ⟨#[61]⟩ HT.out.rk HT.out.tv hs (ne_nil (c := 61) (l := []))).mono ?_
  intro e w3 hx
  rcases res_or (wantT s.data.toList [61] t2) with ⟨p, f, hr3⟩ | ⟨u3, t3, hr3⟩
  · rw [show wantT s.data.toList (⟨#[61]⟩ : ByteArray).data.toList t2 = .bad p f from hr3] at hx
    obtain ⟨rfl, hS, hF⟩ := hx
    exact door_bad HT.out hlt hS hF (bindB HE.out hr3) _
  rw [show wantT s.data.toList (⟨#[61]⟩ : ByteArray).data.toList t2 = .ok u3 t3 from hr3] at hx
  obtain ⟨rfl, hk3, hF3, hv3⟩ := hx
  have HE := Lib.hid (bindE HE.out hr3)
  have HB2 := Lib.hid (HB2.out.keep hlt hF3)
  have HT := Lib.hid (HT.out.read hlt hk3 hv3 hF3)
  clear hk3 hF3 hv3 hr3 q0
  have q0 := HT.out.q0
  go_wp2_with fail
  refine (expr_any s hs (dp + 1) (termP s.data.toList h) (term_prog _ h) ih _ b t3 HT.out.rk HT.out.tv).mono ?_
  intro e w4 hx
  rcases res_or (exprP s.data.toList (termP s.data.toList h) t3) with ⟨p, f, hr4⟩ | ⟨x4, t4, hr4⟩
  · rw [hr4] at hx
    obtain ⟨rfl, hS, hF⟩ := hx
    exact door_bad HT.out hlt hS hF (bindB HE.out hr4) _
  rw [hr4] at hx
  obtain ⟨⟨k4, σ4, sl4, n4, cap4, rfl, hrep4⟩, hk4, hF4, hv4⟩ := hx
  have HE := Lib.hid (bindE HE.out hr4)
  have hlo := HT.out.lt
  have HB2 := Lib.hid (HB2.out.keep hlt hF4)
  have HT := Lib.hid (HT.out.read hlt hk4 hv4 hF4)
  have hrep4 := hrep4.sub (S' := fun j => W.heap.size + 2 ≤ j ∧ j < w4.heap.size) fun j hj => ⟨by omega, hj.2⟩
  have HB4 := Lib.hid (BX.made (W := W) (wr := w4) (by have := HT.out.lt; omega) hrep4)
  have HB2 := Lib.hid (HB2.out.keep hlt (fq_alloc w4 b (by have := HT.out.lt; omega) (.cells #[.int .i64 k4, .string σ4, .slice sl4 n4 cap4] 26)))
  have HT := Lib.hid (HT.out.made hlt (.cells #[.int .i64 k4, .string σ4, .slice sl4 n4 cap4] 26))
  clear hlo hrep4 hk4 hF4 hv4 hr4 q0
  have q0 := HT.out.q0
  go_wp2_with fail
  refine (want_any _ b s t4 _ ⟨#[116, 104, 101, 110]⟩ HT.out.rk HT.out.tv hs (ne_nil (c := 116) (l := [104, 101, 110]))).mono ?_
  intro e w5 hx
  rcases res_or (wantT s.data.toList [116, 104, 101, 110] t4) with ⟨p, f, hr5⟩ | ⟨u5, t5, hr5⟩
  · rw [show wantT s.data.toList (⟨#[116, 104, 101, 110]⟩ : ByteArray).data.toList t4 = .bad p f from hr5] at hx
    obtain ⟨rfl, hS, hF⟩ := hx
    exact door_bad HT.out hlt hS hF (bindB HE.out hr5) _
  rw [show wantT s.data.toList (⟨#[116, 104, 101, 110]⟩ : ByteArray).data.toList t4 = .ok u5 t5 from hr5] at hx
  obtain ⟨rfl, hk5, hF5, hv5⟩ := hx
  have HE := Lib.hid (bindE HE.out hr5)
  have HB2 := Lib.hid (HB2.out.keep hlt hF5)
  have HB4 := Lib.hid (HB4.out.keep hlt hF5)
  have HT := Lib.hid (HT.out.read hlt hk5 hv5 hF5)
  clear hk5 hF5 hv5 hr5 q0
  have q0 := HT.out.q0
  go_wp2_with fail
  refine (expr_any s hs (dp + 1) (termP s.data.toList h) (term_prog _ h) ih _ b t5 HT.out.rk HT.out.tv).mono ?_
  intro e w6 hx
  rcases res_or (exprP s.data.toList (termP s.data.toList h) t5) with ⟨p, f, hr6⟩ | ⟨x6, t6, hr6⟩
  · rw [hr6] at hx
    obtain ⟨rfl, hS, hF⟩ := hx
    exact door_bad HT.out hlt hS hF (bindB HE.out hr6) _
  rw [hr6] at hx
  obtain ⟨⟨k6, σ6, sl6, n6, cap6, rfl, hrep6⟩, hk6, hF6, hv6⟩ := hx
  have HE := Lib.hid (bindE HE.out hr6)
  have hlo := HT.out.lt
  have HB2 := Lib.hid (HB2.out.keep hlt hF6)
  have HB4 := Lib.hid (HB4.out.keep hlt hF6)
  have HT := Lib.hid (HT.out.read hlt hk6 hv6 hF6)
  have hrep6 := hrep6.sub (S' := fun j => W.heap.size + 2 ≤ j ∧ j < w6.heap.size) fun j hj => ⟨by omega, hj.2⟩
  have HB6 := Lib.hid (BX.made (W := W) (wr := w6) (by have := HT.out.lt; omega) hrep6)
  have HB2 := Lib.hid (HB2.out.keep hlt (fq_alloc w6 b (by have := HT.out.lt; omega) (.cells #[.int .i64 k6, .string σ6, .slice sl6 n6 cap6] 26)))
  have HB4 := Lib.hid (HB4.out.keep hlt (fq_alloc w6 b (by have := HT.out.lt; omega) (.cells #[.int .i64 k6, .string σ6, .slice sl6 n6 cap6] 26)))
  have HT := Lib.hid (HT.out.made hlt (.cells #[.int .i64 k6, .string σ6, .slice sl6 n6 cap6] 26))
  clear hlo hrep6 hk6 hF6 hv6 hr6 q0
  have q0 := HT.out.q0
  go_wp2_with fail
  refine (want_any _ b s t6 _ ⟨#[101, 108, 115, 101]⟩ HT.out.rk HT.out.tv hs (ne_nil (c := 101) (l := [108, 115, 101]))).mono ?_
  intro e w7 hx
  rcases res_or (wantT s.data.toList [101, 108, 115, 101] t6) with ⟨p, f, hr7⟩ | ⟨u7, t7, hr7⟩
  · rw [show wantT s.data.toList (⟨#[101, 108, 115, 101]⟩ : ByteArray).data.toList t6 = .bad p f from hr7] at hx
    obtain ⟨rfl, hS, hF⟩ := hx
    exact door_bad HT.out hlt hS hF (bindB HE.out hr7) _
  rw [show wantT s.data.toList (⟨#[101, 108, 115, 101]⟩ : ByteArray).data.toList t6 = .ok u7 t7 from hr7] at hx
  obtain ⟨rfl, hk7, hF7, hv7⟩ := hx
  have HE := Lib.hid (bindE HE.out hr7)
  have HB2 := Lib.hid (HB2.out.keep hlt hF7)
  have HB4 := Lib.hid (HB4.out.keep hlt hF7)
  have HB6 := Lib.hid (HB6.out.keep hlt hF7)
  have HT := Lib.hid (HT.out.read hlt hk7 hv7 hF7)
  clear hk7 hF7 hv7 hr7 q0
  have q0 := HT.out.q0
  go_wp2_with fail
  have e2_0 := kq_cell HB2.out.c0 (show _ ≠ b by have := HB2.out.lo; omega)
  have e2_1 := kq_cell HB2.out.c1 (show _ ≠ b by have := HB2.out.lo; omega)
  have e2_2 := kq_cell HB2.out.c2 (show _ ≠ b by have := HB2.out.lo; omega)
  have e4_0 := kq_cell HB4.out.c0 (show _ ≠ b by have := HB4.out.lo; omega)
  have e4_1 := kq_cell HB4.out.c1 (show _ ≠ b by have := HB4.out.lo; omega)
  have e4_2 := kq_cell HB4.out.c2 (show _ ≠ b by have := HB4.out.lo; omega)
  have e6_0 := kq_cell HB6.out.c0 (show _ ≠ b by have := HB6.out.lo; omega)
  have e6_1 := kq_cell HB6.out.c1 (show _ ≠ b by have := HB6.out.lo; omega)
  have e6_2 := kq_cell HB6.out.c2 (show _ ≠ b by have := HB6.out.lo; omega)
  have eq0 := kq_cell HT.out.q0 (show W.heap.size ≠ b by omega)
  refine Mix.region_d (fun w' => ∃ Y, w' = kq w7 b Y) 5 [0, 0, 0, 0, 1, 9, 9, 9] [true, false] 2 (by kernel_rfl) (by kernel_rfl) (fun _ _ _ _ _ hd h => leaves_put hd h) (by rfl) (by kernel_rfl) (kq_drew _ _) ?_
  simp only [Mix.selP_cons, Mix.selP_nil, Mix.sel_cons, Mix.sel_nil, Nat.reduceBEq, Nat.reduceAdd, cond_true, cond_false, List.drop_succ_cons, List.drop_zero]
  refine Mix.parts_q ?_
  repeat (go_big_quiet_step (fail))
  refine wpQuiet_nil ?_
  refine Mix.parts_e ?_
  clear e2_0 e2_1 e2_2 e4_0 e4_1 e4_2 e6_0 e6_1 e6_2 eq0 q0
  have HT := Lib.hid (HT.out.drewN 1)
  have HB2 := Lib.hid (HB2.out.drewN 1)
  have HB4 := Lib.hid (HB4.out.drewN 1)
  have HB6 := Lib.hid (HB6.out.drewN 1)
  have hcall := expr_any s hs (dp + 1) (termP s.data.toList h) (term_prog _ h) ih (w7.drewN 1) b t7 HT.out.rk HT.out.tv
  refine Mix.eff_step (fun K hK => ?_)
  go_simp
  refine hcall.mono ?_
  clear hcall
  intro e w8 hx
  rcases res_or (exprP s.data.toList (termP s.data.toList h) t7) with ⟨p, f, hr8⟩ | ⟨x8, t8, hr8⟩
  · rw [hr8] at hx
    obtain ⟨rfl, hS, hF⟩ := hx
    exact door_bad HT.out hlt hS hF (bindB HE.out hr8) _
  rw [hr8] at hx
  obtain ⟨⟨k8, σ8, sl8, n8, cap8, rfl, hrep8⟩, hk8, hF8, hv8⟩ := hx
  have HE := Lib.hid (bindE HE.out hr8)
  refine hK _ _ ⟨_, kq_of hF8.block⟩ ?_
  clear hK K
  refine Mix.eff_nil (Mix.parts_n ?_)
  have hlo := HT.out.lt
  have hT9 := HT.out.read hlt hk8 hv8 hF8
  have hrep8 := hrep8.sub (S' := fun j => W.heap.size + 2 ≤ j ∧ j < w8.heap.size) fun j hj => ⟨Nat.le_trans hlo hj.1, hj.2⟩
  have hrep2 := (HB2.out.keep hlt hF8).rep
  have hrep4 := (HB4.out.keep hlt hF8).rep
  have hrep6 := (HB6.out.keep hlt hF8).rep
  have hR := rep_lit (W := w8) (lo := W.heap.size + 2) (by have := hT9.lt; omega) 4 ⟨#[]⟩ [x2, x4, x6, x8] [(.int .i64 k2, .string σ2, .slice sl2 n2 cap2), (.int .i64 k4, .string σ4, .slice sl4 n4 cap4), (.int .i64 k6, .string σ6, .slice sl6 n6 cap6), (.int .i64 k8, .string σ8, .slice sl8 n8 cap8)] rfl (lits4 hrep2 hrep4 hrep6 hrep8)
  have hT10 := hT9.made hlt (.cells #[.int .i64 k2, .string σ2, .slice sl2 n2 cap2, .int .i64 k4, .string σ4, .slice sl4 n4 cap4, .int .i64 k6, .string σ6, .slice sl6 n6 cap6, .int .i64 k8, .string σ8, .slice sl8 n8 cap8] 26)
  have o0 := hT10.o0
  have o1 := hT10.o1
  have o2 := hT10.o2
  have of := hT10.of
  clear hrep2 hrep4 hrep6 hrep8 hr8 hlo HT HB2 HB4 HB6
  go_wp2_with fail
  exact door_ok hT10 hlt h0 h1 hR HE.out _ rfl
end Rc
end Go.Proofs.Ytcigggffaofkhaa
