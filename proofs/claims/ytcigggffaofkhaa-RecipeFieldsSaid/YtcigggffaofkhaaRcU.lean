/-
  Walk: the reader's term: texts, names, brackets, faults. (printed by gen_RcU.py)
-/
import Derived.Test.YtcigggffaofkhaaRcT
namespace Go.Proofs.Ytcigggffaofkhaa
open Go.RowKit
namespace Rc

theorem res_or {α : Type} (r : Res α) : (∃ p f, r = .bad p f) ∨ ∃ x t, r = .ok x t := by
  cases r with
  | ok x t => exact .inr ⟨x, t, rfl⟩
  | bad p f => exact .inl ⟨p, f, rfl⟩
theorem bindE {α β : Type} {R : Res β} {r : Res α} {F : α → Tk → Res β} {x : α} {t : Tk} (h : R = r.bind F) (hr : r = .ok x t) : R = F x t := by rw [h, hr]; rfl
theorem bindB {α β : Type} {R : Res β} {r : Res α} {F : α → Tk → Res β} {p : Nat} {f : Int} (h : R = r.bind F) (hr : r = .bad p f) : R = .bad p f := by rw [h, hr]; rfl
abbrev l3 : List (List UInt8) := [[40], [105, 102], [108, 101, 116]]
theorem isW_full {s : ByteArray} {t : Tk} {w : List UInt8} (hv : TV s t) (h3 : t.kind ≠ 3) (hw : w ≠ []) : isW t w = (t.s.data.toList == w) := by
  cases hc : t.s.data.toList == w with
  | true => exact isW_eq hv h3 (by simpa using hc) hw
  | false => exact isW_ne (by simpa using hc)
theorem l3_has {s : ByteArray} {t : Tk} (hv : TV s t) (h3 : t.kind ≠ 3) : l3.contains t.s.data.toList = (isW t [40] || isW t [105, 102] || isW t [108, 101, 116]) := by
  rw [isW_full hv h3 (by decide), isW_full hv h3 (by decide), isW_full hv h3 (by decide)]
  simp only [l3, List.contains_cons, List.contains_nil, Bool.or_false, Bool.or_assoc]
theorem ss_entry (W : World) (b : Nat) : SS (((W.alloc (.cells #[.pointer (some ⟨b, 0, none⟩)] 57)).alloc (.cells #[.int .i64 0, .string ⟨#[]⟩, .slice none 0 0] 26)).alloc (.cells #[.string ⟨#[40]⟩, .string ⟨#[105, 102]⟩, .string ⟨#[108, 101, 116]⟩] 9)) (.slice (some ⟨W.heap.size + 2, 0, none⟩) 3 3) l3 := by
  have h := ss_lit ((W.alloc (.cells #[.pointer (some ⟨b, 0, none⟩)] 57)).alloc (.cells #[.int .i64 0, .string ⟨#[]⟩, .slice none 0 0] 26)) l3
  rw [show ((W.alloc (.cells #[.pointer (some ⟨b, 0, none⟩)] 57)).alloc (.cells #[.int .i64 0, .string ⟨#[]⟩, .slice none 0 0] 26)).heap.size = W.heap.size + 2 by simp] at h
  exact h
theorem isW_two {t : Tk} {v w : List UInt8} (h : isW t v = true) (hn : v ≠ w) : isW t w = false := by
  cases hc : isW t w with
  | false => rfl
  | true =>
    simp only [isW, Bool.and_eq_true, beq_iff_eq] at h hc
    exact absurd (h.2.symm.trans hc.2) hn
theorem isW_no3 {t : Tk} {w : List UInt8} (h : isW t w = true) : t.kind ≠ 3 := by
  intro e
  simp [isW, e] at h
theorem term_t3 {s : List UInt8} {h : Nat} {t : Tk} (hk : t.kind = 3) : termP s (h + 1) t = (stepT s t).bind fun _ t1 => .ok (.mk 1 t.s []) t1 := by
  unfold termP
  have : termOk t = true := by simp [termOk, hk]
  rw [this, if_neg (by decide)]
  simp only [hk, if_true]
theorem term_par {s : List UInt8} {h : Nat} {t : Tk} (hw : isW t [40] = true) : termP s (h + 1) t = (stepT s t).bind fun _ t1 => (exprP s (termP s h) t1).bind fun x t2 => (wantT s [41] t2).bind fun _ t3 => .ok x t3 := by
  unfold termP
  have : termOk t = true := by simp [termOk, hw]
  rw [this, if_neg (by decide)]
  simp only [isW_no3 hw, if_false, hw, if_true]
theorem term_if {s : List UInt8} {h : Nat} {t : Tk} (hw : isW t [105, 102] = true) : termP s (h + 1) t = (stepT s t).bind fun _ t1 => (exprP s (termP s h) t1).bind fun a t2 => (wantT s [61] t2).bind fun _ t3 => (exprP s (termP s h) t3).bind fun b t4 => (wantT s [116, 104, 101, 110] t4).bind fun _ t5 =>
    (exprP s (termP s h) t5).bind fun c t6 => (wantT s [101, 108, 115, 101] t6).bind fun _ t7 => (exprP s (termP s h) t7).bind fun d t8 => .ok (.mk 4 ⟨#[]⟩ [a, b, c, d]) t8 := by
  have h1 := isW_two (w := [40]) hw (by decide)
  unfold termP
  have : termOk t = true := by simp [termOk, hw]
  rw [this, if_neg (by decide)]
  simp only [isW_no3 hw, if_false, h1, hw, if_true, Bool.false_eq_true]
theorem term_let {s : List UInt8} {h : Nat} {t : Tk} (hw : isW t [108, 101, 116] = true) : termP s (h + 1) t = (stepT s t).bind fun _ t1 => (nameT s t1).bind fun nm t2 => (wantT s [61] t2).bind fun _ t3 => (exprP s (termP s h) t3).bind fun a t4 => (wantT s [105, 110] t4).bind fun _ t5 =>
    (exprP s (termP s h) t5).bind fun b t6 => .ok (.mk 5 nm [a, b]) t6 := by
  have h1 := isW_two (w := [40]) hw (by decide)
  have h2 := isW_two (w := [105, 102]) hw (by decide)
  unfold termP
  have : termOk t = true := by simp [termOk, hw]
  rw [this, if_neg (by decide)]
  simp only [isW_no3 hw, if_false, h1, h2, hw, if_true, Bool.false_eq_true]
  congr 1
  funext _ t1
  unfold nameT
  by_cases hn : t1.kind = 1 ∧ nameL t1.s.data.toList = true
  · rw [if_pos hn, if_pos (by simp [hn])]
    cases stepT s t1 <;> rfl
  · rw [if_neg hn, if_neg (by simpa using hn)]
    rfl
theorem term_name {s : List UInt8} {h : Nat} {t : Tk} (hk : t.kind = 1) (hn : nameL t.s.data.toList = true) (h1 : isW t [40] = false) (h2 : isW t [105, 102] = false) (h3 : isW t [108, 101, 116] = false) : termP s (h + 1) t = (stepT s t).bind fun _ t1 => .ok (.mk 2 t.s []) t1 := by
  unfold termP
  have : termOk t = true := by simp [termOk, hk, hn]
  rw [this, if_neg (by decide)]
  have h0 : ¬ t.kind = 3 := by omega
  simp only [h0, if_false, h1, h2, h3, Bool.false_eq_true]
theorem term_no {s : List UInt8} {t : Tk} (hok : termOk t = false) : ∀ h, termP s h t = .bad t.pl 50
  | 0 => by unfold termP; rw [hok]; rfl
  | h + 1 => by unfold termP; rw [if_pos hok]
theorem term_deep {s : List UInt8} {t : Tk} (hok : termOk t = true) : termP s 0 t = .bad t.pl 4 := by unfold termP; rw [if_pos hok]
set_option maxHeartbeats 4000000 in
set_option maxRecDepth 100000 in
theorem term_text (s : ByteArray) (hs : s.size ≤ 4096) (dp : Int) (h0 : 0 ≤ dp) (h1 : dp < 32) (h : Nat) (W : World) (b : Nat) (t : Tk) (hk : RK W b s t dp) (hv : TV s t) (h3 : t.kind = 3) :
    Calls Try.prog 58 #[.pointer (some ⟨b, 0, none⟩)] W fun e W' => PX W b s dp (termP s.data.toList (h + 1) t) (valE W) e W' := by
  have hmf : ∀ (fn : Fn) (first cap : Array Value) (w : World), (Instr.makeFunc fn first cap).run Try.prog w = .ok (.func fn first cap) w := fun _ _ _ _ => rfl
  have HE := Lib.hid (term_t3 (s := s.data.toList) (h := h) h3)
  have HT3 := Lib.hid (show (t.kind == 3) = true by rw [beq_iff_eq]; exact h3)
  have HD := Lib.hid (show dp ≠ 32 by omega)
  clear h3
  have hT := TX.start hk hv
  unfold entry at hT
  have hlt := hk.lt
  obtain ⟨lt0, c0, c1, c2, c3, c4, c5, fz⟩ := id hT.rk
  rw [HT3.out] at c2
  have q0 := hT.q0
  have HT := Lib.hid hT
  clear hk hv hT
  go_enter_defers Try.func58, Try.ntmps58
  go_wp2_with fail
  generalize (W.alloc (.cells #[.pointer (some ⟨b, 0, none⟩)] 57)).alloc (.cells #[.int .i64 0, .string ⟨#[]⟩, .slice none 0 0] 26) = wr at *
  go_still_tail 6, (by kernel_rfl)
  change wpList _ _ _ _ _ (World.drewN _ 1)
  have hop := open_any (World.drewN wr 1) b s t dp t.pl (HT.out.drewN 1).rk h0 (by omega)
  go_wp2_with fail
  refine hop.mono ?_
  rintro e w2 ⟨-, hx⟩
  obtain ⟨rfl, rfl⟩ := hx HD.out
  have hT1 := (HT.out.drewN 1).dep hlt (dp + 1)
  clear hop hx HT lt0 c0 c1 c2 c3 c4 c5 fz q0
  generalize (wr.drewN 1).setCell ⟨b, 5, none⟩ (.int .i64 (dp + 1)) = wr at *
  obtain ⟨lt0, c0, c1, c2, c3, c4, c5, fz⟩ := id hT1.rk
  rw [HT3.out] at c2
  have q0 := hT1.q0
  have HT := Lib.hid hT1
  have hT2 := hT1.made hlt (.cells #[.int .i64 1, .string t.s, .slice none 0 0] 26)
  have hB2 := BX.made (W := W) (wr := wr) (by have := hT1.lt; omega) (RepX.leaf wr _ 1 t.s)
  clear hT1
  have q2 := hT2.q0
  have hst := step_any _ b s t _ hT2.rk hT2.tv hs
  go_wp2_with fail
  refine hst.mono ?_
  intro e w1 hx
  rcases res_or (stepT s.data.toList t) with ⟨p, f, hr⟩ | ⟨u, t1, hr⟩
  · rw [hr] at hx
    obtain ⟨rfl, hS, hF⟩ := hx
    clear hst
    exact door_bad hT2 hlt hS hF (bindB HE.out hr) _
  rw [hr] at hx
  obtain ⟨rfl, hk1, hF1, hv1⟩ := hx
  have HR := Lib.hid (bindE HE.out hr)
  have hB3 := hB2.keep hlt hF1
  have hT3 := hT2.read hlt hk1 hv1 hF1
  have b0 := hB3.c0
  have b1 := hB3.c1
  have b2 := hB3.c2
  have o0 := hT3.o0
  have o1 := hT3.o1
  have o2 := hT3.o2
  have of := hT3.of
  clear hst hr
  go_wp2_with fail
  exact door_ok hT3 hlt h0 h1 hB3.rep HR.out _ rfl
set_option maxHeartbeats 4000000 in
set_option maxRecDepth 100000 in
theorem term_paren (s : ByteArray) (hs : s.size ≤ 4096) (dp : Int) (h0 : 0 ≤ dp) (h1 : dp < 32) (h : Nat) (ih : TermC s (dp + 1) (termP s.data.toList h)) (W : World) (b : Nat) (t : Tk) (hk : RK W b s t dp) (hv : TV s t) (hw : isW t [40] = true) :
    Calls Try.prog 58 #[.pointer (some ⟨b, 0, none⟩)] W fun e W' => PX W b s dp (termP s.data.toList (h + 1) t) (valE W) e W' := by
  have hmf : ∀ (fn : Fn) (first cap : Array Value) (w : World), (Instr.makeFunc fn first cap).run Try.prog w = .ok (.func fn first cap) w := fun _ _ _ _ => rfl
  have h3 := isW_no3 hw
  have HC := Lib.hid (show l3.contains t.s.data.toList = true by rw [l3_has hv h3]; simp [hw])
  have HE := Lib.hid (term_par (s := s.data.toList) (h := h) hw)
  have HW := Lib.hid hw
  have HD := Lib.hid (show dp ≠ 32 by omega)
  have HT3 := Lib.hid (show (t.kind == 3) = false by rw [beq_eq_false_iff_ne]; exact h3)
  clear h3 hw
  have hT := TX.start hk hv
  unfold entry at hT
  have hlt := hk.lt
  obtain ⟨lt0, c0, c1, c2, c3, c4, c5, fz⟩ := id hT.rk
  rw [HT3.out] at c2
  have q0 := hT.q0
  have hT' := hT.made hlt (.cells #[.string ⟨#[40]⟩, .string ⟨#[105, 102]⟩, .string ⟨#[108, 101, 116]⟩] 9)
  have hh := has_any l3 (.slice (some ⟨W.heap.size + 2, 0, none⟩) 3 3) t.s _ (ss_entry W b) (by decide)
  rw [HC.out] at hh
  have q1 := hT'.q0
  obtain ⟨lt1, -, -, d2, d3, d4, -, -⟩ := id hT'.rk
  rw [HT3.out] at d2
  have HT := Lib.hid hT'
  clear hk hv hT hT'
  go_enter_defers Try.func58, Try.ntmps58
  go_wp2_with fail
  refine hh.mono ?_
  rintro e w' ⟨rfl, rfl⟩
  clear hh c0 c1 c2 c3 c4 c5 fz q0 lt0
  generalize ((W.alloc (.cells #[.pointer (some ⟨b, 0, none⟩)] 57)).alloc (.cells #[.int .i64 0, .string ⟨#[]⟩, .slice none 0 0] 26)).alloc (.cells #[.string ⟨#[40]⟩, .string ⟨#[105, 102]⟩, .string ⟨#[108, 101, 116]⟩] 9) = wr at *
  go_wp2_with fail
  go_still_tail 6, (by kernel_rfl)
  change wpList _ _ _ _ _ (World.drewN _ 1)
  have hop := open_any (World.drewN wr 1) b s t dp t.pl (HT.out.drewN 1).rk h0 (by omega)
  go_wp2_with fail
  refine hop.mono ?_
  rintro e w2 ⟨-, hx⟩
  obtain ⟨rfl, rfl⟩ := hx HD.out
  have hT1 := (HT.out.drewN 1).dep hlt (dp + 1)
  clear hop hx HT lt1 d2 d3 d4 q1
  generalize (wr.drewN 1).setCell ⟨b, 5, none⟩ (.int .i64 (dp + 1)) = wr at *
  obtain ⟨lt0, c0, c1, c2, c3, c4, c5, fz⟩ := id hT1.rk
  rw [HT3.out] at c2
  have q0 := hT1.q0
  have HT := Lib.hid hT1
  clear hT1
  go_wp2_with fail
  refine (is_any _ b s t _ ⟨#[40]⟩ HT.out.rk HT.out.tv hs (ne_nil (c := 40) (l := []))).mono ?_
  rintro e w1 ⟨-, hx⟩
  have hx := hx HW.out
  rcases res_or (stepT s.data.toList t) with ⟨p, f, hr1⟩ | ⟨u1, t1, hr1⟩
  · rw [hr1] at hx
    obtain ⟨rfl, hS, hF⟩ := hx
    exact door_bad HT.out hlt hS hF (bindB HE.out hr1) _
  rw [hr1] at hx
  obtain ⟨rfl, hk1, hF1, hv1⟩ := hx
  have HE := Lib.hid (bindE HE.out hr1)
  have HT := Lib.hid (HT.out.read hlt hk1 hv1 hF1)
  clear hk1 hF1 hv1 hr1 q0
  have q0 := HT.out.q0
  go_wp2_with fail
  refine (expr_any s hs (dp + 1) (termP s.data.toList h) (term_prog _ h) ih _ b t1 HT.out.rk HT.out.tv).mono ?_
  intro e w2 hx
  rcases res_or (exprP s.data.toList (termP s.data.toList h) t1) with ⟨p, f, hr2⟩ | ⟨x2, t2, hr2⟩
  · rw [hr2] at hx
    obtain ⟨rfl, hS, hF⟩ := hx
    exact door_bad HT.out hlt hS hF (bindB HE.out hr2) _
  rw [hr2] at hx
  obtain ⟨⟨k2, σ2, sl2, n2, cap2, rfl, hrep2⟩, hk2, hF2, hv2⟩ := hx
  have HE := Lib.hid (bindE HE.out hr2)
  have hlo := HT.out.lt
  have HT := Lib.hid (HT.out.read hlt hk2 hv2 hF2)
  have hrep2 := hrep2.sub (S' := fun j => W.heap.size + 2 ≤ j ∧ j < w2.heap.size) fun j hj => ⟨by omega, hj.2⟩
  have HB2 := Lib.hid (BX.made (W := W) (wr := w2) (by have := HT.out.lt; omega) hrep2)
  have HT := Lib.hid (HT.out.made hlt (.cells #[.int .i64 k2, .string σ2, .slice sl2 n2 cap2] 26))
  clear hlo hrep2 hk2 hF2 hv2 hr2 q0
  have q0 := HT.out.q0
  go_wp2_with fail
  refine (want_any _ b s t2 _ ⟨#[41]⟩ HT.out.rk HT.out.tv hs (ne_nil (c := 41) (l := []))).mono ?_
  intro e w3 hx
  rcases res_or (wantT s.data.toList [41] t2) with ⟨p, f, hr3⟩ | ⟨u3, t3, hr3⟩
  · rw [show wantT s.data.toList (⟨#[41]⟩ : ByteArray).data.toList t2 = .bad p f from hr3] at hx
    obtain ⟨rfl, hS, hF⟩ := hx
    exact door_bad HT.out hlt hS hF (bindB HE.out hr3) _
  rw [show wantT s.data.toList (⟨#[41]⟩ : ByteArray).data.toList t2 = .ok u3 t3 from hr3] at hx
  obtain ⟨rfl, hk3, hF3, hv3⟩ := hx
  have HE := Lib.hid (bindE HE.out hr3)
  have HB2 := Lib.hid (HB2.out.keep hlt hF3)
  have HT := Lib.hid (HT.out.read hlt hk3 hv3 hF3)
  clear hk3 hF3 hv3 hr3 q0
  have q0 := HT.out.q0
  have b0 := HB2.out.c0
  have b1 := HB2.out.c1
  have b2 := HB2.out.c2
  have o0 := HT.out.o0
  have o1 := HT.out.o1
  have o2 := HT.out.o2
  have of := HT.out.of
  go_wp2_with fail
  exact door_ok HT.out hlt h0 h1 HB2.out.rep HE.out _ rfl
set_option maxHeartbeats 4000000 in
set_option maxRecDepth 100000 in
theorem term_word (s : ByteArray) (hs : s.size ≤ 4096) (dp : Int) (h0 : 0 ≤ dp) (h1 : dp < 32) (h : Nat) (W : World) (b : Nat) (t : Tk) (hk : RK W b s t dp) (hv : TV s t) (hk1 : t.kind = 1) (hn : nameL t.s.data.toList = true) (w1 : isW t [40] = false) (w2 : isW t [105, 102] = false) (w3 : isW t [108, 101, 116] = false) :
    Calls Try.prog 58 #[.pointer (some ⟨b, 0, none⟩)] W fun e W' => PX W b s dp (termP s.data.toList (h + 1) t) (valE W) e W' := by
  have hmf : ∀ (fn : Fn) (first cap : Array Value) (w : World), (Instr.makeFunc fn first cap).run Try.prog w = .ok (.func fn first cap) w := fun _ _ _ _ => rfl
  have h3 : t.kind ≠ 3 := by omega
  have HC := Lib.hid (show l3.contains t.s.data.toList = false by rw [l3_has hv h3]; simp [w1, w2, w3])
  have HE := Lib.hid (term_name (s := s.data.toList) (h := h) hk1 hn w1 w2 w3)
  have HNT := Lib.hid (nameT_yes (s := s.data.toList) hk1 hn)
  have HN := Lib.hid hn
  have HD := Lib.hid (show dp ≠ 32 by omega)
  have HO0 := Lib.hid w1
  have HO1 := Lib.hid w2
  have HO2 := Lib.hid w3
  have HT3 := Lib.hid (show (t.kind == 3) = false by rw [beq_eq_false_iff_ne]; exact h3)
  clear h3 hk1 hn w1 w2 w3
  have hT := TX.start hk hv
  unfold entry at hT
  have hlt := hk.lt
  obtain ⟨lt0, c0, c1, c2, c3, c4, c5, fz⟩ := id hT.rk
  rw [HT3.out] at c2
  have q0 := hT.q0
  have hT' := hT.made hlt (.cells #[.string ⟨#[40]⟩, .string ⟨#[105, 102]⟩, .string ⟨#[108, 101, 116]⟩] 9)
  have hh := has_any l3 (.slice (some ⟨W.heap.size + 2, 0, none⟩) 3 3) t.s _ (ss_entry W b) (by decide)
  rw [HC.out] at hh
  have q1 := hT'.q0
  obtain ⟨lt1, -, -, d2, d3, d4, -, -⟩ := id hT'.rk
  rw [HT3.out] at d2
  have HT := Lib.hid hT'
  clear hk hv hT hT'
  go_enter_defers Try.func58, Try.ntmps58
  go_wp2_with fail
  refine hh.mono ?_
  rintro e w' ⟨rfl, rfl⟩
  clear hh c0 c1 c2 c3 c4 c5 fz q0 lt0
  generalize ((W.alloc (.cells #[.pointer (some ⟨b, 0, none⟩)] 57)).alloc (.cells #[.int .i64 0, .string ⟨#[]⟩, .slice none 0 0] 26)).alloc (.cells #[.string ⟨#[40]⟩, .string ⟨#[105, 102]⟩, .string ⟨#[108, 101, 116]⟩] 9) = wr at *
  have hnm := name_any t.s wr
  rw [HN.out] at hnm
  go_wp2_with fail
  refine hnm.mono ?_
  rintro e w1 ⟨rfl, hb1⟩
  have HT := Lib.hid (HT.out.keep hlt hb1)
  clear hnm hb1 d2 d3 d4 q1 lt1
  obtain ⟨lt0, c0, c1, c2, c3, c4, c5, fz⟩ := id HT.out.rk
  rw [HT3.out] at c2
  have q0 := HT.out.q0
  go_wp2_with fail
  go_still_tail 6, (by kernel_rfl)
  change wpList _ _ _ _ _ (World.drewN _ 1)
  have hop := open_any (World.drewN w1 1) b s t dp t.pl (HT.out.drewN 1).rk h0 (by omega)
  go_wp2_with fail
  refine hop.mono ?_
  rintro e w2 ⟨-, hx⟩
  obtain ⟨rfl, rfl⟩ := hx HD.out
  have hT1 := (HT.out.drewN 1).dep hlt (dp + 1)
  clear hop hx HT lt0 c0 c1 c2 c3 c4 c5 fz q0
  generalize (w1.drewN 1).setCell ⟨b, 5, none⟩ (.int .i64 (dp + 1)) = wr at *
  obtain ⟨lt0, c0, c1, c2, c3, c4, c5, fz⟩ := id hT1.rk
  rw [HT3.out] at c2
  have q0 := hT1.q0
  have HT := Lib.hid hT1
  clear hT1
  go_wp2_with fail
  refine (is_any _ b s t _ ⟨#[40]⟩ HT.out.rk HT.out.tv hs (ne_nil (c := 40) (l := []))).mono ?_
  rintro e w9 ⟨hx, -⟩
  obtain ⟨rfl, rfl⟩ := hx HO0.out
  clear hx
  go_wp2_with fail
  refine (is_any _ b s t _ ⟨#[105, 102]⟩ HT.out.rk HT.out.tv hs (ne_nil (c := 105) (l := [102]))).mono ?_
  rintro e w9 ⟨hx, -⟩
  obtain ⟨rfl, rfl⟩ := hx HO1.out
  clear hx
  go_wp2_with fail
  refine (is_any _ b s t _ ⟨#[108, 101, 116]⟩ HT.out.rk HT.out.tv hs (ne_nil (c := 108) (l := [101, 116]))).mono ?_
  rintro e w9 ⟨hx, -⟩
  obtain ⟨rfl, rfl⟩ := hx HO2.out
  clear hx
  have o0 := HT.out.o0
  go_wp2_with fail
  refine (rname_any _ b s t _ HT.out.rk HT.out.tv hs).mono ?_
  intro e w1 hx
  rcases res_or (stepT s.data.toList t) with ⟨p, f, hr⟩ | ⟨u, t1, hr⟩
  · rw [bindB HNT.out hr] at hx
    obtain ⟨rfl, hS, hF⟩ := hx
    exact door_bad HT.out hlt hS hF (bindB HE.out hr) _
  rw [bindE HNT.out hr] at hx
  obtain ⟨rfl, hk1, hF1, hv1⟩ := hx
  have HR := Lib.hid (bindE HE.out hr)
  have hT3 := HT.out.read hlt hk1 hv1 hF1
  clear o0
  have o0 := hT3.o0
  have o1 := hT3.o1
  have o2 := hT3.o2
  have of := hT3.of
  clear hr
  go_wp2_with fail
  exact door_ok hT3 hlt h0 h1 (RepX.leaf _ _ 2 t.s) HR.out _ rfl
set_option maxHeartbeats 4000000 in
set_option maxRecDepth 100000 in
theorem term_fail (s : ByteArray) (dp : Int) (h : Nat) (W : World) (b : Nat) (t : Tk) (hk : RK W b s t dp) (hv : TV s t) (h3 : t.kind ≠ 3) (hc : l3.contains t.s.data.toList = false) (hn : nameL t.s.data.toList = false) (hok : termOk t = false) :
    Calls Try.prog 58 #[.pointer (some ⟨b, 0, none⟩)] W fun e W' => PX W b s dp (termP s.data.toList h t) (valE W) e W' := by
  have hmf : ∀ (fn : Fn) (first cap : Array Value) (w : World), (Instr.makeFunc fn first cap).run Try.prog w = .ok (.func fn first cap) w := fun _ _ _ _ => rfl
  have HC := Lib.hid hc
  have HE := Lib.hid (term_no (s := s.data.toList) hok h)
  have HN := Lib.hid hn
  have HT3 := Lib.hid (show (t.kind == 3) = false by rw [beq_eq_false_iff_ne]; exact h3)
  clear h3 hc hn hok
  have hT := TX.start hk hv
  unfold entry at hT
  have hlt := hk.lt
  obtain ⟨lt0, c0, c1, c2, c3, c4, c5, fz⟩ := id hT.rk
  rw [HT3.out] at c2
  have q0 := hT.q0
  have hT' := hT.made hlt (.cells #[.string ⟨#[40]⟩, .string ⟨#[105, 102]⟩, .string ⟨#[108, 101, 116]⟩] 9)
  have hh := has_any l3 (.slice (some ⟨W.heap.size + 2, 0, none⟩) 3 3) t.s _ (ss_entry W b) (by decide)
  rw [HC.out] at hh
  have q1 := hT'.q0
  obtain ⟨lt1, -, -, d2, d3, d4, -, -⟩ := id hT'.rk
  rw [HT3.out] at d2
  have HT := Lib.hid hT'
  clear hk hv hT hT'
  go_enter_defers Try.func58, Try.ntmps58
  go_wp2_with fail
  refine hh.mono ?_
  rintro e w' ⟨rfl, rfl⟩
  clear hh c0 c1 c2 c3 c4 c5 fz q0 lt0
  generalize ((W.alloc (.cells #[.pointer (some ⟨b, 0, none⟩)] 57)).alloc (.cells #[.int .i64 0, .string ⟨#[]⟩, .slice none 0 0] 26)).alloc (.cells #[.string ⟨#[40]⟩, .string ⟨#[105, 102]⟩, .string ⟨#[108, 101, 116]⟩] 9) = wr at *
  have hnm := name_any t.s wr
  rw [HN.out] at hnm
  go_wp2_with fail
  refine hnm.mono ?_
  rintro e w1 ⟨rfl, hb1⟩
  have HT := Lib.hid (HT.out.keep hlt hb1)
  clear hnm hb1 d2 d3 d4 q1 lt1
  obtain ⟨lt0, c0, c1, c2, c3, c4, c5, fz⟩ := id HT.out.rk
  rw [HT3.out] at c2
  have q0 := HT.out.q0
  go_wp2_with fail
  refine (fail_any t.pl 50 _).mono ?_
  rintro e w9 ⟨rfl, rfl⟩
  exact px_bad HE.out ⟨rfl, ⟨_, _, _, _, _, HT.out.rk⟩, HT.out.fq⟩
set_option maxHeartbeats 4000000 in
set_option maxRecDepth 100000 in
theorem deep_text (s : ByteArray) (dp : Int) (h0 : 0 ≤ dp)  (W : World) (b : Nat) (t : Tk) (hk : RK W b s t dp) (hv : TV s t) (h3 : t.kind = 3) (hd : dp = 32) (hok : termOk t = true) :
    Calls Try.prog 58 #[.pointer (some ⟨b, 0, none⟩)] W fun e W' => PX W b s dp (termP s.data.toList 0 t) (valE W) e W' := by
  have hmf : ∀ (fn : Fn) (first cap : Array Value) (w : World), (Instr.makeFunc fn first cap).run Try.prog w = .ok (.func fn first cap) w := fun _ _ _ _ => rfl
  have HE := Lib.hid (term_deep (s := s.data.toList) hok)
  have HD := Lib.hid hd
  have h1 : dp ≤ 32 := by omega
  have HT3 := Lib.hid (show (t.kind == 3) = true by rw [beq_iff_eq]; exact h3)
  clear hok hd h3
  have hT := TX.start hk hv
  unfold entry at hT
  have hlt := hk.lt
  obtain ⟨lt0, c0, c1, c2, c3, c4, c5, fz⟩ := id hT.rk
  rw [HT3.out] at c2
  have q0 := hT.q0
  have HT := Lib.hid hT
  clear hk hv hT
  go_enter_defers Try.func58, Try.ntmps58
  go_wp2_with fail
  generalize (W.alloc (.cells #[.pointer (some ⟨b, 0, none⟩)] 57)).alloc (.cells #[.int .i64 0, .string ⟨#[]⟩, .slice none 0 0] 26) = wr at *
  go_still_tail 6, (by kernel_rfl)
  change wpList _ _ _ _ _ (World.drewN _ 1)
  have hop := open_any (World.drewN wr 1) b s t dp t.pl (HT.out.drewN 1).rk h0 (by omega)
  go_wp2_with fail
  refine hop.mono ?_
  rintro e w2 ⟨hx, -⟩
  obtain ⟨rfl, rfl⟩ := hx HD.out
  clear hop hx
  exact px_bad HE.out ⟨rfl, ⟨_, _, _, _, _, HT.out.rk.drewN 1⟩, HT.out.fq.drew 1⟩
set_option maxHeartbeats 4000000 in
set_option maxRecDepth 100000 in
theorem deep_has (s : ByteArray) (dp : Int) (h0 : 0 ≤ dp)  (W : World) (b : Nat) (t : Tk) (hk : RK W b s t dp) (hv : TV s t) (h3 : t.kind ≠ 3) (hc : l3.contains t.s.data.toList = true) (hd : dp = 32) (hok : termOk t = true) :
    Calls Try.prog 58 #[.pointer (some ⟨b, 0, none⟩)] W fun e W' => PX W b s dp (termP s.data.toList 0 t) (valE W) e W' := by
  have hmf : ∀ (fn : Fn) (first cap : Array Value) (w : World), (Instr.makeFunc fn first cap).run Try.prog w = .ok (.func fn first cap) w := fun _ _ _ _ => rfl
  have HE := Lib.hid (term_deep (s := s.data.toList) hok)
  have HD := Lib.hid hd
  have h1 : dp ≤ 32 := by omega
  have HC := Lib.hid hc
  have HT3 := Lib.hid (show (t.kind == 3) = false by rw [beq_eq_false_iff_ne]; exact h3)
  clear hok hd h3 hc
  have hT := TX.start hk hv
  unfold entry at hT
  have hlt := hk.lt
  obtain ⟨lt0, c0, c1, c2, c3, c4, c5, fz⟩ := id hT.rk
  rw [HT3.out] at c2
  have q0 := hT.q0
  have hT' := hT.made hlt (.cells #[.string ⟨#[40]⟩, .string ⟨#[105, 102]⟩, .string ⟨#[108, 101, 116]⟩] 9)
  have hh := has_any l3 (.slice (some ⟨W.heap.size + 2, 0, none⟩) 3 3) t.s _ (ss_entry W b) (by decide)
  rw [HC.out] at hh
  have q1 := hT'.q0
  obtain ⟨lt1, -, -, d2, d3, d4, -, -⟩ := id hT'.rk
  rw [HT3.out] at d2
  have HT := Lib.hid hT'
  clear hk hv hT hT'
  go_enter_defers Try.func58, Try.ntmps58
  go_wp2_with fail
  refine hh.mono ?_
  rintro e w' ⟨rfl, rfl⟩
  clear hh c0 c1 c2 c3 c4 c5 fz q0 lt0
  generalize ((W.alloc (.cells #[.pointer (some ⟨b, 0, none⟩)] 57)).alloc (.cells #[.int .i64 0, .string ⟨#[]⟩, .slice none 0 0] 26)).alloc (.cells #[.string ⟨#[40]⟩, .string ⟨#[105, 102]⟩, .string ⟨#[108, 101, 116]⟩] 9) = wr at *
  go_wp2_with fail
  go_still_tail 6, (by kernel_rfl)
  change wpList _ _ _ _ _ (World.drewN _ 1)
  have hop := open_any (World.drewN wr 1) b s t dp t.pl (HT.out.drewN 1).rk h0 (by omega)
  go_wp2_with fail
  refine hop.mono ?_
  rintro e w2 ⟨hx, -⟩
  obtain ⟨rfl, rfl⟩ := hx HD.out
  clear hop hx
  exact px_bad HE.out ⟨rfl, ⟨_, _, _, _, _, HT.out.rk.drewN 1⟩, HT.out.fq.drew 1⟩
set_option maxHeartbeats 4000000 in
set_option maxRecDepth 100000 in
theorem deep_name (s : ByteArray) (dp : Int) (h0 : 0 ≤ dp)  (W : World) (b : Nat) (t : Tk) (hk : RK W b s t dp) (hv : TV s t) (h3 : t.kind ≠ 3) (hc : l3.contains t.s.data.toList = false) (hn : nameL t.s.data.toList = true) (hd : dp = 32) (hok : termOk t = true) :
    Calls Try.prog 58 #[.pointer (some ⟨b, 0, none⟩)] W fun e W' => PX W b s dp (termP s.data.toList 0 t) (valE W) e W' := by
  have hmf : ∀ (fn : Fn) (first cap : Array Value) (w : World), (Instr.makeFunc fn first cap).run Try.prog w = .ok (.func fn first cap) w := fun _ _ _ _ => rfl
  have HE := Lib.hid (term_deep (s := s.data.toList) hok)
  have HD := Lib.hid hd
  have h1 : dp ≤ 32 := by omega
  have HC := Lib.hid hc
  have HN := Lib.hid hn
  have HT3 := Lib.hid (show (t.kind == 3) = false by rw [beq_eq_false_iff_ne]; exact h3)
  clear hok hd h3 hc hn
  have hT := TX.start hk hv
  unfold entry at hT
  have hlt := hk.lt
  obtain ⟨lt0, c0, c1, c2, c3, c4, c5, fz⟩ := id hT.rk
  rw [HT3.out] at c2
  have q0 := hT.q0
  have hT' := hT.made hlt (.cells #[.string ⟨#[40]⟩, .string ⟨#[105, 102]⟩, .string ⟨#[108, 101, 116]⟩] 9)
  have hh := has_any l3 (.slice (some ⟨W.heap.size + 2, 0, none⟩) 3 3) t.s _ (ss_entry W b) (by decide)
  rw [HC.out] at hh
  have q1 := hT'.q0
  obtain ⟨lt1, -, -, d2, d3, d4, -, -⟩ := id hT'.rk
  rw [HT3.out] at d2
  have HT := Lib.hid hT'
  clear hk hv hT hT'
  go_enter_defers Try.func58, Try.ntmps58
  go_wp2_with fail
  refine hh.mono ?_
  rintro e w' ⟨rfl, rfl⟩
  clear hh c0 c1 c2 c3 c4 c5 fz q0 lt0
  generalize ((W.alloc (.cells #[.pointer (some ⟨b, 0, none⟩)] 57)).alloc (.cells #[.int .i64 0, .string ⟨#[]⟩, .slice none 0 0] 26)).alloc (.cells #[.string ⟨#[40]⟩, .string ⟨#[105, 102]⟩, .string ⟨#[108, 101, 116]⟩] 9) = wr at *
  have hnm := name_any t.s wr
  rw [HN.out] at hnm
  go_wp2_with fail
  refine hnm.mono ?_
  rintro e w1 ⟨rfl, hb1⟩
  have HT := Lib.hid (HT.out.keep hlt hb1)
  clear hnm hb1 d2 d3 d4 q1 lt1
  obtain ⟨lt0, c0, c1, c2, c3, c4, c5, fz⟩ := id HT.out.rk
  rw [HT3.out] at c2
  have q0 := HT.out.q0
  go_wp2_with fail
  go_still_tail 6, (by kernel_rfl)
  change wpList _ _ _ _ _ (World.drewN _ 1)
  have hop := open_any (World.drewN w1 1) b s t dp t.pl (HT.out.drewN 1).rk h0 (by omega)
  go_wp2_with fail
  refine hop.mono ?_
  rintro e w2 ⟨hx, -⟩
  obtain ⟨rfl, rfl⟩ := hx HD.out
  clear hop hx
  exact px_bad HE.out ⟨rfl, ⟨_, _, _, _, _, HT.out.rk.drewN 1⟩, HT.out.fq.drew 1⟩
end Rc
end Go.Proofs.Ytcigggffaofkhaa
