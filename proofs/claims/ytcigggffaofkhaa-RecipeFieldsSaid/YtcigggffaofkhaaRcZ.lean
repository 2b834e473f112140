/-
  Walk: the reader's source. (printed by gen_RcZ.py)
-/
import Derived.Test.YtcigggffaofkhaaRcY
namespace Go.Proofs.Ytcigggffaofkhaa
open Go.RowKit
namespace Rc

/-- ahead of the first token -/
abbrev t00 : Tk := ⟨0, ⟨#[]⟩, 0, 0⟩
theorem tv00 (s : ByteArray) : TV s t00 := ⟨fun _ => rfl, by simp, Nat.zero_le _, (fun h => by simp at h), (fun h => by simp at h)⟩
theorem source_eq (s : List UInt8) : sourceP s = (stepT s t00).bind fun _ t0 => (wantT s [112, 97, 99, 107, 97, 103, 101] t0).bind fun _ t1 => (exprP s (termP s 32) t1).bind fun a t2 => (wantT s [118, 101, 114, 115, 105, 111, 110] t2).bind fun _ t3 => (exprP s (termP s 32) t3).bind fun b t4 =>
    (fieldsP s (exprP s (termP s 32)) (s.length + 1) t4 []).bind fun l t5 => .ok ⟨a, b, l⟩ t5 := by
  unfold sourceP stepT
  cases tokAt s 0 <;> rfl
abbrev kw3 : List (List UInt8) := [[116, 111, 111, 108], [98, 117, 105, 108, 100], [114, 117, 110]]
theorem idx_field {s : ByteArray} {t : Tk} (hv : TV s t) (h3 : t.kind ≠ 3) : idxW kw3 t.s.data.toList + 1 = (fieldK t : Int) := by
  unfold fieldK
  rw [isW_full hv h3 (by decide), isW_full hv h3 (by decide), isW_full hv h3 (by decide)]
  generalize t.s.data.toList = l
  by_cases h1 : l = [116, 111, 111, 108]
  · subst h1; rfl
  by_cases h2 : l = [98, 117, 105, 108, 100]
  · subst h2; rfl
  by_cases h4 : l = [114, 117, 110]
  · subst h4; rfl
  have : idxW kw3 l = -1 := idxW_none fun j y hy => by
    match j, hy with
    | 0, hy => cases hy; exact h1
    | 1, hy => cases hy; exact h2
    | 2, hy => cases hy; exact h4
    | j + 3, hy => simp at hy
  rw [this, beq_eq_false_iff_ne.2 h1, beq_eq_false_iff_ne.2 h2, beq_eq_false_iff_ne.2 h4]
  rfl
theorem idx_lo (l : List (List UInt8)) (x : List UInt8) : -1 ≤ idxW l x ∧ idxW l x ≤ l.length := by
  unfold idxW
  split
  · rename_i i h
    have := (List.findIdx?_eq_some_iff_getElem.1 h).1
    omega
  · omega
theorem field_text {t : Tk} (h : t.kind = 3) : fieldK t = 0 := by
  unfold fieldK
  rw [isW_text h, isW_text h, isW_text h]
  rfl
theorem rep_fq {wr w1 : World} {b g : Nat} (hg : b < g) (hF : Fq wr w1 b) {x : E} {v : Value} (h : RepX wr (fun k => g + 1 ≤ k ∧ k < wr.heap.size) x v) : RepX w1 (fun k => g + 1 ≤ k ∧ k < w1.heap.size) x v :=
  h.move fun j hj => ⟨⟨hj.1, Nat.lt_of_lt_of_le hj.2 hF.below.size⟩, hF.block j hj.2 (by omega)⟩
theorem rep_set {wr : World} {g i : Nat} {u : Value} {x : E} {v : Value} (h : RepX wr (fun k => g + 1 ≤ k ∧ k < wr.heap.size) x v) : RepX (wr.setCell ⟨g, i, none⟩ u) (fun k => g + 1 ≤ k ∧ k < (wr.setCell ⟨g, i, none⟩ u).heap.size) x v :=
  h.move fun j hj => ⟨⟨hj.1, by simpa [World.setCell] using hj.2⟩, Below.heap_setCell _ _ _ _ (by show j ≠ g; omega)⟩
theorem src_bad {s : List UInt8} {x1 x2 : E} {t4 : Tk} {R : Res Src} {p : Nat} {e : Int} (h : R = (fieldsP s (exprP s (termP s 32)) (s.length + 1) t4 []).bind fun l t5 => .ok ⟨x1, x2, l⟩ t5) (h2 : fieldsP s (exprP s (termP s 32)) (s.length + 1) t4 [] = .bad p e) : R = .bad p e := by rw [h, h2]; rfl
theorem src_ok {s : List UInt8} {x1 x2 : E} {t4 t5 : Tk} {R : Res Src} {l : List (Int × E × E)} (h : R = (fieldsP s (exprP s (termP s 32)) (s.length + 1) t4 []).bind fun l t5 => .ok ⟨x1, x2, l⟩ t5) (h2 : fieldsP s (exprP s (termP s 32)) (s.length + 1) t4 [] = .ok l t5) : R = .ok ⟨x1, x2, l⟩ t5 := by rw [h, h2]; rfl
set_option maxHeartbeats 8000000 in
set_option maxRecDepth 100000 in
theorem source_any (s : ByteArray) (hs : s.size ≤ 4096) (W : World) (b : Nat) (hk : RK W b s t00 0) :
    Calls Try.prog 29 #[.pointer (some ⟨b, 0, none⟩)] W fun e W' => PX W b s 0 (sourceP s.data.toList) (valS W) e W' := by
  obtain ⟨i0, hi0, hz0, hz1, hz2⟩ := info_parts info_f
  have HE := Lib.hid (source_eq s.data.toList)
  have hA : Below W.heap.size W (W.alloc (.cells zeroS 29)) := (Below.refl _ _).alloc (Nat.le_refl _) _
  have hk0 := hk.keep hA
  have hlt := hk.lt
  have hFA := Fq.of_below hA (Nat.le_of_lt hlt)
  have hzz := Lib.size_eq s
  clear hk hA
  go_enter Try.func29, Try.ntmps29
  go_wp2_with fail
  refine (step_any _ b s t00 0 hk0 (tv00 s) hs).mono ?_
  intro e w0 hx
  rcases res_or (stepT s.data.toList t00) with ⟨p, f, hr⟩ | ⟨u, t0, hr⟩
  · rw [hr] at hx
    obtain ⟨rfl, hS, hF⟩ := hx
    refine ⟨rfl, ?_⟩
    exact px_bad (bindB HE.out hr) ⟨rfl, hS, hFA.trans hF⟩
  rw [hr] at hx
  obtain ⟨rfl, hk1, hF1, hv1⟩ := hx
  have HE := Lib.hid (bindE HE.out hr)
  have HO := Lib.hid (OX.start hlt hk1 hv1 hF1)
  have hbg : b < w0.heap.size := by have := HO.out.lo; omega
  clear hk0 hk1 hF1 hv1 hFA hr
  go_wp2_with fail
  refine (want_any _ b s t0 0 ⟨#[112, 97, 99, 107, 97, 103, 101]⟩ HO.out.rk HO.out.tv hs (ne_nil (c := 112) (l := [97, 99, 107, 97, 103, 101]))).mono ?_
  intro e w1 hx
  rcases res_or (wantT s.data.toList [112, 97, 99, 107, 97, 103, 101] t0) with ⟨p, f, hr⟩ | ⟨u1, t1, hr⟩
  · rw [show wantT s.data.toList (⟨#[112, 97, 99, 107, 97, 103, 101]⟩ : ByteArray).data.toList t0 = .bad p f from hr] at hx
    obtain ⟨rfl, hS, hF⟩ := hx
    refine ⟨rfl, ?_⟩
    exact px_bad (bindB HE.out hr) ⟨rfl, hS, HO.out.fq.trans hF⟩
  rw [show wantT s.data.toList (⟨#[112, 97, 99, 107, 97, 103, 101]⟩ : ByteArray).data.toList t0 = .ok u1 t1 from hr] at hx
  obtain ⟨rfl, hk1, hF1, hv1⟩ := hx
  have HE := Lib.hid (bindE HE.out hr)
  have HO := Lib.hid (HO.out.read hlt hk1 hv1 hF1)
  clear hk1 hF1 hv1 hr
  go_wp2_with fail
  refine (top_any s hs _ b t1 HO.out.rk HO.out.tv).mono ?_
  intro e w2 hx
  rcases res_or (exprP s.data.toList (termP s.data.toList 32) t1) with ⟨p, f, hr⟩ | ⟨x1, t2, hr⟩
  · rw [hr] at hx
    obtain ⟨rfl, hS, hF⟩ := hx
    refine ⟨rfl, ?_⟩
    exact px_bad (bindB HE.out hr) ⟨rfl, hS, HO.out.fq.trans hF⟩
  rw [hr] at hx
  obtain ⟨⟨k1, σ1, sl1, n1, c1, rfl, hrep1⟩, hk1, hF1, hv1⟩ := hx
  have HE := Lib.hid (bindE HE.out hr)
  have hr1 := hrep1.sub (S' := fun k => w0.heap.size + 1 ≤ k ∧ k < w2.heap.size) fun j hj => ⟨by have := HO.out.lt; omega, hj.2⟩
  have HO := Lib.hid (HO.out.read hlt hk1 hv1 hF1)
  have o0 := HO.out.at 0 (by simp)
  have o1 := HO.out.at 1 (by simp)
  have o2 := HO.out.at 2 (by simp)
  have of := HO.out.fz
  have hHO := ((HO.out.set hlt 0 (by simp) (.int .i64 k1)).set hlt 1 (by simp) (.string σ1)).set hlt 2 (by simp) (.slice sl1 n1 c1)
  have HR1 := Lib.hid (rep_set (i := 2) (u := .slice sl1 n1 c1) (rep_set (i := 1) (u := .string σ1) (rep_set (i := 0) (u := .int .i64 k1) hr1)))
  have HO := Lib.hid hHO
  clear hk1 hF1 hv1 hr hrep1 hr1 hHO
  go_wp2_with fail
  refine (want_any _ b s t2 0 ⟨#[118, 101, 114, 115, 105, 111, 110]⟩ HO.out.rk HO.out.tv hs (ne_nil (c := 118) (l := [101, 114, 115, 105, 111, 110]))).mono ?_
  intro e w3 hx
  rcases res_or (wantT s.data.toList [118, 101, 114, 115, 105, 111, 110] t2) with ⟨p, f, hr⟩ | ⟨u3, t3, hr⟩
  · rw [show wantT s.data.toList (⟨#[118, 101, 114, 115, 105, 111, 110]⟩ : ByteArray).data.toList t2 = .bad p f from hr] at hx
    obtain ⟨rfl, hS, hF⟩ := hx
    refine ⟨rfl, ?_⟩
    exact px_bad (bindB HE.out hr) ⟨rfl, hS, HO.out.fq.trans hF⟩
  rw [show wantT s.data.toList (⟨#[118, 101, 114, 115, 105, 111, 110]⟩ : ByteArray).data.toList t2 = .ok u3 t3 from hr] at hx
  obtain ⟨rfl, hk1, hF1, hv1⟩ := hx
  have HE := Lib.hid (bindE HE.out hr)
  have HO := Lib.hid (HO.out.read hlt hk1 hv1 hF1)
  have HR1 := Lib.hid (rep_fq hbg hF1 HR1.out)
  clear hk1 hF1 hv1 hr o0 o1 o2 of
  go_wp2_with fail
  refine (top_any s hs _ b t3 HO.out.rk HO.out.tv).mono ?_
  intro e w4 hx
  rcases res_or (exprP s.data.toList (termP s.data.toList 32) t3) with ⟨p, f, hr⟩ | ⟨x2, t4, hr⟩
  · rw [hr] at hx
    obtain ⟨rfl, hS, hF⟩ := hx
    refine ⟨rfl, ?_⟩
    exact px_bad (bindB HE.out hr) ⟨rfl, hS, HO.out.fq.trans hF⟩
  rw [hr] at hx
  obtain ⟨⟨k2, σ2, sl2, n2, c2, rfl, hrep2⟩, hk1, hF1, hv1⟩ := hx
  have HE := Lib.hid (bindE HE.out hr)
  have hr2 := hrep2.sub (S' := fun k => w0.heap.size + 1 ≤ k ∧ k < w4.heap.size) fun j hj => ⟨by have := HO.out.lt; omega, hj.2⟩
  have HO := Lib.hid (HO.out.read hlt hk1 hv1 hF1)
  have hr1 := rep_fq hbg hF1 HR1.out
  have o3 := HO.out.at 3 (by simp)
  have o4 := HO.out.at 4 (by simp)
  have o5 := HO.out.at 5 (by simp)
  have of := HO.out.fz
  have hHO := ((HO.out.set hlt 3 (by simp) (.int .i64 k2)).set hlt 4 (by simp) (.string σ2)).set hlt 5 (by simp) (.slice sl2 n2 c2)
  have hR1 := rep_set (i := 5) (u := .slice sl2 n2 c2) (rep_set (i := 4) (u := .string σ2) (rep_set (i := 3) (u := .int .i64 k2) hr1))
  have hR2 := rep_set (i := 5) (u := .slice sl2 n2 c2) (rep_set (i := 4) (u := .string σ2) (rep_set (i := 3) (u := .int .i64 k2) hr2))
  have hSX : SX W (((w4.setCell ⟨w0.heap.size, 3, none⟩ (.int .i64 k2)).setCell ⟨w0.heap.size, 4, none⟩ (.string σ2)).setCell ⟨w0.heap.size, 5, none⟩ (.slice sl2 n2 c2)) b s (exprP s.data.toList (termP s.data.toList 32)) w0.heap.size x1 x2 ⟨k1, σ1, sl1, n1, c1⟩ ⟨k2, σ2, sl2, n2, c2⟩ (.slice none 0 0) [] [] t4 (s.size + 1) (fieldsP s.data.toList (exprP s.data.toList (termP s.data.toList 32)) (s.size + 1) t4 []) :=
    ⟨hHO, hR1.sub fun j hj => ⟨hj.1, hj.2, by simp [Value.ownBlock]⟩, hR2.sub fun j hj => ⟨hj.1, hj.2, by simp [Value.ownBlock]⟩, KF.start _ _, by simp, by omega, rfl⟩
  have HB := Lib.hid (show ∀ p e, fieldsP s.data.toList (exprP s.data.toList (termP s.data.toList 32)) (s.size + 1) t4 [] = .bad p e → sourceP s.data.toList = .bad p e from fun p e h => src_bad HE.out (by rw [← hzz]; exact h))
  have HOK := Lib.hid (show ∀ l t5, fieldsP s.data.toList (exprP s.data.toList (termP s.data.toList 32)) (s.size + 1) t4 [] = .ok l t5 → sourceP s.data.toList = .ok ⟨x1, x2, l⟩ t5 from fun l t5 h => src_ok HE.out (by rw [← hzz]; exact h))
  generalize fieldsP s.data.toList (exprP s.data.toList (termP s.data.toList 32)) (s.size + 1) t4 [] = R at hSX HB HOK
  have HSX := Lib.hid hSX
  clear hk1 hF1 hv1 hr hrep2 hr1 hr2 hHO hR1 hR2 hSX HR1 HO HE
  go_wp2_with fail
  go_loopw [4] (fun _ wr => ∃ (v : Value) (ts : List (Int × E × E)) (qs : List F7) (t : Tk) (m : Nat), SX W wr b s (exprP s.data.toList (termP s.data.toList 32)) w0.heap.size x1 x2 ⟨k1, σ1, sl1, n1, c1⟩ ⟨k2, σ2, sl2, n2, c2⟩ v ts qs t m R) (fun _ wr => mz s b wr)
  case atStart => exact ⟨_, _, _, _, _, HSX.out⟩
  case round =>
    obtain ⟨v, ts, qs, t, m, L⟩ := hrel
    clear HSX o3 o4 o5 of
    have hfu := L.fuel
    obtain ⟨m, rfl⟩ : ∃ m', m = m' + 1 := ⟨m - 1, by omega⟩
    have HL := Lib.hid L
    have hv := L.ox.tv
    obtain ⟨slv, cv, rfl⟩ := own_form L.kf.own
    obtain ⟨rlt, -, -, d2, d3, d4, -, -⟩ := id L.ox.rk
    have o6 : wr.cell? ⟨w0.heap.size, 6, none⟩ = some (.slice slv ts.length cv) := L.ox.at 6 (by simp)
    have hix := index_any kw3 (.slice (some ⟨wr.heap.size, 0, none⟩) 3 3) t.s _ (ss_lit wr kw3) (by decide)
    by_cases h3 : t.kind = 3
    · have t3 : (t.kind == 3) = true := by rw [beq_iff_eq]; exact h3
      rw [t3] at d2
      have HN := Lib.hid (HB.out _ _ (L.eq.symm.trans (fields_no (by omega) (field_text h3))))
      have HX := Lib.hid (HL.out.ox.keep hlt ((Below.refl _ _).alloc (Nat.le_refl _) (.cells #[.string ⟨#[116, 111, 111, 108]⟩, .string ⟨#[98, 117, 105, 108, 100]⟩, .string ⟨#[114, 117, 110]⟩] 9)))
      obtain ⟨-, -, -, f2, f3, f4, -, -⟩ := id HX.out.rk
      rw [t3] at f2
      clear h3 t3 L o6
      go_wp2_with fail
      refine hix.mono ?_
      rintro e w5 ⟨rfl, rfl⟩
      clear hix
      go_wp2_with fail
      refine (fail_any t.pl 50 _).mono ?_
      rintro e w9 ⟨rfl, rfl⟩
      refine ⟨rfl, ?_⟩
      exact px_bad HN.out ⟨rfl, ⟨_, _, _, _, _, HX.out.rk⟩, HX.out.fq⟩
    have t3 : (t.kind == 3) = false := by rw [beq_eq_false_iff_ne]; exact h3
    rw [t3] at d2
    by_cases h0 : t.kind = 0
    · have hem := Sx.emp_tt (hv.none h0)
      have HN := Lib.hid (HOK.out _ _ (L.eq.symm.trans (fields_end h0)))
      have hdone := L.done hlt
      have bx := L.ox.bx
      have g0 := L.ox.at 0 (by simp)
      have g1 := L.ox.at 1 (by simp)
      have g2 := L.ox.at 2 (by simp)
      have g3 := L.ox.at 3 (by simp)
      have g4 := L.ox.at 4 (by simp)
      have g5 := L.ox.at 5 (by simp)
      have q0 : wr.cell? ⟨W.heap.size, 0, none⟩ = some (.int .i64 0) := by simp [World.cell?, bx]
      have q1 : wr.cell? ⟨W.heap.size, 1, none⟩ = some (.string ⟨#[]⟩) := by simp [World.cell?, bx]
      have q2 : wr.cell? ⟨W.heap.size, 2, none⟩ = some (.slice none 0 0) := by simp [World.cell?, bx]
      have q3 : wr.cell? ⟨W.heap.size, 3, none⟩ = some (.int .i64 0) := by simp [World.cell?, bx]
      have q4 : wr.cell? ⟨W.heap.size, 4, none⟩ = some (.string ⟨#[]⟩) := by simp [World.cell?, bx]
      have q5 : wr.cell? ⟨W.heap.size, 5, none⟩ = some (.slice none 0 0) := by simp [World.cell?, bx]
      have q6 : wr.cell? ⟨W.heap.size, 6, none⟩ = some (.slice none 0 0) := by simp [World.cell?, bx]
      have qf : ∀ j, wr.frozen? ⟨W.heap.size, j, none⟩ = false := fun j => by simp [World.frozen?, bx]
      have HDN := Lib.hid hdone
      have HV := Lib.hid hv
      clear h0 h3 t3 L hix hdone bx hv
      go_wp2_with fail
      refine bodyPost_ret (v := .agg #[.int .i64 k1, .string σ1, .slice sl1 n1 c1, .int .i64 k2, .string σ2, .slice sl2 n2 c2, .slice slv ts.length cv]) (by simp [results, Try.results29, go_sem, q0, q1, q2, q3, q4, q5, q6]) rfl ?_
      exact px_ok HN.out ⟨_, rfl, HDN.out.1⟩ HDN.out.2.1 HDN.out.2.2 HV.out
    have hem := Sx.emp_ff (hv.word (by have := hv.kind; omega))
    have hif := idx_field hv h3
    have hil := idx_lo kw3 t.s.data.toList
    have kk : IntKind.i64.wrap (idxW kw3 t.s.data.toList + 1) = (fieldK t : Int) := by rw [IntWalk.i64_in _ (by have := (show kw3.length = 3 from rfl); omega), hif]
    have HX := Lib.hid (HL.out.ox.keep hlt ((Below.refl _ _).alloc (Nat.le_refl _) (.cells #[.string ⟨#[116, 111, 111, 108]⟩, .string ⟨#[98, 117, 105, 108, 100]⟩, .string ⟨#[114, 117, 110]⟩] 9)))
    obtain ⟨-, -, -, f2, f3, f4, -, -⟩ := id HX.out.rk
    rw [t3] at f2
    clear hif hil
    generalize idxW kw3 t.s.data.toList = ix at *
    by_cases hfk : fieldK t = 0
    · have j1 : ((fieldK t : Int) == 0) = true := by rw [beq_iff_eq]; omega
      have HN := Lib.hid (HB.out _ _ (L.eq.symm.trans (fields_no h0 hfk)))
      clear h0 h3 t3 L o6 hfk hv
      go_wp2_with fail
      refine hix.mono ?_
      rintro e w5 ⟨rfl, rfl⟩
      clear hix
      go_wp2_with fail
      refine (fail_any t.pl 50 _).mono ?_
      rintro e w9 ⟨rfl, rfl⟩
      refine ⟨rfl, ?_⟩
      exact px_bad HN.out ⟨rfl, ⟨_, _, _, _, _, HX.out.rk⟩, HX.out.fq⟩
    have j1 : ((fieldK t : Int) == 0) = false := by rw [beq_eq_false_iff_ne]; omega
    have o6' := HX.out.cs 6 (.slice slv ts.length cv) rfl
    by_cases h20 : ts.length = 20
    · have j2 : ((ts.length : Int) == 20) = true := by rw [beq_iff_eq]; omega
      have HN := Lib.hid (HB.out _ _ (L.eq.symm.trans (fields_many h0 hfk h20)))
      clear h0 h3 t3 L o6 hfk hv h20
      go_wp2_with fail
      refine hix.mono ?_
      rintro e w5 ⟨rfl, rfl⟩
      clear hix
      go_wp2_with fail
      refine (fail_any t.pl 13 _).mono ?_
      rintro e w9 ⟨rfl, rfl⟩
      refine ⟨rfl, ?_⟩
      exact px_bad HN.out ⟨rfl, ⟨_, _, _, _, _, HX.out.rk⟩, HX.out.fq⟩
    have j2 : ((ts.length : Int) == 20) = false := by rw [beq_eq_false_iff_ne]; omega
    have h20' : ts.length < 20 := by have := L.few; omega
    have HE := Lib.hid (L.eq.symm.trans (fields_step h0 hfk h20))
    have H0 := Lib.hid h0
    have HK := Lib.hid hfk
    have H20 := Lib.hid h20
    clear h0 h3 t3 L o6 hfk hv h20
    go_wp2_with fail
    refine hix.mono ?_
    rintro e w5 ⟨rfl, rfl⟩
    clear hix
    go_wp2_with fail
    refine (step_any _ b s t 0 HX.out.rk HX.out.tv hs).mono ?_
    intro e w6 hx
    rcases res_or (stepT s.data.toList t) with ⟨p, f, h1⟩ | ⟨u, t5, h1⟩
    · rw [h1] at hx
      obtain ⟨rfl, hS, hF⟩ := hx
      refine ⟨rfl, ?_⟩
      exact px_bad (HB.out _ _ (bindB HE.out h1)) ⟨rfl, hS, HX.out.fq.trans hF⟩
    rw [h1] at hx
    obtain ⟨rfl, hk1, hF1, hv1⟩ := hx
    have HE := Lib.hid (bindE HE.out h1)
    have hF0 : Fq wr w6 b := (fq_alloc wr b (Nat.le_of_lt rlt) _).trans hF1
    have HY := Lib.hid (HL.out.ox.read hlt hk1 hv1 hF0)
    have H1 := Lib.hid h1
    have o6 : w6.cell? ⟨w0.heap.size, 6, none⟩ = some (.slice slv ts.length cv) := HY.out.at 6 (by simp)
    have hogb : (Value.slice slv ts.length cv).ownBlock ≠ some w0.heap.size := fun e => by have := (HL.out.kf.own.lt _ e).1; omega
    have HO6 := Lib.hid (HY.out.fz 6)
    have e6 := kr_cell (v := .slice slv ts.length cv) o6 (show w0.heap.size ≠ b by omega) hogb
    have hcl : ∀ {Y : World}, Fq w6 Y b → ∃ Y', Y = kr w6 b (.slice slv ts.length cv) Y' := fun hf => ⟨_, kr_of fun j hj h1 _ => hf.block j hj h1⟩
    clear h1 hk1 hF1 hv1 o6' f2 f3 f4 d2 d3 d4 HX
    go_wp2_with fail
    refine Mix.region (fun w' => ∃ Y, w' = kr w6 b (.slice slv ts.length cv) Y) 10 [0, 0, 0, 0, 1, 0, 1, 1, 1, 1, 9, 9] [true, false] (by kernel_rfl) (fun _ _ d _ _ h => by cases d <;> exact h) (by rfl) (by kernel_rfl) (kr_drew _ _ _) ?_
    simp only [Mix.selP_cons, Mix.selP_nil, Mix.sel_cons, Mix.sel_nil, Nat.reduceBEq, Nat.reduceAdd, cond_true, cond_false, List.drop_succ_cons, List.drop_zero]
    refine Mix.parts_q ?_
    repeat (go_big_quiet_step (fail))
    refine wpQuiet_nil ?_
    refine Mix.parts_e ?_
    clear e6
    have HY := Lib.hid (HY.out.drewN 1)
    have hFd : Fq w6 (w6.drewN 1) b := (Fq.refl w6 b).drew 1
    have hcall := top_any s hs (w6.drewN 1) b t5 HY.out.rk HY.out.tv
    refine Mix.eff_step (fun K hK => ?_)
    go_simp
    refine hcall.mono ?_
    clear hcall
    intro e w7 hx
    rcases res_or (exprP s.data.toList (termP s.data.toList 32) t5) with ⟨p, f, h2⟩ | ⟨y, t6, h2⟩
    · rw [h2] at hx
      obtain ⟨rfl, hS, hF⟩ := hx
      refine ⟨rfl, ?_⟩
      exact px_bad (HB.out _ _ (bindB HE.out h2)) ⟨rfl, hS, HY.out.fq.trans hF⟩
    rw [h2] at hx
    obtain ⟨⟨k3, σ3, sl3, n3, c3, rfl, hrep3⟩, hk2, hF2, hv2⟩ := hx
    have HE := Lib.hid (bindE HE.out h2)
    have H2 := Lib.hid h2
    have HY := Lib.hid (HY.out.read hlt hk2 hv2 hF2)
    refine hK _ _ (hcl (hFd.trans hF2)) ?_
    clear hK K h2 hk2 hv2
    have hcall := top_any s hs w7 b t6 HY.out.rk HY.out.tv
    refine Mix.eff_step (fun K hK => ?_)
    go_simp
    refine hcall.mono ?_
    clear hcall
    intro e w8 hx
    rcases res_or (exprP s.data.toList (termP s.data.toList 32) t6) with ⟨p, f, h4⟩ | ⟨z, t7, h4⟩
    · rw [h4] at hx
      obtain ⟨rfl, hS, hF⟩ := hx
      refine ⟨rfl, ?_⟩
      exact px_bad (HB.out _ _ (bindB HE.out h4)) ⟨rfl, hS, HY.out.fq.trans hF⟩
    rw [h4] at hx
    obtain ⟨⟨k4, σ4, sl4, n4, c4, rfl, hrep4⟩, hk3, hF3, hv3⟩ := hx
    have hF8 := (hFd.trans hF2).trans hF3
    refine hK _ _ (hcl hF8) ?_
    clear hK K
    refine Mix.eff_step (fun K hK => ?_)
    go_simp
    refine hK _ _ (hcl hF8) ?_
    clear hK K
    refine Mix.eff_step (fun K hK => ?_)
    go_simp
    have hF9 := hF8.trans (fq_alloc w8 b (by have := hk3.lt; omega) (.cells #[.int .i64 (fieldK t : Int), .int .i64 k3, .string σ3, .slice sl3 n3 c3, .int .i64 k4, .string σ4, .slice sl4 n4 c4] 47))
    refine hK _ _ (hcl hF9) ?_
    clear hK K
    have hgs : w0.heap.size + 1 ≤ (w8.alloc (.cells #[.int .i64 (fieldK t : Int), .int .i64 k3, .string σ3, .slice sl3 n3 c3, .int .i64 k4, .string σ4, .slice sl4 n4 c4] 47)).heap.size := by
      have h1 := HL.out.ox.lt
      have h2 := hF0.below.size
      have h3 := hF9.below.size
      omega
    have hown := own_alloc' (w1 := w8) HL.out.kf.own (show b < w0.heap.size + 1 by omega) (hF0.trans hF8) (.cells #[.int .i64 (fieldK t : Int), .int .i64 k3, .string σ3, .slice sl3 n3 c3, .int .i64 k4, .string σ4, .slice sl4 n4 c4] 47)
    refine Mix.eff_step (fun K hK => ?_)
    refine step_append_lies _ rfl _ _ 27 rfl (w0.heap.size + 1) 47 i0 _ 7 104 Try.underlying27 hi0 hz0 hz1 hz2 rfl (by decide) (.slice slv ts.length cv) ts.length _ rfl hown ⟨w8.heap.size, 0, none⟩ 1 1 (cells7 (.int .i64 (fieldK t : Int), (.int .i64 k3, .string σ3, .slice sl3 n3 c3), (.int .i64 k4, .string σ4, .slice sl4 n4 c4))) rfl rfl ?d1 ?d2 (by decide) ?d3 ?d4 ?d5 (w8.heap.size + 1) (by simp) ?_
    case d1 => exact World.news_of_block (heap_alloc_new w8 _)
    case d2 =>
      intro u hu
      simp only [cells7, List.mem_cons, List.not_mem_nil, or_false] at hu
      rcases hu with rfl | rfl | rfl | rfl | rfl | rfl | rfl <;> rfl
    case d3 => unfold maxLen; omega
    case d4 => omega
    case d5 => exact hgs
    intro g' cap w10 hown2 hgr hat hlt2
    have hcl10 : ∃ Y, w10 = kr w6 b (.slice slv ts.length cv) Y := ⟨_, kr_of fun j hj hb hne => (hgr.block j (Nat.lt_of_lt_of_le hj hF9.below.size) (fun e => hne e.symm)).trans (hF9.block j hj hb)⟩
    refine hK _ _ hcl10 ?_
    clear hK K
    refine Mix.eff_nil (Mix.parts_n ?_)
    have hN := HL.out.next (p := ⟨k3, σ3, sl3, n3, c3⟩) (q := ⟨k4, σ4, sl4, n4, c4⟩) hlt (expr_prog (term_prog _ 32)) H0.out HK.out H20.out H1.out H2.out h4 hv3 hk3 rfl (hF0.trans hFd) hF2 hF3 hrep3 hrep4 hown2 hgr hat
    have hg6 : w10.cell? ⟨w0.heap.size, 6, none⟩ = some (.slice slv ts.length cv) := (World.cell?_of_block (hgr.block w0.heap.size (by show w0.heap.size < (w8.alloc _).heap.size; omega) (fun e => hogb e.symm))).trans ((World.cell?_of_block (hF9.block w0.heap.size (by have h1 := HL.out.ox.lt; have h2 := hF0.below.size; omega) (by omega))).trans o6)
    have hgf : w10.frozen? ⟨w0.heap.size, 6, none⟩ = false := (World.frozen?_of_block (hgr.block w0.heap.size (by show w0.heap.size < (w8.alloc _).heap.size; omega) (fun e => hogb e.symm))).trans ((World.frozen?_of_block (hF9.block w0.heap.size (by have h1 := HL.out.ox.lt; have h2 := hF0.below.size; omega) (by omega))).trans HO6.out)
    have HN := Lib.hid hN
    have HMO := Lib.hid (mz_of HL.out.ox.rk)
    have HMZ := Lib.hid (mz_of hN.1.ox.rk)
    clear hN hown2 hgr hat hlt2 hown hrep3 hrep4 hk3 hF2 hF3 hv3 hF8 hF9 hF0 hFd h4 hgs hcl hcl10
    go_wp2_with fail
    go_roundw
    case rel => exact ⟨_, _, _, _, _, HN.out.1⟩
    case measure =>
      show mz s b _ < mz s b _
      rw [HMZ.out, HMO.out]
      have := HN.out.2
      have := HN.out.1.ox.tv.fin
      omega
end Rc
end Go.Proofs.Ytcigggffaofkhaa
