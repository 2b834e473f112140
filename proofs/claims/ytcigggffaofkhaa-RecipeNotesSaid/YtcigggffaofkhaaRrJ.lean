/-
  The reference's term: if; terms at every depth.
-/
import Derived.Test.YtcigggffaofkhaaRrI
namespace Go.Proofs.Ytcigggffaofkhaa
open Go.RowKit
namespace Rc

theorem cond_end {W wr : World} {b : Nat} {s : ByteArray} {f : Tk → Res E} {tk : List Value} {g : Nat} {sl : Option Addr} {c : Nat} {st : Res Unit} {R : Res (List E)} (L : IX W wr b s f tk g 4 (.slice sl 4 c) (w4.drop 4) (.ok ()) st R) :
    PE W b s (R.bind fun l t => .ok (.mk 4 ⟨#[]⟩ l) t) (.returned (.agg #[.int .i64 4, .string ⟨#[]⟩, .slice sl 4 c])) (put3 wr W.heap.size (.int .i64 4) (.string ⟨#[]⟩) (.slice sl 4 c)) := by
  have hgt := L.gt
  obtain ⟨qs, hk, hgood⟩ := L.kids
  have hu : unitR (R.bind fun l t => .ok (E.mk 4 ⟨#[]⟩ l) t) = st := by
    cases st with
    | bad p e => rw [L.bad p e rfl]; rfl
    | ok u t =>
      obtain ⟨acc, -, h⟩ := hgood u t rfl
      rw [← h]; rfl
  refine ZV.pe (by rw [hu]; exact L.zv) (Nat.le_refl _) fun x t hx => ?_
  obtain ⟨l, t1, h1, h2⟩ := bind_ok hx
  simp only [Res.ok.injEq] at h2
  obtain ⟨rfl, rfl⟩ := h2
  cases st with
  | bad p e => rw [L.bad p e rfl] at h1; cases h1
  | ok u t2 =>
    obtain ⟨acc, hr, h⟩ := hgood u t2 rfl
    rw [← h] at h1
    change Res.ok acc t2 = Res.ok l t1 at h1
    simp only [Res.ok.injEq] at h1
    obtain ⟨rfl, rfl⟩ := h1
    exact (hk.list (by omega) hr 4 ⟨#[]⟩).sub fun j hj => ⟨by omega, hj.2, by omega⟩

set_option maxHeartbeats 1000000 in
theorem rterm_cond (s : ByteArray) (hs : s.size ≤ 4096) (dp : Int) (h0 : 0 ≤ dp) (h1 : dp < 32) (h' : Nat) (hf : ExprR s (dp + 1) (exprP s.data.toList (termP s.data.toList h'))) (W : World) (b : Nat) (t : Tk) (h : RS W b s (.ok () t)) (w1 : isW t [40] = false) (w2 : isW t [105, 102] = true) :
    Calls Try.prog 50 #[.pointer (some ⟨b, 0, none⟩), .int .i64 dp] W fun e W' => PE W b s (termP s.data.toList (h' + 1) t) e W' := by
  obtain ⟨⟨pl, hX⟩, hv, hsm⟩ := id h
  have hZ := ((ZV.start h).push zeroX.toList 26 (g := W.heap.size) rfl).push [.int .i64 t.kind, .string t.s, .int .i64 t.pl, .int .i64 t.fin] 37 (g := W.heap.size + 1) (by simp)
  change ZV W ((W.alloc (.cells zeroX 26)).alloc (.cells #[.int .i64 t.kind, .string t.s, .int .i64 t.pl, .int .i64 t.fin] 37)) b s (.ok () t) [(W.heap.size, zeroX.toList), (W.heap.size + 1, [.int .i64 t.kind, .string t.s, .int .i64 t.pl, .int .i64 t.fin])] at hZ
  have h3 : t.kind ≠ 3 := isW_no3 w2
  have k3 : ((t.kind : Int) != 3) = true := by rw [bne, beq_eq_false_iff_ne.2 (by omega)]; rfl
  have k3b : ((t.kind : Int) == 3) = false := by rw [beq_eq_false_iff_ne]; omega
  have hh1 := rhas_any ((W.alloc (.cells zeroX 26)).alloc (.cells #[.int .i64 t.kind, .string t.s, .int .i64 t.pl, .int .i64 t.fin] 37)) b s (.ok () t) ⟨#[40]⟩ hZ.rs
  rw [show hasS (.ok () t) (⟨#[40]⟩ : ByteArray).data.toList = false from w1] at hh1
  have hh2 := rhas_any ((W.alloc (.cells zeroX 26)).alloc (.cells #[.int .i64 t.kind, .string t.s, .int .i64 t.pl, .int .i64 t.fin] 37)) b s (.ok () t) ⟨#[105, 102]⟩ hZ.rs
  rw [show hasS (.ok () t) (⟨#[105, 102]⟩ : ByteArray).data.toList = true from w2] at hh2
  have e1 : (t.s.toList == [40]) = false := by rw [ByteArray.toList_eq]; exact (isW_full hv h3 (by decide)).symm.trans w1
  have e2 : (t.s.toList == [105, 102]) = true := by rw [ByteArray.toList_eq]; exact (isW_full hv h3 (by decide)).symm.trans w2
  have d1 : (dp == 32) = false := by simp; omega
  have hd : IntKind.i64.wrap (dp + 1) = dp + 1 := IntWalk.i64_in _ (by omega)
  have HE := Lib.hid (if_eq (s := s.data.toList) (h := h') w2)
  clear w1 w2 h3
  have HZ := Lib.hid hZ
  obtain ⟨lt, c0, c1, c2, c3, c4, c5, c6, fz⟩ := hX
  have u0 := hZ.at 1 0 rfl rfl
  have u1 := hZ.at 1 1 rfl rfl
  have u2 := hZ.at 1 2 rfl rfl
  have uf := hZ.fz 1 rfl
  clear h hZ hsm hv
  go_enter Try.func50, Try.ntmps50
  go_wp2_with fail
  refine hh1.mono ?_
  rintro e w1 ⟨rfl, rfl⟩
  clear hh1
  go_wp2_with fail
  refine hh2.mono ?_
  rintro e w1 ⟨rfl, rfl⟩
  clear hh2
  go_wp2_with fail
  have hc := rstep_any _ b s _ hs HZ.out.rs
  refine hc.mono ?_
  rintro e w2 ⟨rfl, hF⟩
  have hZ := HZ.out.call hF
  clear lt c0 c1 c2 c3 c4 c5 c6 fz u0 u1 u2 uf hc hF
  have u0 := hZ.at 1 0 rfl rfl
  have u1 := hZ.at 1 1 rfl rfl
  have u2 := hZ.at 1 2 rfl rfl
  have uf := hZ.fz 1 rfl
  have HL := Lib.hid (IX.start (f := exprP s.data.toList (termP s.data.toList h')) hZ)
  have HH := Lib.hid (show ((Res.ok () t).bind fun _ t => stepT s.data.toList t).bind (fun _ t => ifR s.data.toList (exprP s.data.toList (termP s.data.toList h')) w4 [] t) = (stepT s.data.toList t).bind fun _ t => ifR s.data.toList (exprP s.data.toList (termP s.data.toList h')) w4 [] t from rfl)
  rw [HH.out] at HL
  generalize (stepT s.data.toList t).bind (fun _ t => ifR s.data.toList (exprP s.data.toList (termP s.data.toList h')) w4 [] t) = R at *
  generalize exprP s.data.toList (termP s.data.toList h') = f at *
  generalize ((Res.ok () t).bind fun _ t => stepT s.data.toList t) = st0 at *
  clear hZ HZ HH
  obtain ⟨i0, hi0, hz0, hz1, hz2⟩ := info_parts info_x
  go_wp2_with fail
  generalize (w2.alloc (.cells #[.int .i64 4, .string ⟨#[]⟩, .slice none 0 0] 26)).alloc (.cells #[.string ⟨#[61]⟩, .string ⟨#[116, 104, 101, 110]⟩, .string ⟨#[101, 108, 115, 101]⟩, .string ⟨#[]⟩] 9) = w9 at *
  generalize hg : w2.heap.size = g at *
  clear hg u0 u1 u2 uf
  go_loopw [86] (fun i wr => ∃ (k : Nat) (v : Value) (st : Res Unit), k ≤ 4 ∧ i = .int .i64 k ∧ IX W wr b s f _ g k v (w4.drop k) (.ok ()) st R) (fun i _ => 4 - (intOf i).toNat)
  case atStart => exact ⟨0, _, _, Nat.zero_le _, rfl, HL.out⟩
  case round =>
    obtain ⟨k, v, st, hk4, rfl, L⟩ := hrel
    clear HL
    obtain ⟨slv, nv, cv, rfl⟩ := L.form
    obtain rfl : nv = k := by
      obtain ⟨qs, hk, -⟩ := L.kids
      obtain ⟨sl', cap', he⟩ := own_form hk.own
      simp only [Value.slice.injEq] at he
      exact he.2.1
    by_cases hk2 : nv < 4
    · obtain ⟨w, hw1, hw2, hw3, hw4⟩ := word_at nv hk2
      rw [hw2] at L
      obtain ⟨qs, hk, hgood⟩ := L.kids
      have hcell := L.zv.at 3 nv rfl hw1
      have hc := hf wr b st L.zv.rs
      have HL := Lib.hid L
      have HK := Lib.hid hk
      have HG := Lib.hid hgood
      have HW3 := Lib.hid hw3
      have HW4 := Lib.hid hw4
      have hw0 := hk.own
      clear L hk hgood hw1 hw2 hw3 hw4 hk4
      go_wp2_with fail
      refine hc.mono ?_
      rintro e w3 ⟨k', σ', sl', n', c', rfl, hF, hrep⟩
      clear hc hcell
      have hbs : b < g + 2 := by have := HL.out.gt; have := HL.out.zv.hlt; omega
      have hown := (own_alloc hw0 hbs hF.fq (.cells #[.int .i64 k', .string σ', .slice sl' n' c'] 26)).alloc (.cells #[.int .i64 k', .string σ', .slice sl' n' c'] 26)
      have hsz : g + 2 ≤ ((w3.alloc (.cells #[.int .i64 k', .string σ', .slice sl' n' c'] 26)).alloc (.cells #[.int .i64 k', .string σ', .slice sl' n' c'] 26)).heap.size := by
        have a1 := HL.out.zv.lt 3 rfl
        have a2 := hF.fq.below.size
        simp; omega
      have hV := (HL.out.zv.call hF).made (.cells #[.int .i64 k', .string σ', .slice sl' n' c'] 26)
      have g0 := hV.at 2 0 rfl rfl
      have g1 := hV.at 2 1 rfl rfl
      have g2 := hV.at 2 2 rfl rfl
      have gf := hV.fz 2 rfl
      have hV2 := ((hV.made (.cells #[.int .i64 k', .string σ', .slice sl' n' c'] 26)).vc 2 _ _ rfl).2
      have HNG := Lib.hid (show (Value.slice slv nv cv).ownBlock ≠ some g from fun e => by have := hw0.lt g e; omega)
      have HF := Lib.hid hF
      have HR := Lib.hid hrep
      clear hV hbs hw0 hF hrep
      go_wp2_with (first
        | (at_builtin; refine wpList_append_lies _ rfl _ _ 24 rfl (g + 2) 26 i0 _ 3 48 Try.underlying24 hi0 hz0 hz1 hz2 rfl (by decide) (.slice slv nv cv) nv _ rfl hown ⟨w3.heap.size + 1, 0, none⟩ 1 1 [.int .i64 k', .string σ', .slice sl' n' c'] rfl rfl (lit3' _ _ _ _ _ _ rfl) (one3 ⟨rfl, rfl, rfl⟩) (by decide) ?c3 ?c4 ?c5 (w3.heap.size + 2) (by simp) ?_))
      case c3 => unfold maxLen; omega
      case c4 => omega
      case c5 => exact hsz
      intro g' cap w5 hown2 hgr hat hlt2
      have hN := HL.out.next HF.out HR.out HK.out HG.out hown2 hgr hat
      have hV5 := hV2.block (w1 := w5) (by have := hgr.size; have := hV2.lt; omega) (hgr.block g hV2.lt (fun e => HNG.out e.symm))
      have g0 := hV5.at 0 (by simp)
      have g1 := hV5.at 1 (by simp)
      have g2 := hV5.at 2 (by simp)
      have gf := hV5.fz
      clear hown2 hgr hat hlt2 hown hV2 hV5 hsz HL HK HG HR HF HNG
      by_cases hk3 : nv < 3
      · have e1 := (HW3.out hk3).1
        have hc := rwant_any _ b s _ w hs hN.zv.rs
        have HW := Lib.hid (show (fun t => wW s.data.toList w.data.toList t) = fun t => wantT s.data.toList w.data.toList t by funext t; unfold wW; rw [if_neg (HW3.out hk3).2])
        have HN := Lib.hid hN
        clear hN HW3 HW4
        go_wp2_with fail
        refine hc.mono ?_
        rintro e w6 ⟨rfl, hF⟩
        have hN := HN.out.want (by have h9 := congrFun HW.out; simp only [h9]; exact hF)
        clear hF hc HN HW
        have HN := Lib.hid hN
        clear hN
        go_wp2_with fail
        go_roundw
        case rel => exact ⟨nv + 1, _, _, by omega, by go_num, HN.out⟩
        case measure => simp [intOf]; omega
      · have e1 := (HW4.out (by omega)).1
        have HW := Lib.hid (show wW s.data.toList w.data.toList = Res.ok () by funext t; unfold wW; rw [if_pos (HW4.out (by omega)).2])
        have HN := Lib.hid hN
        clear hN HW3 HW4
        go_wp2_with fail
        go_roundw
        case rel => exact ⟨nv + 1, _, _, by omega, by go_num, by have := HN.out; rw [HW.out] at this; exact this⟩
        case measure => simp [intOf]; omega
    · obtain rfl : nv = 4 := by omega
      have g0 := L.zv.at 2 0 rfl rfl
      have g1 := L.zv.at 2 1 rfl rfl
      have g2 := L.zv.at 2 2 rfl rfl
      have gf := L.zv.fz 2 rfl
      have q0 := L.zv.at 0 0 rfl rfl
      have q1 := L.zv.at 0 1 rfl rfl
      have q2 := L.zv.at 0 2 rfl rfl
      have qf := L.zv.fz 0 rfl
      have HL := Lib.hid L
      clear L hk4 hk2
      go_wp2_with fail
      refine bodyPost_ret (v := .agg #[.int .i64 4, .string ⟨#[]⟩, .slice slv 4 cv]) (by simp [results, Try.results50, go_sem, q0, q1, q2]) rfl ?_
      rw [HE.out]
      exact cond_end HL.out
end Rc
end Go.Proofs.Ytcigggffaofkhaa
