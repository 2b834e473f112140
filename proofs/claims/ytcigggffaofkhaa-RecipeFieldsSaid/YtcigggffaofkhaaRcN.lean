/-
  Walk: the reader's next. (printed by gen_RcN.py)
-/
import Derived.Test.YtcigggffaofkhaaRcQ
import Derived.StillTailTactics
namespace Go.Proofs.Ytcigggffaofkhaa
open Go.RowKit
namespace Rc

theorem tb_all : ∀ n : Fin 256, decide (0 ≤ Lib.indexByte [32, 10, 9, 35] (UInt8.ofNat n.1)) = blank (UInt8.ofNat n.1) := by decide +kernel
theorem ts_all : ∀ n : Fin 256, decide (0 ≤ Lib.indexByte [40, 41, 43, 61] (UInt8.ofNat n.1)) = sign (UInt8.ofNat n.1) := by decide +kernel
theorem tl_all : ∀ n : Fin 256, decide (0 ≤ Lib.indexByte [97, 98, 99, 100, 101, 102, 103, 104, 105, 106, 107, 108, 109, 110, 111, 112, 113, 114, 115, 116, 117, 118, 119, 120, 121, 122, 48, 49, 50, 51, 52, 53, 54, 55, 56, 57, 95] (UInt8.ofNat n.1)) = letter (UInt8.ofNat n.1) := by decide +kernel
theorem fin_all {p : UInt8 → Bool} {l : List UInt8} (h : ∀ n : Fin 256, decide (0 ≤ Lib.indexByte l (UInt8.ofNat n.1)) = p (UInt8.ofNat n.1)) (c : UInt8) : decide (0 ≤ Lib.indexByte l c) = p c := by
  have h := h ⟨c.toNat, c.toNat_lt⟩
  simpa using h
theorem ib_any (t : ByteArray) (c : UInt8) (w : World) : Calls Try.prog 55 #[.string t, .int .u8 (c.toNat : Int)] w fun e w' => e = .returned (.int .i64 (Lib.indexByte t.data.toList c)) ∧ w' = w := by
  refine (Try.strings_IndexByte t (c.toNat : Int) w).mono ?_
  rintro e w' ⟨rfl, rfl⟩
  have e1 : ((c.toNat : Int)).toNat.toUInt8 = c := by simp
  rw [e1]
  exact ⟨rfl, rfl⟩
/-- one byte's test by a table: a number that is not negative just if it is so -/
theorem ib_ex {p : UInt8 → Bool} {t : ByteArray} (h : ∀ n : Fin 256, decide (0 ≤ Lib.indexByte t.data.toList (UInt8.ofNat n.1)) = p (UInt8.ofNat n.1)) (c : UInt8) : ∃ n : Int, decide (0 ≤ n) = p c ∧ ∀ w, Calls Try.prog 55 #[.string t, .int .u8 (c.toNat : Int)] w fun e w' => e = .returned (.int .i64 n) ∧ w' = w :=
  ⟨_, fin_all h c, ib_any t c⟩
def SK (s : ByteArray) (a m : Nat) (note : Bool) : Prop := a ≤ m ∧ skipL false (s.data.toList.drop a) = (m - a) + skipL note (s.data.toList.drop m)
theorem SK.start (s : ByteArray) (a : Nat) : SK s a a false := ⟨Nat.le_refl _, by simp⟩
theorem SK.step {s : ByteArray} {a m : Nat} {note : Bool} (h : SK s a m note) (hm : m < s.size) (hc : (note || blank s[m]) = true) : SK s a (m + 1) (s[m] == 35 || (note && s[m] != 10)) := by
  obtain ⟨h1, h2⟩ := h
  refine ⟨by omega, ?_⟩
  rw [h2, drop_at hm]
  simp only [skipL, hc, if_true]
  omega
theorem SK.nl {s : ByteArray} {a m : Nat} (h : SK s a m true) (hm : s.size ≤ m ∨ ∃ (hm : m < s.size), s[m] = 10) : SK s a m false := by
  obtain ⟨h1, h2⟩ := h
  refine ⟨h1, ?_⟩
  rw [h2]
  rcases hm with hm | ⟨hm, hc⟩
  · rw [drop_end hm]
    rfl
  · rw [drop_at hm, hc]
    simp [skipL, blank]
theorem SK.stop {s : ByteArray} {a m : Nat} (h : SK s a m false) (hm : s.size ≤ m ∨ ∃ (hm : m < s.size), blank s[m] = false) : skipL false (s.data.toList.drop a) = m - a := by
  obtain ⟨h1, h2⟩ := h
  rw [h2]
  rcases hm with hm | ⟨hm, hc⟩
  · rw [drop_end hm]
    simp [skipL]
  · rw [drop_at hm]
    simp [skipL, hc]
theorem tok_here {s : ByteArray} {a m : Nat} (h : SK s a m false) (hm : s.size ≤ m ∨ ∃ (hm : m < s.size), blank s[m] = false) : tokAt s.data.toList a = tokP s.data.toList m := by
  unfold tokAt
  rw [h.stop hm, show a + (m - a) = m by have := h.1; omega]
theorem tok_end {s : ByteArray} {m : Nat} (hm : s.size ≤ m) : tokP s.data.toList m = .ok ⟨0, ⟨#[]⟩, m, m⟩ := by unfold tokP; rw [drop_end hm]
theorem tok_str {s : ByteArray} {m : Nat} (hm : m < s.size) (hc : s[m] = 34) : tokP s.data.toList m = match strL (s.data.toList.drop (m + 1)) with
    | some (x, n) => .ok ⟨3, ⟨x.toArray⟩, m, m + 1 + n⟩
    | none => .bad m := by unfold tokP; rw [drop_at hm, hc]; rfl
theorem tok_sign {s : ByteArray} {m : Nat} (hm : m < s.size) (h34 : s[m] ≠ 34) (hc : sign s[m] = true) : tokP s.data.toList m = .ok ⟨2, ⟨#[s[m]]⟩, m, m + 1⟩ := by
  unfold tokP
  rw [drop_at hm]
  simp only
  rw [if_neg h34, if_pos hc]
theorem tok_word {s : ByteArray} {m k : Nat} (hm : m < s.size) (h34 : s[m] ≠ 34) (hc : sign s[m] = false) (hk : wordN (s.data.toList.drop m) = k) : tokP s.data.toList m = if k = 0 then .bad m else .ok ⟨1, ⟨((s.data.toList.drop m).take k).toArray⟩, m, m + k⟩ := by
  unfold tokP
  rw [drop_at hm] at hk ⊢
  simp only
  rw [if_neg h34, hc, if_neg (by decide), hk]
/-- so many letters stand from a on -/
def WN (s : ByteArray) (a m : Nat) : Prop := a ≤ m ∧ wordN (s.data.toList.drop a) = (m - a) + wordN (s.data.toList.drop m)
theorem WN.start (s : ByteArray) (a : Nat) : WN s a a := ⟨Nat.le_refl _, by simp⟩
theorem WN.step {s : ByteArray} {a m : Nat} (h : WN s a m) (hm : m < s.size) (hc : letter s[m] = true) : WN s a (m + 1) := by
  obtain ⟨h1, h2⟩ := h
  refine ⟨by omega, ?_⟩
  rw [h2, drop_at hm]
  simp only [wordN, List.takeWhile_cons, hc, if_true, List.length_cons]
  omega
theorem WN.stop {s : ByteArray} {a m : Nat} (h : WN s a m) (hm : s.size ≤ m ∨ ∃ (hm : m < s.size), letter s[m] = false) : wordN (s.data.toList.drop a) = m - a := by
  obtain ⟨h1, h2⟩ := h
  rw [h2]
  rcases hm with hm | ⟨hm, hc⟩
  · rw [drop_end hm]
    simp [wordN]
  · rw [drop_at hm]
    simp [wordN, hc]
theorem ext_word {s : ByteArray} {m k : Nat} : s.extract m k = ⟨((s.data.toList.drop m).take (k - m)).toArray⟩ := by
  apply ByteArray.ext
  apply Array.toList_inj.1
  simp [ByteArray.data_extract, Array.toList_extract, List.extract_eq_take_drop]
theorem ext_one {s : ByteArray} {m : Nat} (hm : m < s.size) : s.extract m (m + 1) = ⟨#[s[m]]⟩ := by
  rw [ext_word, drop_at hm, show m + 1 - m = 1 by omega]
  rfl
theorem tok_w0 {s : ByteArray} {a m : Nat} {r : RT} (h : r = if m - a = 0 then .bad a else .ok ⟨1, ⟨((s.data.toList.drop a).take (m - a)).toArray⟩, a, a + (m - a)⟩) (hm : m = a) : r = .bad a := by rw [h, if_pos (by omega)]
theorem tok_w1 {s : ByteArray} {a m : Nat} {r : RT} (h : r = if m - a = 0 then .bad a else .ok ⟨1, ⟨((s.data.toList.drop a).take (m - a)).toArray⟩, a, a + (m - a)⟩) (hm : a < m) : r = .ok ⟨1, s.extract a m, a, m⟩ := by rw [h, if_neg (by omega), ext_word, show a + (m - a) = m by omega]
/-- what next does -/
def NX (W : World) (b : Nat) (s : ByteArray) (dp : Int) (o : RT) (e : Ending) (W' : World) : Prop := match o with
  | .ok t => e = .returned (.tuple #[]) ∧ RD W' b s t.fin (t.kind == 3) t.s t.pl dp ∧ Fq W W' b
  | .bad p => PB W W' b s p 50 e
theorem nx_ok {W : World} {b : Nat} {s : ByteArray} {dp : Int} {o : RT} {t : Tk} {e : Ending} {W' : World} (h : o = .ok t) (he : e = .returned (.tuple #[])) (hr : RD W' b s t.fin (t.kind == 3) t.s t.pl dp) (hf : Fq W W' b) : NX W b s dp o e W' := by
  rw [h]; exact ⟨he, hr, hf⟩
theorem nx_bad {W : World} {b : Nat} {s : ByteArray} {dp : Int} {o : RT} {p : Nat} {e : Ending} {W' : World} (h : o = .bad p) (he : PB W W' b s p 50 e) : NX W b s dp o e W' := by
  rw [h]; exact he

set_option maxHeartbeats 4000000 in
set_option maxRecDepth 100000 in
theorem next_any (W : World) (b : Nat) (s : ByteArray) (a : Nat) (tx : Bool) (ts : ByteArray) (tp : Nat) (dp : Int) (h : RD W b s a tx ts tp dp) (ha : a ≤ s.size) (hs : s.size ≤ 4096) :
    Calls Try.prog 46 #[.pointer (some ⟨b, 0, none⟩)] W fun e W' => NX W b s dp (tokAt s.data.toList a) e W' := by
  have hblt := h.lt
  have hF0 := Fq.refl W b
  go_enter Try.func46, Try.ntmps46
  go_wp2_with fail
  go_loopw [3] (fun _ wr => ∃ m : Nat, m ≤ s.size ∧ SK s a m false ∧ RD wr b s m tx ts tp dp ∧ Fq W wr b) (fun _ wr => mz s b wr)
  case atStart => exact ⟨a, ha, SK.start s a, h, hF0⟩
  case round =>
    obtain ⟨m, hm0, hsk, hR, hF⟩ := hrel
    have HSK := Lib.hid hsk
    have HR0 := Lib.hid hR
    clear hsk hF0
    have c0 := hR.c0
    have c1 := hR.c1
    have fz := hR.fz
    have hkm : IntKind.i64.wrap ((m : Int) + 1) = (m : Int) + 1 := IntWalk.i64_in _ (by omega)
    by_cases hm : m < s.size
    · have k2 : decide ((m : Int) < s.size) = true := by simp; omega
      obtain ⟨n, hn, hib⟩ := ib_ex (t := ⟨#[32, 10, 9, 35]⟩) tb_all s[m]
      cases hb : blank s[m]
      · rw [hb] at hn
        have hn0 : ¬ 0 ≤ n := by simpa using hn
        have k3 : ((m : Int) == s.size) = false := by rw [beq_eq_false_iff_ne]; omega
        have HT := Lib.hid (tok_here HSK.out (.inr ⟨hm, hb⟩))
        by_cases h34 : s[m] = 34
        · have j1 : ((s[m].toNat : Int) == 34) = true := by rw [h34]; rfl
          have HTS := Lib.hid (HT.out.trans (tok_str hm h34))
          clear h34 hb
          go_wp2_with fail
          go_quiet ((go_at_call 55; exact (quiet_at hib) _ _))
          replace hR := hR.drewN nq
          replace hF := hF.drew nq
          clear c0 c1 fz
          generalize wr.drewN nq = wr at *
          have c0 := hR.c0
          have c1 := hR.c1
          have fz := hR.fz
          go_wp2_with fail
          go_wp2_with fail
          go_quiet (fail)
          replace hR := hR.drewN nq
          replace hF := hF.drew nq
          clear c0 c1 fz
          generalize wr.drewN nq = wr at *
          have c0 := hR.c0
          have c1 := hR.c1
          have fz := hR.fz
          go_wp2_with fail
          go_quiet (fail)
          replace hR := hR.drewN nq
          replace hF := hF.drew nq
          clear c0 c1 fz
          generalize wr.drewN nq = wr at *
          have c0 := hR.c0
          have c1 := hR.c1
          have fz := hR.fz
          have hq := quoted_any wr b s m tx ts tp dp hR hm hs
          go_wp2_with fail
          refine hq.mono ?_
          intro e w9 hx
          cases ho : strL (s.data.toList.drop (m + 1)) with
          | none =>
            rw [ho] at hx
            obtain ⟨rfl, h1, h2⟩ := hx
            have HO := Lib.hid (HTS.out.trans (by rw [ho]))
            clear ho hq
            refine ⟨rfl, ?_⟩
            exact nx_bad HO.out ⟨rfl, h1, hF.trans h2⟩
          | some xn =>
            obtain ⟨x, n9⟩ := xn
            rw [ho] at hx
            obtain ⟨rfl, h1, h2⟩ := hx
            have HO := Lib.hid (HTS.out.trans (by rw [ho]))
            have hF9 := hF.trans h2
            obtain ⟨lt, c0, c1, c2, c3, c4, c5, fz⟩ := id h1
            clear ho hq
            go_wp2_with fail
            go_end0
            exact nx_ok HO.out rfl (h1.now true ⟨x.toArray⟩ m) (((hF9.set _ _).set _ _).set _ _)
        · have j1 : ((s[m].toNat : Int) == 34) = false := by
            rw [beq_eq_false_iff_ne]
            intro e
            exact h34 (u8_eq (n := 34) (by omega) (by decide))
          obtain ⟨n2, hn2, hib2⟩ := ib_ex (t := ⟨#[40, 41, 43, 61]⟩) ts_all s[m]
          cases hsg : sign s[m]
          · rw [hsg] at hn2
            have hn3 : ¬ 0 ≤ n2 := by simpa using hn2
            have HTS := Lib.hid (HT.out.trans (tok_word hm h34 hsg rfl))
            clear h34 hb hsg
            go_wp2_with fail
            go_quiet ((go_at_call 55; exact (quiet_at hib) _ _))
            replace hR := hR.drewN nq
            replace hF := hF.drew nq
            clear c0 c1 fz
            generalize wr.drewN nq = wr at *
            have c0 := hR.c0
            have c1 := hR.c1
            have fz := hR.fz
            go_wp2_with fail
            go_wp2_with fail
            go_quiet (fail)
            replace hR := hR.drewN nq
            replace hF := hF.drew nq
            clear c0 c1 fz
            generalize wr.drewN nq = wr at *
            have c0 := hR.c0
            have c1 := hR.c1
            have fz := hR.fz
            go_wp2_with fail
            go_quiet (fail)
            replace hR := hR.drewN nq
            replace hF := hF.drew nq
            clear c0 c1 fz
            generalize wr.drewN nq = wr at *
            have c0 := hR.c0
            have c1 := hR.c1
            have fz := hR.fz
            go_wp2_with fail
            go_quiet ((go_at_call 55; exact (quiet_at hib2) _ _))
            replace hR := hR.drewN nq
            replace hF := hF.drew nq
            clear c0 c1 fz
            generalize wr.drewN nq = wr at *
            go_wp2_with fail
            go_loopw [76] (fun _ wr3 => ∃ k : Nat, m ≤ k ∧ k ≤ s.size ∧ WN s m k ∧ RD wr3 b s k tx ts tp dp ∧ Fq W wr3 b) (fun _ wr3 => mz s b wr3)
            case atStart => exact ⟨m, Nat.le_refl _, hm0, WN.start s m, hR, hF⟩
            case round =>
              obtain ⟨k, hk1, hk2, hwn, hR, hF⟩ := hrel
              have HWN := Lib.hid hwn
              have HR3 := Lib.hid hR
              clear hwn hib hib2 hn hn0 hn2 hn3 hkm k2 k3 j1
              have c0 := hR.c0
              have c1 := hR.c1
              have fz := hR.fz
              have hkm : IntKind.i64.wrap ((k : Int) + 1) = (k : Int) + 1 := IntWalk.i64_in _ (by omega)
              by_cases hks : k < s.size
              · have k2 : decide ((k : Int) < s.size) = true := by simp; omega
                obtain ⟨n4, hn4, hib4⟩ := ib_ex (t := ⟨#[97, 98, 99, 100, 101, 102, 103, 104, 105, 106, 107, 108, 109, 110, 111, 112, 113, 114, 115, 116, 117, 118, 119, 120, 121, 122, 48, 49, 50, 51, 52, 53, 54, 55, 56, 57, 95]⟩) tl_all s[k]
                cases hlt : letter s[k]
                · rw [hlt] at hn4
                  have hn5 : ¬ 0 ≤ n4 := by simpa using hn4
                  have HX := Lib.hid (HTS.out.trans (by rw [HWN.out.stop (.inr ⟨hks, hlt⟩)]))
                  clear hlt
                  go_wp2_with fail
                  go_quiet ((go_at_call 55; exact (quiet_at hib4) _ _))
                  replace hR := hR.drewN nq
                  replace hF := hF.drew nq
                  clear c0 c1 fz
                  generalize wr.drewN nq = wr at *
                  have c0 := hR.c0
                  have c1 := hR.c1
                  have fz := hR.fz
                  by_cases hkm0 : k = m
                  · have HB := Lib.hid (tok_w0 HX.out hkm0)
                    have e1 : ((k : Int) == m) = true := by rw [beq_iff_eq]; omega
                    subst hkm0
                    go_wp2_with fail
                    refine (fail_any k 50 _).mono ?_
                    rintro e w9 ⟨rfl, rfl⟩
                    refine ⟨rfl, ?_⟩
                    exact nx_bad HB.out ⟨rfl, ⟨k, tx, ts, tp, dp, hR⟩, hF⟩
                  · have HB := Lib.hid (tok_w1 HX.out (by omega))
                    have e1 : ((k : Int) == m) = false := by rw [beq_eq_false_iff_ne]; omega
                    obtain ⟨lt, c0, c1, c2, c3, c4, c5, fz⟩ := id hR
                    have q9 : (m : Int) ≤ (k : Int) := by omega
                    have q10 : (k : Int) ≤ (s.size : Int) := by omega
                    have q11 : m ≤ k := by omega
                    go_wp2_with fail
                    go_region
                    go_wp2_with fail
                    go_end0
                    exact nx_ok HB.out rfl ((hR.now false (s.extract m k) m).drewN 1) ((((hF.set _ _).set _ _).set _ _).drew 1)
                · rw [hlt] at hn4
                  have hn5 : 0 ≤ n4 := by simpa using hn4
                  have HN := Lib.hid (HWN.out.step hks hlt)
                  clear hlt
                  go_wp2_with fail
                  go_quiet ((go_at_call 55; exact (quiet_at hib4) _ _))
                  replace hR := hR.drewN nq
                  replace hF := hF.drew nq
                  clear c0 c1 fz
                  generalize wr.drewN nq = wr at *
                  have c0 := hR.c0
                  have c1 := hR.c1
                  have fz := hR.fz
                  go_wp2_with fail
                  go_roundw
                  case rel => exact ⟨k + 1, by omega, by omega, HN.out, hR.move (k + 1) (by omega), hF.set _ _⟩
                  case measure =>
                    show mz s b _ < mz s b _
                    rw [mz_of HR3.out, mz_of (hR.move (k + 1) (z := (k : Int) + 1) (by omega))]
                    omega
              · have k2 : decide ((k : Int) < s.size) = false := by simp; omega
                have HX := Lib.hid (HTS.out.trans (by rw [HWN.out.stop (.inl (by omega))]))
                go_wp2_with fail
                go_quiet (fail)
                replace hR := hR.drewN nq
                replace hF := hF.drew nq
                clear c0 c1 fz
                generalize wr.drewN nq = wr at *
                have c0 := hR.c0
                have c1 := hR.c1
                have fz := hR.fz
                by_cases hkm0 : k = m
                · exfalso
                  omega
                · have HB := Lib.hid (tok_w1 HX.out (by omega))
                  have e1 : ((k : Int) == m) = false := by rw [beq_eq_false_iff_ne]; omega
                  obtain ⟨lt, c0, c1, c2, c3, c4, c5, fz⟩ := id hR
                  have q9 : (m : Int) ≤ (k : Int) := by omega
                  have q10 : (k : Int) ≤ (s.size : Int) := by omega
                  have q11 : m ≤ k := by omega
                  go_wp2_with fail
                  go_region
                  go_wp2_with fail
                  go_end0
                  exact nx_ok HB.out rfl ((hR.now false (s.extract m k) m).drewN 1) ((((hF.set _ _).set _ _).set _ _).drew 1)
          · rw [hsg] at hn2
            have hn3 : 0 ≤ n2 := by simpa using hn2
            have HTS := Lib.hid (HT.out.trans (tok_sign hm h34 hsg))
            clear h34 hb hsg
            go_wp2_with fail
            go_quiet ((go_at_call 55; exact (quiet_at hib) _ _))
            replace hR := hR.drewN nq
            replace hF := hF.drew nq
            clear c0 c1 fz
            generalize wr.drewN nq = wr at *
            have c0 := hR.c0
            have c1 := hR.c1
            have fz := hR.fz
            go_wp2_with fail
            go_wp2_with fail
            go_quiet (fail)
            replace hR := hR.drewN nq
            replace hF := hF.drew nq
            clear c0 c1 fz
            generalize wr.drewN nq = wr at *
            have c0 := hR.c0
            have c1 := hR.c1
            have fz := hR.fz
            go_wp2_with fail
            go_quiet (fail)
            replace hR := hR.drewN nq
            replace hF := hF.drew nq
            clear c0 c1 fz
            generalize wr.drewN nq = wr at *
            have c0 := hR.c0
            have c1 := hR.c1
            have fz := hR.fz
            go_wp2_with fail
            go_quiet ((go_at_call 55; exact (quiet_at hib2) _ _))
            replace hR := hR.drewN nq
            replace hF := hF.drew nq
            clear c0 c1 fz
            generalize wr.drewN nq = wr at *
            have c0 := hR.c0
            have c1 := hR.c1
            have fz := hR.fz
            go_wp2_with fail
            have hR9 := hR.move (m + 1) (z := (m : Int) + 1) (by omega)
            have hF9 := hF.set 1 (.int .i64 ((m : Int) + 1))
            have HTS2 := Lib.hid (show tokAt s.data.toList a = .ok ⟨2, s.extract m (m + 1), m, m + 1⟩ by rw [ext_one hm]; exact HTS.out)
            clear c0 c1 fz hR hF
            generalize wr.setCell ⟨b, 1, none⟩ (.int .i64 ((m : Int) + 1)) = wx at *
            obtain ⟨lt, c0, c1, c2, c3, c4, c5, fz⟩ := id hR9
            have q6 : ((m : Int) + 1).toNat = m + 1 := by omega
            have q7 : (0 : Int) ≤ (m : Int) + 1 := by omega
            have q8 : m + 1 ≤ s.size := by omega
            have q9 : (m : Int) ≤ (m : Int) + 1 := by omega
            have q10 : (m : Int) + 1 ≤ (s.size : Int) := by omega
            go_region
            go_wp2_with fail
            go_end0
            exact nx_ok HTS2.out rfl ((hR9.now false (s.extract m (m + 1)) m).drewN 1) ((((hF9.set _ _).set _ _).set _ _).drew 1)
      · rw [hb] at hn
        have hn0 : 0 ≤ n := by simpa using hn
        by_cases hc : s[m] = 35
        · have j1 : ((s[m].toNat : Int) == 35) = true := by rw [hc]; rfl
          have HC := Lib.hid hc
          clear hb hc
          go_wp2_with fail
          go_quiet ((go_at_call 55; exact (quiet_at hib) _ _))
          replace hR := hR.drewN nq
          replace hF := hF.drew nq
          clear c0 c1 fz
          generalize wr.drewN nq = wr at *
          have c0 := hR.c0
          have c1 := hR.c1
          have fz := hR.fz
          go_wp2_with fail
          go_quiet (fail)
          replace hR := hR.drewN nq
          replace hF := hF.drew nq
          clear c0 c1 fz
          generalize wr.drewN nq = wr at *
          have c0 := hR.c0
          have c1 := hR.c1
          have fz := hR.fz
          go_wp2_with fail
          go_loopw [36] (fun _ wr2 => ∃ (m2 : Nat) (note : Bool), m2 ≤ s.size ∧ m ≤ m2 ∧ SK s a m2 note ∧ (note = true ∨ ∃ h : m2 < s.size, s[m2] = 35) ∧ RD wr2 b s m2 tx ts tp dp ∧ Fq W wr2 b) (fun _ wr2 => mz s b wr2)
          case atStart => exact ⟨m, false, hm0, Nat.le_refl _, HSK.out, .inr ⟨hm, HC.out⟩, hR, hF⟩
          case round =>
            obtain ⟨m2, note, hm20, hmm, hsk2, hno, hR, hF⟩ := hrel
            have HSK2 := Lib.hid hsk2
            have HNO := Lib.hid hno
            have HR2 := Lib.hid hR
            clear hsk2 hno c0 c1 fz j1 k2 hib hn hn0 hkm
            have c0 := hR.c0
            have c1 := hR.c1
            have fz := hR.fz
            have hkm : IntKind.i64.wrap ((m2 : Int) + 1) = (m2 : Int) + 1 := IntWalk.i64_in _ (by omega)
            by_cases hm2 : m2 < s.size
            · have k2 : decide ((m2 : Int) < s.size) = true := by simp; omega
              by_cases hc2 : s[m2] = 10
              · have j2 : ((s[m2].toNat : Int) == 10) = true := by rw [hc2]; rfl
                have j3 : ((s[m2].toNat : Int) != 10) = false := by rw [bne, j2]; rfl
                have HN := Lib.hid (show SK s a m2 false from by
                  rcases HNO.out with rfl | ⟨_, h⟩
                  · exact HSK2.out.nl (.inr ⟨hm2, hc2⟩)
                  · rw [hc2] at h; exact absurd h (by decide))
                have hlt : m < m2 := by
                  rcases Nat.lt_or_ge m m2 with h | h
                  · exact h
                  · exfalso
                    obtain rfl : m = m2 := by omega
                    have h2 := HC.out
                    rw [hc2] at h2
                    exact absurd h2 (by decide)
                clear hc2
                go_wp2_with fail
                go_quiet (fail)
                replace hR := hR.drewN nq
                replace hF := hF.drew nq
                clear c0 c1 fz
                generalize wr.drewN nq = wr at *
                have c0 := hR.c0
                have c1 := hR.c1
                have fz := hR.fz
                go_wp2_with fail
                go_roundw
                case rel => exact ⟨m2, by omega, HN.out, hR, hF⟩
                case measure =>
                  show mz s b _ < mz s b _
                  rw [mz_of HR0.out, mz_of hR]
                  omega
              · have j2 : ((s[m2].toNat : Int) == 10) = false := by
                  rw [beq_eq_false_iff_ne]
                  intro e
                  exact hc2 (u8_eq (n := 10) (by omega) (by decide))
                have j3 : ((s[m2].toNat : Int) != 10) = true := by rw [bne, j2]; rfl
                have HN := Lib.hid (show SK s a (m2 + 1) true from by
                  rcases HNO.out with rfl | ⟨_, h⟩
                  · have h := HSK2.out.step hm2 rfl
                    have e : (s[m2] == 35 || (true && s[m2] != 10)) = true := by
                      rw [show (s[m2] != 10) = true from bne_iff_ne.2 hc2]
                      simp
                    rw [e] at h
                    exact h
                  · have h := HSK2.out.step hm2 (by rw [h]; simp [blank])
                    rw [show (s[m2] == 35) = true by rw [beq_iff_eq]; assumption] at h
                    exact h)
                clear hc2
                go_wp2_with fail
                go_quiet (fail)
                replace hR := hR.drewN nq
                replace hF := hF.drew nq
                clear c0 c1 fz
                generalize wr.drewN nq = wr at *
                have c0 := hR.c0
                have c1 := hR.c1
                have fz := hR.fz
                go_wp2_with fail
                go_roundw
                case rel => exact ⟨m2 + 1, true, by omega, by omega, HN.out, .inl rfl, hR.move (m2 + 1) (by omega), hF.set _ _⟩
                case measure =>
                  show mz s b _ < mz s b _
                  rw [mz_of HR2.out, mz_of (hR.move (m2 + 1) (z := (m2 : Int) + 1) (by omega))]
                  omega
            · have k2 : decide ((m2 : Int) < s.size) = false := by simp; omega
              have HN := Lib.hid (show SK s a m2 false from by
                rcases HNO.out with rfl | ⟨h, _⟩
                · exact HSK2.out.nl (.inl (by omega))
                · exact absurd h hm2)
              go_wp2_with fail
              go_quiet (fail)
              replace hR := hR.drewN nq
              replace hF := hF.drew nq
              clear c0 c1 fz
              generalize wr.drewN nq = wr at *
              have c0 := hR.c0
              have c1 := hR.c1
              have fz := hR.fz
              go_wp2_with fail
              go_roundw
              case rel => exact ⟨m2, by omega, HN.out, hR, hF⟩
              case measure =>
                show mz s b _ < mz s b _
                rw [mz_of HR0.out, mz_of hR]
                omega
        · have j1 : ((s[m].toNat : Int) == 35) = false := by
            rw [beq_eq_false_iff_ne]
            intro e
            exact hc (u8_eq (n := 35) (by omega) (by decide))
          have HN := Lib.hid (HSK.out.step hm (by rw [hb]; rfl))
          have hz : (s[m] == 35 || (false && s[m] != 10)) = false := by rw [beq_eq_false_iff_ne.2 hc]; rfl
          rw [hz] at HN
          clear hb hc hz
          go_wp2_with fail
          go_quiet ((go_at_call 55; exact (quiet_at hib) _ _))
          replace hR := hR.drewN nq
          replace hF := hF.drew nq
          clear c0 c1 fz
          generalize wr.drewN nq = wr at *
          have c0 := hR.c0
          have c1 := hR.c1
          have fz := hR.fz
          go_wp2_with fail
          go_quiet (fail)
          replace hR := hR.drewN nq
          replace hF := hF.drew nq
          clear c0 c1 fz
          generalize wr.drewN nq = wr at *
          have c0 := hR.c0
          have c1 := hR.c1
          have fz := hR.fz
          go_wp2_with fail
          go_roundw
          case rel => exact ⟨m + 1, by omega, HN.out, hR.move (m + 1) (by omega), hF.set _ _⟩
          case measure =>
            show mz s b _ < mz s b _
            rw [mz_of HR0.out, mz_of (hR.move (m + 1) (z := (m : Int) + 1) (by omega))]
            omega
    · have k2 : decide ((m : Int) < s.size) = false := by simp; omega
      have k3 : ((m : Int) == s.size) = true := by rw [beq_iff_eq]; omega
      have HT := Lib.hid ((tok_here HSK.out (.inl (by omega))).trans (tok_end (by omega)))
      go_wp2_with fail
      go_quiet (fail)
      replace hR := hR.drewN nq
      replace hF := hF.drew nq
      clear c0 c1 fz
      generalize wr.drewN nq = wr at *
      have c0 := hR.c0
      have c1 := hR.c1
      have fz := hR.fz
      go_wp2_with fail
      go_quiet (fail)
      have hR7 := hR.drewN nq
      have hF7 := hF.drew nq
      clear c0 c1 fz hR hF
      generalize wr.drewN nq = wr at *
      obtain ⟨lt, c0, c1, c2, c3, c4, c5, fz⟩ := id hR7
      go_wp2_with fail
      go_end0
      exact nx_ok HT.out rfl (hR7.now false ⟨#[]⟩ m) (((hF7.set _ _).set _ _).set _ _)
end Rc
end Go.Proofs.Ytcigggffaofkhaa
