/-
  Walk: code.Decode, for every text.
-/
import Derived.Test.YtjfchdgdgbdeeaaDoorCodeRM
namespace Go.Proofs.YtjfchdgdgbdeeaaDoor
open Go.RowKit
namespace Cd

theorem own_two {wr w2 : World} {B k : Nat} {v : Value} {xs : List Value} (h : wr.ownsRow B 31 3 v k xs) (hb : Below wr.heap.size wr w2) (o o' : Obj) : ((w2.alloc o).alloc o').ownsRow B 31 3 v k xs :=
  ((own_block h (fun g hg => hb.block g (h.lt g hg).2)).alloc o).alloc o'

set_option maxHeartbeats 8000000 in
set_option maxRecDepth 100000 in
theorem cdecode_any (s : ByteArray) (W : World) (hE : Env2 W) :
    Calls Tryd.prog 20 #[.string s] W fun e W' => DC W s.data.toList e W' := by
  have hcall := decode_any s W hE.env
  cases hO : parse s.data.toList with
  | bad f =>
    rw [hO] at hcall
    have hD := Lib.hid (dec_bad hO)
    clear hO
    go_enter Tryd.func20, Tryd.ntmps20
    go_wp2_with fail
    refine hcall.mono ?_
    rintro e w1 ⟨⟨β, σ, sl, n, cap, f', rfl, rfl, hf0⟩, hb1⟩
    have j0 : (f' == 0) = false := by rw [beq_eq_false_iff_ne]; exact hf0
    have j1 : (f' != 0) = true := by rw [bne_iff_ne]; exact hf0
    have hB := hb1.alloc hb1.size (.cells #[.bool β, .string σ, .slice sl n cap] 46)
    clear hf0
    go_wp2_with fail
    go_ret2
    exact dc_nil hD.out rfl hB
  | ok t n0 =>
    rw [hO] at hcall
    obtain ⟨henc, hlen⟩ := parse_enc hO
    have hkl : kidsLe t := by unfold kidsLe; rw [henc]; exact hlen
    obtain ⟨hk1, hk2⟩ := kids_le hkl
    have HOK := Lib.hid hO
    clear hO henc hlen hkl
    obtain ⟨i0, hi0, hz0, hz1, hz2⟩ := info_parts info_ins
    go_enter Tryd.func20, Tryd.ntmps20
    go_wp2_with fail
    refine hcall.mono ?_
    rintro e w1 ⟨⟨β, σ, sl, n, cap, f', rfl, rfl, hrep⟩, hb1⟩
    obtain ⟨rfl, rfl, h', x, y, z, hc, hr⟩ := (hrep.rep (B := w1.heap.size) (fun b hb => hb.2)).kids
    have HC := Lib.hid hc
    have HR := Lib.hid hr
    have HK2 := Lib.hid hk2
    have hA1 : Below w1.heap.size w1 (w1.alloc (.cells #[.bool (!isL t), .string σ, .slice sl (kids t).length cap] 46)) := (Below.refl _ _).alloc (Nat.le_refl _) _
    have hL0 : ∀ b, b = isL t → DL W w1 (w1.alloc (.cells #[.bool (!isL t), .string σ, .slice sl (kids t).length cap] 46)) t (.slice none 0 0) b [] 0 := fun b hb =>
      ⟨rfl, World.ownsRow_nil _ _ _ _, by simp, fun h => ⟨by rw [← hb]; exact h, by omega⟩, (fun h p hp => by
        have := hp.tree
        rw [← this] at hb
        rw [h] at hb
        cases hb), hA1⟩
    clear hcall hrep hc hr hk2 hA1
    obtain ⟨b0, hb0⟩ : ∃ b0, b0 = isL t := ⟨_, rfl⟩
    have hL1 := hL0 b0 hb0
    have HL1 := Lib.hid hL1
    have HB0 := Lib.hid hb0
    rw [← hb0]
    clear hL0 hL1 hb0
    go_wp2_with fail
    go_loopw [6, 7, 28] (fun kv ok i wr => ∃ (v : Value) (b : Bool) (ps : List I) (k : Nat), v = kv ∧ ok = .bool b ∧ i = .int .i64 k ∧ k ≤ (kids t).length ∧ DL W w1 wr t v b ps k) (fun _ _ i _ => (kids t).length - (intOf i).toNat)
    case atStart => exact ⟨_, b0, [], 0, rfl, rfl, rfl, Nat.zero_le _, by
      have h := HL1.out
      rw [← HB0.out] at h
      exact h⟩
    case round =>
      obtain ⟨v, b, ps, k, rfl, rfl, rfl, hk, L⟩ := hrel
      have HL := Lib.hid L
      have hlw : w1.heap.size ≤ wr.heap.size := L.old.size
      have hEr : Env2 wr := hE.below (hb1.trans (L.old.mono hb1.size))
      clear L
      by_cases hlt : k < (kids t).length
      · obtain ⟨u, hu⟩ : ∃ u, (kids t)[k]? = some u := ⟨(kids t)[k], List.getElem?_eq_getElem hlt⟩
        obtain ⟨bb, o, rfl, hbl, h1, h2, h3⟩ := HC.out k u hu
        have hrk := HR.out k u hu
        obtain ⟨e1, e2, sl', cap', e3⟩ := hrk.vals
        rw [e1] at h1
        rw [e2] at h2
        rw [e3] at h3
        rw [e1, e2, e3] at hrk
        have g1 := ((bcell HL.out.old).1 bb _ hbl).trans h1
        have g2 := ((bcell HL.out.old).1 bb _ hbl).trans h2
        have g3 := ((bcell HL.out.old).1 bb _ hbl).trans h3
        have hA : Below wr.heap.size wr (wr.alloc (.cells #[.bool (!isL u), .string (txt u), .slice sl' (kids u).length cap'] 46)) := (Below.refl _ _).alloc (Nat.le_refl _) _
        have hins := ins_any w1.heap.size h' u _ (wr.alloc (.cells #[.bool (!isL u), .string (txt u), .slice sl' (kids u).length cap'] 46)) (Nat.le_trans hlw hA.size) (hrk.same (fun b' o' hb' => (hA.cell (p := ⟨b', o', none⟩) (by show b' < _; omega)).trans (HL.out.old.cell (p := ⟨b', o', none⟩) hb'))) (HK2.out k u hu) (hEr.below hA)
        have HU := Lib.hid hu
        clear h1 h2 h3 e1 e2 e3 hrk hu
        cases b with
        | true =>
          go_wp2_with fail
          refine hins.mono ?_
          rintro e w2 ⟨⟨X, b', rfl, nb, hy, hno⟩, hb2⟩
          have hbw : Below wr.heap.size wr w2 := hA.trans (hb2.mono hA.size)
          have hl2 : w1.heap.size ≤ w2.heap.size := Nat.le_trans hlw hbw.size
          go_wp2_with (first
            | (at_builtin; refine wpList_append_own _ rfl _ _ 22 rfl w1.heap.size 31 i0 _ 3 32 Tryd.underlying22 hi0 hz0 hz1 hz2 rfl (by decide) v k (rowI ps) rfl (own_two HL.out.own hbw _ _) ⟨w2.heap.size + 1, 0, none⟩ 1 1 [.int .i64 X.op, .int .i64 X.n, .string X.s] rfl rfl (lit3' _ _ _ _ _ _) (one3 ⟨rfl, rfl, rfl⟩) ?c3 ?c4 ?c5 ?_))
          case c3 => unfold maxLen; omega
          case c4 => omega
          case c5 => simp; omega
          intro v' w3 hown3 hgr3 _
          have hAA : Below w2.heap.size w2 ((w2.alloc (.cells #[.int .i64 X.op, .int .i64 X.n, .string X.s] 31)).alloc (.cells #[.int .i64 X.op, .int .i64 X.n, .string X.s] 31)) := ((Below.refl _ _).alloc (Nat.le_refl _) _).alloc (by simp) _
          have HLN := Lib.hid (HL.out.snoc HU.out nb hy hno (hbw.trans (hAA.mono hbw.size)) hgr3 hown3)
          clear hown3 hgr3 hAA hb2 hbw hins nb hy hno hA
          go_wp2_with fail
          go_roundw
          case rel => exact ⟨v', _, _, k + 1, rfl, rfl, by go_num, by omega, HLN.out⟩
          case measure => simp [intOf]; omega
        | false =>
          go_wp2_with fail
          refine hins.mono ?_
          rintro e w2 ⟨⟨X, b', rfl, nb, hy, hno⟩, hb2⟩
          have hbw : Below wr.heap.size wr w2 := hA.trans (hb2.mono hA.size)
          have hl2 : w1.heap.size ≤ w2.heap.size := Nat.le_trans hlw hbw.size
          go_wp2_with (first
            | (at_builtin; refine wpList_append_own _ rfl _ _ 22 rfl w1.heap.size 31 i0 _ 3 32 Tryd.underlying22 hi0 hz0 hz1 hz2 rfl (by decide) v k (rowI ps) rfl (own_two HL.out.own hbw _ _) ⟨w2.heap.size + 1, 0, none⟩ 1 1 [.int .i64 X.op, .int .i64 X.n, .string X.s] rfl rfl (lit3' _ _ _ _ _ _) (one3 ⟨rfl, rfl, rfl⟩) ?c3 ?c4 ?c5 ?_))
          case c3 => unfold maxLen; omega
          case c4 => omega
          case c5 => simp; omega
          intro v' w3 hown3 hgr3 _
          have hAA : Below w2.heap.size w2 ((w2.alloc (.cells #[.int .i64 X.op, .int .i64 X.n, .string X.s] 31)).alloc (.cells #[.int .i64 X.op, .int .i64 X.n, .string X.s] 31)) := ((Below.refl _ _).alloc (Nat.le_refl _) _).alloc (by simp) _
          have HLN := Lib.hid (HL.out.snoc HU.out nb hy hno (hbw.trans (hAA.mono hbw.size)) hgr3 hown3)
          clear hown3 hgr3 hAA hb2 hbw hins nb hy hno hA
          go_wp2_with fail
          go_roundw
          case rel => exact ⟨v', _, _, k + 1, rfl, rfl, by go_num, by omega, HLN.out⟩
          case measure => simp [intOf]; omega
      · obtain rfl : k = (kids t).length := by omega
        have hlenp := HL.out.len
        have hown := HL.out.own
        rw [← hlenp] at hown
        obtain ⟨sl2, cap2, rfl⟩ := own_form hown
        have hPS := PS.of_own hown (by omega) HL.out.nb
        have hck := check_any ps _ wr hPS hEr.env.tab
        unfold CKV at hck
        have HB : ∀ w2, Below wr.heap.size wr w2 → Below W.heap.size W w2 := fun w2 h => (hb1.trans (HL.out.old.mono hb1.size)).trans (h.mono (hb1.trans (HL.out.old.mono hb1.size)).size)
        have HBB := Lib.hid HB
        have HOW := Lib.hid hown
        have HLP := Lib.hid hlenp
        clear HB hPS hown hlenp
        cases b with
        | false =>
          have hD := Lib.hid (dec_no HOK.out (HL.out.no rfl))
          go_wp2_with fail
          refine hck.mono ?_
          rintro e w5 ⟨rfl, hb5⟩
          clear hck
          go_wp2_with fail
          go_ret2
          exact dc_nil hD.out rfl (HBB.out _ hb5)
        | true =>
          obtain ⟨hy1, hy2⟩ := HL.out.yes rfl
          by_cases hc0 : (check ps).2 = 0
          · have hIs := isP_of hy1 HLP.out (fun j u x hu hx => hy2 j u x (by have := (List.getElem?_eq_some_iff.1 hu).1; omega) hu hx) hc0
            have hD := Lib.hid (dec_ok HOK.out hIs)
            have HC0 := Lib.hid (check_len hc0).2
            rw [hc0] at hck
            clear hy1 hy2 hIs hc0
            go_wp2_with fail
            refine hck.mono ?_
            rintro e w5 ⟨rfl, hb5⟩
            clear hck
            go_wp2_with fail
            go_ret2
            unfold DC
            rw [hD.out]
            exact ⟨⟨sl2, cap2, rfl, own_mono hb1.size (own_block HOW.out (fun g hg => hb5.block g (HOW.out.lt g hg).2)), HC0.out, HL.out.nb⟩, HBB.out _ hb5⟩
          · have hD := Lib.hid (dec_no HOK.out (fun p hp => hc0 (by
              rw [hp.read HLP.out (fun j u x hu hx => hy2 j u x (by have := (List.getElem?_eq_some_iff.1 hu).1; omega) hu hx)]
              exact hp.chk)))
            have j1 : ((check ps).2 == 0) = false := by rw [beq_eq_false_iff_ne]; exact hc0
            have j2 : ((check ps).2 != 0) = true := by rw [bne_iff_ne]; exact hc0
            clear hy1 hy2 hc0
            go_wp2_with fail
            refine hck.mono ?_
            rintro e w5 ⟨rfl, hb5⟩
            clear hck
            go_wp2_with fail
            go_ret2
            exact dc_nil hD.out rfl (HBB.out _ hb5)
end Cd
end Go.Proofs.YtjfchdgdgbdeeaaDoor
