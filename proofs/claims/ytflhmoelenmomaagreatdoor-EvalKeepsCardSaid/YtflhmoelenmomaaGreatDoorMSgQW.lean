/-
  Walk: the reference's Parse.
-/
import Derived.Test.YtflhmoelenmomaaGreatDoorMSgQP
import Derived.Test.YtflhmoelenmomaaGreatDoorMSgLK
namespace Go.Proofs.YtflhmoelenmomaaGreatDoor
open Go.RowKit Go.Shelf Go.Lib
namespace Sg

def setG : Option (List G) → Except Int (List G)
  | none => .error 21
  | some r => .ok r
set_option maxHeartbeats 8000000 in
set_option maxRecDepth 100000 in
theorem qparse_any (s : ByteArray) (W : World) (hs : s.size ≤ 1048576) :
    Calls Tryz.prog 58 #[.string s] W fun e W' => PQ W.heap.size (setF s.data.toList) e W' ∧ Below W.heap.size W W' := by
  by_cases hl : 256 < s.size
  · have hQ : setF s.data.toList = .error 3 := by
      unfold setF
      rw [if_pos (by rw [← Lib.size_eq]; exact hl)]
    rw [hQ]
    have i1 : (256 : Int) < s.size := by omega
    clear hl hQ
    go_enter Tryz.func58, Tryz.ntmps58
    go_wp2_with fail
    go_ret2
    exact ⟨rfl, Below.refl _ _⟩
  have i1 : ¬ (256 : Int) < s.size := by omega
  by_cases hn : s.data.toList = noneL
  · have hQ : setF s.data.toList = .ok [] := by
      unfold setF
      rw [if_neg (by rw [← Lib.size_eq]; exact hl), if_pos hn]
    rw [hQ]
    have j1 := str_tt hn
    clear hn hQ hl
    go_enter Tryz.func58, Tryz.ntmps58
    go_wp2_with fail
    go_ret2
    exact ⟨⟨[], Nm.nil, fun _ => Iff.rfl, fun g hg => (by cases hg), .inr ⟨by simp, _, rfl, go_nil _ _⟩⟩, Below.refl _ _⟩
  have hQ : setF s.data.toList = setG (allF s.data.toList) := by
      unfold setF
      rw [if_neg (by rw [← Lib.size_eq]; exact hl), if_neg hn]
      rfl
  have j1 := str_ff hn
  have hs2 : s.size ≤ 256 := by omega
  have hst := qterms_any s W hs2
  have HQ := Lib.hid hQ
  clear hn hQ hl
  go_enter Tryz.func58, Tryz.ntmps58
  go_wp2_with (go_at_call 79; refine hst.mono ?_; rintro e W1 ⟨vt, ts, rfl, hts, hO1, hB1⟩; obtain ⟨st, ct, rfl⟩ := hO1.isl; have HO1 := Lib.hid hO1; have HTS := Lib.hid hts; clear hst hO1 hts)
  have hln : ts.length ≤ 300 := by
    have h1 := cuts_len bar s.data.toList
    rw [← HTS.out, List.length_map, ← Lib.size_eq] at h1
    omega
  go_loopw [4, 24] (fun u i wr => ∃ (k : Nat) (gs : List G), k ≤ ts.length ∧ i = .int .i64 (k : Int) ∧ termsF ((cuts bar s.data.toList).take k) [] = some gs ∧ GO wr W1.heap.size u (gs.filter ne1) ∧ Below W1.heap.size W1 wr) (fun _ i _ => ts.length - (RowKit.intOf i).toNat)
  case atStart => exact ⟨0, [], Nat.zero_le _, rfl, rfl, go_nil _ _, Below.refl _ _⟩
  case round =>
    obtain ⟨k, gs, hk, rfl, hg, hO, hb⟩ := hrel
    obtain ⟨wx, hwx⟩ : ∃ w, w = wr := ⟨_, rfl⟩
    subst hwx
    obtain ⟨su, cu, rfl⟩ := hO.isl
    have HG := Lib.hid hg
    have HO := Lib.hid hO
    have hgl : gs.length ≤ 300 := by
      have h1 := (terms_in _ [] (fun g hg => by cases hg) _ hg).2
      rw [List.length_take] at h1
      simp at h1
      omega
    have hfl : (gs.filter ne1).length ≤ 300 := Nat.le_trans (List.length_filter_le _ _) hgl
    clear hg hO
    by_cases hlt : k < ts.length
    · obtain ⟨t, ht⟩ : ∃ t, ts[k]? = some t := ⟨ts[k], List.getElem?_eq_getElem hlt⟩
      have hT : (cuts bar s.data.toList)[k]? = some t.data.toList := by rw [← HTS.out, List.getElem?_map, ht]; rfl
      have htz : t.size ≤ 256 := by
        have h1 := cuts_mem (List.mem_of_getElem? hT)
        rw [← Lib.size_eq, ← Lib.size_eq] at h1
        omega
      obtain ⟨g0, rfl, hg0, -, -, hcc⟩ := HO1.out.at (by intro e; rw [e] at hlt; simp at hlt)
      have c9 := (hb.cell (p := ⟨g0, 0 + k, none⟩) hg0).trans (hcc k t ht)
      rw [Nat.zero_add] at c9
      have hpc := pieces_so t (wx.alloc (.cells #[.int .i64 0, .int .i64 1000000000] 55)) (by omega)
      have hK0 := heap_alloc_new wx (.cells #[.int .i64 0, .int .i64 1000000000] 55)
      have HK0 := Lib.hid hK0
      have HT := Lib.hid hT
      have hsz : (wx.alloc (.cells #[.int .i64 0, .int .i64 1000000000] 55)).heap.size = wx.heap.size + 1 := by simp
      clear hcc hK0 hT ht
      go_wp2_with (go_at_call 55; refine hpc.mono ?_; rintro e W2 ⟨v2, ws, rfl, hws, hO2, hB2⟩; obtain ⟨s2, k2, rfl⟩ := hO2.isl; have HWS := Lib.hid hws; have HZ := Lib.hid (show WZ wx.heap.size wx (.slice s2 ws.length k2) ws top W2 from ⟨two_below hB2 HK0.out, by rw [← hsz]; exact hO2, ((Below.refl _ _).alloc (Nat.le_refl _) _).trans (hB2.mono (by omega))⟩); have hz2 := hB2.size; rw [hsz] at hz2; clear hws hO2 hB2 hpc)
      have hBx : Below W.heap.size W wx := hB1.trans (hb.mono hB1.size)
      go_loopw [32] (fun i wz => ∃ (m : Nat) (g : G), m ≤ ws.length ∧ i = .int .i64 (m : Int) ∧ wordsF ((cuts [32] t.data.toList).take m) top = some g ∧ WZ wx.heap.size wx (.slice s2 ws.length k2) ws g wz ∧ wx.heap.size < wz.heap.size) (fun i _ => ws.length - (RowKit.intOf i).toNat)
      case atStart => exact ⟨0, top, Nat.zero_le _, rfl, rfl, HZ.out, hz2⟩
      case round =>
        obtain ⟨m, g, hm, rfl, hw, hZ, hzs⟩ := hrel
        have hwl : ws.length ≤ 300 := by
          have h1 := cuts_len [32] t.data.toList
          rw [← HWS.out, List.length_map, ← Lib.size_eq] at h1
          omega
        by_cases hlt2 : m < ws.length
        · obtain ⟨x, hx⟩ : ∃ x, ws[m]? = some x := ⟨ws[m], List.getElem?_eq_getElem hlt2⟩
          have hX : (cuts [32] t.data.toList)[m]? = some x.data.toList := by rw [← HWS.out, List.getElem?_map, hx]; rfl
          have hxz : x.size ≤ 256 := by
            have h1 := cuts_mem (List.mem_of_getElem? hX)
            rw [← Lib.size_eq, ← Lib.size_eq] at h1
            omega
          obtain ⟨g2, rfl, hg2, -, -, hcc⟩ := hZ.2.1.at (by intro e; rw [e] at hlt2; simp at hlt2)
          have c8 := hcc m x hx
          rw [Nat.zero_add] at c8
          have hBz : Below W.heap.size W wr := hBx.trans (hZ.2.2.mono hBx.size)
          have HZ1 := Lib.hid hZ
          cases hbl : boundL x.data.toList with
          | none =>
            have hq := qbound_none x wr (by omega) hbl
            have HR := Lib.hid (show setF s.data.toList = .error 21 by
              rw [HQ.out]
              show setG (termsF (cuts bar s.data.toList) []) = _
              rw [terms_none HT.out HG.out (words_none hX hw hbl)]
              rfl)
            clear hcc hx hX hw hZ hbl HZ1
            go_wp2_with (go_at_call 80; refine hq.mono ?_; rintro e W3 ⟨gg, rfl, hB3⟩; have hB4 := hBz.trans (hB3.mono hBz.size); have hB5 := hB4.alloc hB4.size (.cells #[.int .i64 gg.1, .int .i64 gg.2] 55))
            go_ret2
            rw [HR.out]
            exact ⟨rfl, hB5⟩
          | some h =>
            have hq := qbound_some x wr (by omega) hbl
            have HW := Lib.hid (words_succ hX hw hbl)
            clear hcc hx hX hw hZ hbl
            obtain ⟨g1, g3⟩ := g
            obtain ⟨h1, h3⟩ := h
            by_cases e1 : g1 < h1
            · by_cases e2 : h3 < g3
              · have HV := Lib.hid (show meet (g1, g3) (h1, h3) = (h1, h3) by unfold meet; dsimp only; rw [show max g1 h1 = h1 by omega, show min g3 h3 = h3 by omega])
                go_wp2_with (go_at_call 80; refine hq.mono ?_; rintro e W3 ⟨rfl, hB3⟩; have hZ3 := (HZ1.out.next hzs hB3).next (Nat.lt_of_lt_of_le hzs hB3.size) (own_alloc W3 (.cells #[.int .i64 h1, .int .i64 h3] 55)); obtain ⟨c0, c1, f0, f1⟩ := obj_two hZ3.1; have HZ3 := Lib.hid hZ3; have hz3 := hB3.size; have hne : ¬ wx.heap.size = W3.heap.size := (by omega); clear hq hZ3 hB3 HZ1)
                refine ⟨⟨m + 1, (h1, h3), hlt2, by push_cast; rfl, by rw [← HV.out]; exact HW.out, ((HZ3.out.set0 h1).set1 h3), by simp [World.setCell]; omega⟩, ?_⟩
                simp only [RowKit.intOf]
                omega
              · have HV := Lib.hid (show meet (g1, g3) (h1, h3) = (h1, g3) by unfold meet; dsimp only; rw [show max g1 h1 = h1 by omega, show min g3 h3 = g3 by omega])
                go_wp2_with (go_at_call 80; refine hq.mono ?_; rintro e W3 ⟨rfl, hB3⟩; have hZ3 := (HZ1.out.next hzs hB3).next (Nat.lt_of_lt_of_le hzs hB3.size) (own_alloc W3 (.cells #[.int .i64 h1, .int .i64 h3] 55)); obtain ⟨c0, c1, f0, f1⟩ := obj_two hZ3.1; have HZ3 := Lib.hid hZ3; have hz3 := hB3.size; have hne : ¬ wx.heap.size = W3.heap.size := (by omega); clear hq hZ3 hB3 HZ1)
                refine ⟨⟨m + 1, (h1, g3), hlt2, by push_cast; rfl, by rw [← HV.out]; exact HW.out, (HZ3.out.set0 h1), by simp [World.setCell]; omega⟩, ?_⟩
                simp only [RowKit.intOf]
                omega
            · by_cases e2 : h3 < g3
              · have HV := Lib.hid (show meet (g1, g3) (h1, h3) = (g1, h3) by unfold meet; dsimp only; rw [show max g1 h1 = g1 by omega, show min g3 h3 = h3 by omega])
                go_wp2_with (go_at_call 80; refine hq.mono ?_; rintro e W3 ⟨rfl, hB3⟩; have hZ3 := (HZ1.out.next hzs hB3).next (Nat.lt_of_lt_of_le hzs hB3.size) (own_alloc W3 (.cells #[.int .i64 h1, .int .i64 h3] 55)); obtain ⟨c0, c1, f0, f1⟩ := obj_two hZ3.1; have HZ3 := Lib.hid hZ3; have hz3 := hB3.size; have hne : ¬ wx.heap.size = W3.heap.size := (by omega); clear hq hZ3 hB3 HZ1)
                refine ⟨⟨m + 1, (g1, h3), hlt2, by push_cast; rfl, by rw [← HV.out]; exact HW.out, (HZ3.out.set1 h3), by simp [World.setCell]; omega⟩, ?_⟩
                simp only [RowKit.intOf]
                omega
              · have HV := Lib.hid (show meet (g1, g3) (h1, h3) = (g1, g3) by unfold meet; dsimp only; rw [show max g1 h1 = g1 by omega, show min g3 h3 = g3 by omega])
                go_wp2_with (go_at_call 80; refine hq.mono ?_; rintro e W3 ⟨rfl, hB3⟩; have hZ3 := (HZ1.out.next hzs hB3).next (Nat.lt_of_lt_of_le hzs hB3.size) (own_alloc W3 (.cells #[.int .i64 h1, .int .i64 h3] 55)); obtain ⟨c0, c1, f0, f1⟩ := obj_two hZ3.1; have HZ3 := Lib.hid hZ3; have hz3 := hB3.size; have hne : ¬ wx.heap.size = W3.heap.size := (by omega); clear hq hZ3 hB3 HZ1)
                refine ⟨⟨m + 1, (g1, g3), hlt2, by push_cast; rfl, by rw [← HV.out]; exact HW.out, HZ3.out, by simp; omega⟩, ?_⟩
                simp only [RowKit.intOf]
                omega
        · have hT2 : termF t.data.toList = some g := by
            have h1 : (cuts [32] t.data.toList).length = m := by rw [← HWS.out, List.length_map]; omega
            rw [← h1, List.take_length] at hw
            exact hw
          have HTT := Lib.hid (terms_succ HT.out HG.out hT2)
          have HOz := Lib.hid (HO.out.below hZ.2.2)
          have hbz : Below W1.heap.size W1 wr := hb.trans (hZ.2.2.mono hb.size)
          obtain ⟨g1, g3⟩ := g
          obtain ⟨c0, c1, f0, f1⟩ := obj_two hZ.1
          clear hw hT2 hZ HZ HT HWS
          by_cases e1 : g1 < g3
          · have HF := Lib.hid (show (gs ++ [(g1, g3)]).filter ne1 = gs.filter ne1 ++ [(g1, g3)] by rw [ne_snoc, if_pos e1])
            go_wp2_with (at_builtin; refine GO.push (l := gs.filter ne1) (B := W1.heap.size) ?hh (g1, g3) (by omega) ?hk rfl _ _ rfl rfl rfl ?he ?_; (case hh => exact HOz.out); (case hk => exact hbz.size); (case he => first | rfl | simp); intro v9 w9 hO9 hB9; have HO9 := Lib.hid hO9; have HB9 := Lib.hid (hB9 _ hbz); clear hO9 hB9)
            refine ⟨⟨k + 1, gs ++ [(g1, g3)], hlt, by push_cast; rfl, HTT.out, by rw [HF.out]; exact HO9.out, HB9.out⟩, ?_⟩
            simp only [RowKit.intOf]
            omega
          · have HF := Lib.hid (show (gs ++ [(g1, g3)]).filter ne1 = gs.filter ne1 by rw [ne_snoc, if_neg e1])
            go_wp2_with fail
            refine ⟨⟨k + 1, gs ++ [(g1, g3)], hlt, by push_cast; rfl, HTT.out, by rw [HF.out]; exact HOz.out, hbz⟩, ?_⟩
            simp only [RowKit.intOf]
            omega
    · have hall : allF s.data.toList = some gs := by
        have h1 : (cuts bar s.data.toList).length = k := by rw [← HTS.out, List.length_map]; omega
        have h2 := HG.out
        rw [← h1, List.take_length] at h2
        exact h2
      have HS := Lib.hid (show setF s.data.toList = .ok gs by rw [HQ.out, hall]; rfl)
      have hbd : ∀ g ∈ gs, Bd g := fun g hg => in9_bd ((terms_in _ [] (fun g hg => by cases hg) _ hall).1 g hg)
      have hbx : Below W.heap.size W wx := hB1.trans (hb.mono hB1.size)
      have HBD := Lib.hid hbd
      have HA := Lib.hid (HO.out.gs fun g hg => (hbd g (List.mem_filter.1 hg).1).n64)
      have HSR := Lib.hid (set_r gs hbd)
      clear hall hbd HO HG HQ
      generalize gs.filter ne1 = out at *
      have hen := ends_any out _ wx HA.out (by omega)
      have hlE : (endsF out).length ≤ 100000 := by
        have := endK_len out out.length
        rw [endK_all] at this
        omega
      go_wp2_with (go_at_call 81; refine hen.mono ?_; rintro e W7 ⟨v7, rfl, hO7, hB7⟩; have hB8 := hbx.trans (hB7.mono hbx.size); obtain ⟨s7, k7, rfl⟩ := hO7.isl; have HO7 := Lib.hid (hO7.le hbx.size); have HA7 := Lib.hid (HA.out.below hB7); clear hen hO7)
      obtain ⟨i0, hi0, hz⟩ := Option.map_eq_some_iff.1 info_bool
      obtain ⟨z1, z2⟩ := Prod.mk.inj hz
      obtain ⟨z2, z3⟩ := Prod.mk.inj z2
      obtain ⟨l, hl⟩ : ∃ l, l = endsF out := ⟨_, rfl⟩
      rw [← hl] at hlE HO7 ⊢
      have HL := Lib.hid hl
      clear hl
      obtain ⟨w9, hrun, hM9, hg9⟩ := run_make_full (P := Tryz.prog) W7 W7.heap.size 135 4 i0 (.bool false) 1 Tryz.underlying135 hi0 z1 z2 .i64 .i64 l.length (by rw [z3]; omega) (by unfold maxLen; omega) (Nat.le_refl _)
      have hB9 : Below W7.heap.size W7 w9 := ⟨hg9.os, hg9.tape, hg9.output, hg9.size, fun k hk => hg9.block k hk (by simp)⟩
      have hF9 : BO w9 W7.heap.size (.slice (some ⟨W7.heap.size, 0, none⟩) l.length l.length) (flK (fun n => inB out n) l 0) := by
        have e : flK (fun n => inB out n) l 0 = List.replicate l.length false := by simp [flK]
        unfold BO
        rw [e, List.length_replicate, ← made_false]
        exact hM9
      clear hi0 hz z1 z2 z3 hM9 hg9
      rw [hrun]
      go_wp2_with fail
      clear hrun
      have HF9 := Lib.hid hF9
      clear hF9
      go_loopw [77] (fun i wr => ∃ k : Nat, k ≤ l.length ∧ i = .int .i64 (k : Int) ∧ BO wr W7.heap.size (.slice (some ⟨W7.heap.size, 0, none⟩) l.length l.length) (flK (fun n => inB out n) l k) ∧ Below W7.heap.size W7 wr) (fun i _ => l.length - (RowKit.intOf i).toNat)
      case atStart => exact ⟨0, Nat.zero_le _, rfl, HF9.out, hB9⟩
      case round =>
        obtain ⟨k, hk, rfl, hF, hbz⟩ := hrel
        by_cases hlt : k < l.length
        · obtain ⟨n, hn⟩ : ∃ n, l[k]? = some n := ⟨l[k], List.getElem?_eq_getElem hlt⟩
          obtain ⟨g, rfl, hg, hc⟩ := HO7.out.at hn
          have c0 := (hbz.cell (p := ⟨g, k, none⟩) hg).trans hc
          have HSS := Lib.hid (flK_set (S := fun n => inB out n) hn)
          have hi1 := rin_any out _ n wr (HA7.out.below hbz)
          have HF := Lib.hid hF
          clear hn hc hF
          generalize hP : inB out n = P at hi1
          have HPQ := Lib.hid hP
          clear hP
          cases P
          all_goals
            go_wp2_with (go_at_call 82; with_reducible refine hi1.mono ?_; rintro e w1 ⟨rfl, hb1⟩; have hF2 := HF.out.below hb1; have hF2' := Lib.hid hF2; obtain ⟨y0, e1, e2⟩ := BO.cellK hF2 (flK_lt _ hlt); clear hF2 hi1)
          all_goals
            have hSS := HSS.out
            simp only [HPQ.out] at hSS
            refine ⟨⟨k + 1, hlt, by push_cast; rfl, BO.put hF2'.out hSS (flK_len _ _ hk), (hbz.trans (hb1.mono hbz.size)).setCell (p := ⟨W7.heap.size, k, none⟩) (Nat.le_refl _) _⟩, ?_⟩
            simp only [RowKit.intOf]
            omega
        · have hkl : k = l.length := by omega
          subst hkl
          rw [flK_all] at hF
          have hr := rrange_two (fun n => inB out n) l _ _ _ wr (HO7.out.below hbz) (hF.le hB8.size) hlE
          have hBW := hB8.trans (hbz.mono hB8.size)
          clear hF
          go_wp2_with (go_at_call 83; refine hr.mono ?_; rintro e W8 ⟨vr, cr, rfl, hA, hB⟩; have HA8 := Lib.hid hA; clear hA hr)
          go_ret2
          obtain ⟨h3, r, h4, h5, h6, h7⟩ := HSR.out
          have hll2 := HL.out
          subst hll2
          rw [HS.out]
          exact ⟨⟨r, range_sp h3 h4 h5 h6 h7 (HA8.out.imp id fun h => ⟨h.1, h.2.imp fun v h => ⟨h.1, h.2.le hBW.size⟩⟩)⟩, hBW.trans (hB.mono hBW.size)⟩
end Sg
end Go.Proofs.YtflhmoelenmomaaGreatDoor
