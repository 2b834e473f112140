/-
  Walk: drv.Good.
-/
import Derived.Test.YtbhngjhfeejeiaaGreatDoorDvP
import Derived.Test.YtbhngjhfeejeiaaGreatDoorNm
import Derived.Test.YtbhngjhfeejeiaaGreatDoorSxExt
namespace Go.Proofs.YtbhngjhfeejeiaaGreatDoor
open Go.RowKit
namespace Dv

theorem good_split {d : D} {t n g : Bool} (h1 : Mx.kok d.tool.data.toList = t) (h2 : Nm.nameL d.name.data.toList = n) (h3 : Vs.goodB d.a d.b d.c = g) : goodD d = (t && n && g && decide (d.ins.length ≤ 40) && okIns d.ins) := by simp [goodD, h1, h2, h3]
theorem ex_kv (s : ByteArray) (w : World) (b : Bool) (h : Mx.kok s.data.toList = b) : ∃ n : Int, Calls Tryz.prog 29 #[.string s] w fun e w' => e = .returned (.tuple #[.int .u64 n, .bool b]) ∧ w' = w := by
  have := Mx.parse_any s w
  cases b with
  | true => rw [kv_t h] at this; exact ⟨_, this⟩
  | false => rw [kv_f h] at this; exact ⟨_, this⟩
set_option maxHeartbeats 4000000 in
set_option maxRecDepth 100000 in
theorem good_any (d : D) (v : Value) (W : World) (hS : SI W v d.ins) : Calls Tryz.prog 12 #[DV d v] W fun e W' => e = .returned (.bool (goodD d)) ∧ Below W.heap.size W W' := by
  have hC := DC.new W d v
  have hB := (Below.refl W.heap.size W).alloc (Nat.le_refl _) (DO d v)
  have hS0 := hS
  obtain ⟨sl, cap, rfl, hlen, hf⟩ := hS
  have HF := Lib.hid hf
  clear hf
  cases ht : Mx.kok d.tool.data.toList
  · have hx := Lib.hid (show goodD d = false by simp [goodD, ht])
    obtain ⟨n, hp⟩ := ex_kv d.tool (W.alloc (DO d (.slice sl d.ins.length cap))) false ht
    obtain ⟨c0, c1, c2, c3, c4, c5⟩ := (⟨hC.c0, hC.c1, hC.c2, hC.c3, hC.c4, hC.c5⟩ : _ ∧ _ ∧ _ ∧ _ ∧ _ ∧ _)
    clear ht
    go_enter Tryz.func12, Tryz.ntmps12
    go_wp2_with fail
    refine hp.mono ?_
    rintro e w' ⟨rfl, rfl⟩
    clear hp
    go_wp2_with fail
    go_ret
    exact ⟨Sx.ret_bool hx.out.symm, hB⟩
  · obtain ⟨n, hp⟩ := ex_kv d.tool (W.alloc (DO d (.slice sl d.ins.length cap))) true ht
    have hnm := Nm.name_any d.name (W.alloc (DO d (.slice sl d.ins.length cap)))
    cases hn : Nm.nameL d.name.data.toList
    · have hx := Lib.hid (show goodD d = false by simp [goodD, hn])
      rw [hn] at hnm
      clear ht hn
      go_enter Tryz.func12, Tryz.ntmps12
      go_wp2_with fail
      refine hp.mono ?_
      rintro e w' ⟨rfl, rfl⟩
      clear hp
      go_wp2_with fail
      refine hnm.mono ?_
      rintro e w1 ⟨rfl, hb1⟩
      clear hnm
      go_wp2_with fail
      go_ret
      exact ⟨Sx.ret_bool hx.out.symm, trans' hB hb1⟩
    · rw [hn] at hnm
      cases hg : Vs.goodB d.a d.b d.c
      · have hx := Lib.hid (show goodD d = false by simp [goodD, hg])
        have HG := Lib.hid hg
        clear ht hn hg
        go_enter Tryz.func12, Tryz.ntmps12
        go_wp2_with fail
        refine hp.mono ?_
        rintro e w' ⟨rfl, rfl⟩
        clear hp
        go_wp2_with fail
        refine hnm.mono ?_
        rintro e w1 ⟨rfl, hb1⟩
        clear hnm
        have hC1 := hC.below hb1
        obtain ⟨c0, c1, c2, c3, c4, c5⟩ := (⟨hC1.c0, hC1.c1, hC1.c2, hC1.c3, hC1.c4, hC1.c5⟩ : _ ∧ _ ∧ _ ∧ _ ∧ _ ∧ _)
        have hgd := Vs.good_any d.a d.b d.c w1
        rw [HG.out] at hgd
        go_wp2_with fail
        refine hgd.mono ?_
        rintro e w2 ⟨rfl, hb2⟩
        clear hgd
        go_wp2_with fail
        go_ret
        exact ⟨Sx.ret_bool hx.out.symm, trans' (trans' hB hb1) hb2⟩
      · have HG := Lib.hid hg
        have hsp := Lib.hid (good_split ht hn hg)
        clear ht hn hg
        by_cases h40 : d.ins.length ≤ 40
        · have t40 : decide ((40 : Int) < d.ins.length) = false := by simp; omega
          have hx := Lib.hid (show goodD d = okIns d.ins by rw [hsp.out]; simp [h40])
          go_enter Tryz.func12, Tryz.ntmps12
          go_wp2_with fail
          refine hp.mono ?_
          rintro e w' ⟨rfl, rfl⟩
          clear hp
          go_wp2_with fail
          refine hnm.mono ?_
          rintro e w1 ⟨rfl, hb1⟩
          clear hnm
          have hC1 := hC.below hb1
          obtain ⟨c0, c1, c2, c3, c4, c5⟩ := (⟨hC1.c0, hC1.c1, hC1.c2, hC1.c3, hC1.c4, hC1.c5⟩ : _ ∧ _ ∧ _ ∧ _ ∧ _ ∧ _)
          have hgd := Vs.good_any d.a d.b d.c w1
          rw [HG.out] at hgd
          go_wp2_with fail
          refine hgd.mono ?_
          rintro e w2 ⟨rfl, hb2⟩
          clear hgd c0 c1 c2 c3 c4 c5
          have hC2 := hC1.below hb2
          have hB2 := trans' (trans' hB hb1) hb2
          have hc5 := hC2.c5
          clear hB hb1 hb2 hC hC1
          go_wp2_with fail
          go_loopw [5, 6, 7, 8, 40] (fun _ _ _ _ i wr => ∃ k : Nat, k ≤ d.ins.length ∧ i = .int .i64 k ∧ (∀ j, j < k → okI d.ins j = true) ∧ Below W.heap.size W wr ∧ DC wr W.heap.size d (.slice sl d.ins.length cap)) (fun _ _ _ _ i _ => d.ins.length - (intOf i).toNat)
          case atStart => exact ⟨0, Nat.zero_le _, rfl, by omega, hB2, hC2⟩
          case round =>
            obtain ⟨k, hk, rfl, hall, hbr, hCr⟩ := hrel
            have HALL := Lib.hid hall
            clear hall hB2 hC2 hc5
            by_cases hlt : k < d.ins.length
            · obtain ⟨x, hx0⟩ : ∃ x, d.ins[k]? = some x := ⟨d.ins[k], List.getElem?_eq_getElem hlt⟩
              obtain ⟨b, o, rfl, hbl, g1, g2⟩ := HF.out k x hx0
              have hbl' : b < wr.heap.size := by
                have hS2 := hS0.below hbr
                obtain ⟨sl', cap', e, _, hc'⟩ := hS2
                cases e
                obtain ⟨b', o', e', hl', _, _⟩ := hc' k x hx0
                cases e'
                exact hl'
              have k1 : wr.cell? ⟨b, o + k * 2, none⟩ = some (.string x.1) := (hbr.cell (p := ⟨b, _, none⟩) hbl).trans g1
              have k2 : wr.cell? ⟨b, o + k * 2 + 1, none⟩ = some (.string x.2) := (hbr.cell (p := ⟨b, _, none⟩) hbl).trans g2
              clear g1 g2
              have HX0 := Lib.hid hx0
              clear hx0
              have hBX := hbr.alloc hbr.size (.cells #[.string x.1, .string x.2] 48)
              have hCX := hCr.below ((Below.refl _ _).alloc (Nat.le_refl _) (.cells #[.string x.1, .string x.2] 48))
              have z0 : (wr.alloc (.cells #[.string x.1, .string x.2] 48)).cell? ⟨wr.heap.size, 0, none⟩ = some (.string x.1) := by go_simp
              have e0 := Sx.ext_cell z0
              have e5 := Sx.ext_cell hCX.c5
              clear z0
              have hnx : ∀ Y, Calls Tryz.prog 30 #[.string x.1] (Sx.ext (wr.alloc (.cells #[.string x.1, .string x.2] 48)) Y) fun e w' => e = .returned (.bool (Nm.nameL x.1.data.toList)) ∧ Below (Sx.ext (wr.alloc (.cells #[.string x.1, .string x.2] 48)) Y).heap.size (Sx.ext (wr.alloc (.cells #[.string x.1, .string x.2] 48)) Y) w' := fun Y => Nm.name_any _ _
              cases hkx : Mx.kok x.2.data.toList
              · have HBAD := Lib.hid (okIns_bad hlt (okI_key HX0.out hkx))
                obtain ⟨n2, hp2⟩ := ex_kv x.2 (wr.alloc (.cells #[.string x.1, .string x.2] 48)) false hkx
                clear hkx
                go_wp2_with fail
                refine hp2.mono ?_
                rintro e w' ⟨rfl, rfl⟩
                clear hp2
                go_wp2_with fail
                refine Sx.wp_region_ext (by kernel_rfl) (by kernel_rfl) ?_
                repeat (go_big_quiet_step ((go_at_call 30; exact Sx.calls_ext (hnx _))))
                refine wpQuiet_nil ?_
                intro _ hw'
                obtain ⟨Y, hw''⟩ := hw'
                subst hw''
                have hBY := trans' hBX (Sx.ext_below (wr.alloc (.cells #[.string x.1, .string x.2] 48)) Y)
                have hCY := hCX.below (Sx.ext_below (wr.alloc (.cells #[.string x.1, .string x.2] 48)) Y)
                go_wp2_with fail
                go_ret
                exact ⟨Sx.ret_bool (by rw [hx.out, HBAD.out]), hBY⟩
              · obtain ⟨n2, hp2⟩ := ex_kv x.2 (wr.alloc (.cells #[.string x.1, .string x.2] 48)) true hkx
                cases hnl : Nm.nameL x.1.data.toList
                · have HBAD := Lib.hid (okIns_bad hlt (okI_name HX0.out hnl))
                  rw [hnl] at hnx
                  clear hkx hnl
                  go_wp2_with fail
                  refine hp2.mono ?_
                  rintro e w' ⟨rfl, rfl⟩
                  clear hp2
                  go_wp2_with fail
                  refine Sx.wp_region_ext (by kernel_rfl) (by kernel_rfl) ?_
                  repeat (go_big_quiet_step ((go_at_call 30; exact Sx.calls_ext (hnx _))))
                  refine wpQuiet_nil ?_
                  intro _ hw'
                  obtain ⟨Y, hw''⟩ := hw'
                  subst hw''
                  have hBY := trans' hBX (Sx.ext_below (wr.alloc (.cells #[.string x.1, .string x.2] 48)) Y)
                  have hCY := hCX.below (Sx.ext_below (wr.alloc (.cells #[.string x.1, .string x.2] 48)) Y)
                  go_wp2_with fail
                  go_ret
                  exact ⟨Sx.ret_bool (by rw [hx.out, HBAD.out]), hBY⟩
                · rw [hnl] at hnx
                  by_cases hk0 : k = 0
                  · have HOK := Lib.hid (show ∀ j, j < k + 1 → okI d.ins j = true from fun j hj => by
                      obtain rfl : j = 0 := by omega
                      subst hk0
                      exact okI_zero HX0.out hkx hnl)
                    have t0 : decide (0 < k) = false := by simp; omega
                    clear hkx hnl hk0
                    go_wp2_with fail
                    refine hp2.mono ?_
                    rintro e w' ⟨rfl, rfl⟩
                    clear hp2
                    go_wp2_with fail
                    refine Sx.wp_region_ext (by kernel_rfl) (by kernel_rfl) ?_
                    repeat (go_big_quiet_step ((go_at_call 30; exact Sx.calls_ext (hnx _))))
                    refine wpQuiet_nil ?_
                    intro _ hw'
                    obtain ⟨Y, hw''⟩ := hw'
                    subst hw''
                    have hBY := trans' hBX (Sx.ext_below (wr.alloc (.cells #[.string x.1, .string x.2] 48)) Y)
                    have hCY := hCX.below (Sx.ext_below (wr.alloc (.cells #[.string x.1, .string x.2] 48)) Y)
                    clear e0 e5
                    go_wp2_with fail
                    go_roundw
                    case rel => exact ⟨k + 1, by omega, by go_num, HOK.out, hBY, hCY⟩
                    case measure => simp [intOf]; omega
                  · obtain ⟨j, hj⟩ : ∃ j, j + 1 = k := ⟨k - 1, by omega⟩
                    obtain ⟨y, hy0⟩ : ∃ y, d.ins[j]? = some y := ⟨d.ins[j]'(by omega), List.getElem?_eq_getElem (by omega)⟩
                    obtain ⟨b', o', eb, _, g1, _⟩ := HF.out j y hy0
                    cases eb
                    have k3 : wr.cell? ⟨b, o + j * 2, none⟩ = some (.string y.1) := (hbr.cell (p := ⟨b, _, none⟩) hbl).trans g1
                    have k3' : (wr.alloc (.cells #[.string x.1, .string x.2] 48)).cell? ⟨b, o + j * 2, none⟩ = some (.string y.1) := (((Below.refl _ wr).alloc (Nat.le_refl _) _).cell (p := ⟨b, _, none⟩) hbl').trans k3
                    have e3 := Sx.ext_cell k3'
                    have hstep := okI_next (k := k) hk0 HX0.out (by rw [show k - 1 = j by omega]; exact hy0) hkx hnl
                    have q1 : IntKind.i64.wrap ((k : Int) - 1) = (j : Int) := by rw [IntWalk.i64_in _ (by omega)]; omega
                    have t0 : decide (0 < k) = true := by simp; omega
                    have q2 : (j : Int) < d.ins.length := by omega
                    have q3 : (0 : Int) ≤ j := by omega
                    clear g1 k3 k3' hy0
                    cases hls : Op.bytesLess y.1.toList x.1.toList
                    · have HBAD := Lib.hid (okIns_bad hlt (by rw [hstep]; exact hls))
                      clear hkx hnl hk0 hj hstep
                      go_wp2_with fail
                      refine hp2.mono ?_
                      rintro e w' ⟨rfl, rfl⟩
                      clear hp2
                      go_wp2_with fail
                      refine Sx.wp_region_ext (by kernel_rfl) (by kernel_rfl) ?_
                      repeat (go_big_quiet_step ((go_at_call 30; exact Sx.calls_ext (hnx _))))
                      refine wpQuiet_nil ?_
                      intro _ hw'
                      obtain ⟨Y, hw''⟩ := hw'
                      subst hw''
                      have hBY := trans' hBX (Sx.ext_below (wr.alloc (.cells #[.string x.1, .string x.2] 48)) Y)
                      have hCY := hCX.below (Sx.ext_below (wr.alloc (.cells #[.string x.1, .string x.2] 48)) Y)
                      go_wp2_with fail
                      go_ret
                      exact ⟨Sx.ret_bool (by rw [hx.out, HBAD.out]), hBY⟩
                    · have HOK := Lib.hid (show ∀ i, i < k + 1 → okI d.ins i = true from fun i hi => by
                        by_cases h : i < k
                        · exact HALL.out i h
                        · obtain rfl : i = k := by omega
                          rw [hstep]; exact hls)
                      clear hkx hnl hk0 hj hstep
                      go_wp2_with fail
                      refine hp2.mono ?_
                      rintro e w' ⟨rfl, rfl⟩
                      clear hp2
                      go_wp2_with fail
                      refine Sx.wp_region_ext (by kernel_rfl) (by kernel_rfl) ?_
                      repeat (go_big_quiet_step ((go_at_call 30; exact Sx.calls_ext (hnx _))))
                      refine wpQuiet_nil ?_
                      intro _ hw'
                      obtain ⟨Y, hw''⟩ := hw'
                      subst hw''
                      have hBY := trans' hBX (Sx.ext_below (wr.alloc (.cells #[.string x.1, .string x.2] 48)) Y)
                      have hCY := hCX.below (Sx.ext_below (wr.alloc (.cells #[.string x.1, .string x.2] 48)) Y)
                      clear e0 e5 e3
                      go_wp2_with fail
                      go_roundw
                      case rel => exact ⟨k + 1, by omega, by go_num, HOK.out, hBY, hCY⟩
                      case measure => simp [intOf]; omega
            · have HI := Lib.hid (okIns_good (ins := d.ins) (fun j hj => HALL.out j (by omega)))
              go_wp2_with fail
              go_ret
              exact ⟨Sx.ret_bool (by rw [hx.out, HI.out]), hbr⟩
        · have t40 : decide ((40 : Int) < d.ins.length) = true := by simp; omega
          have hx := Lib.hid (show goodD d = false by rw [hsp.out]; simp [h40])
          clear h40
          go_enter Tryz.func12, Tryz.ntmps12
          go_wp2_with fail
          refine hp.mono ?_
          rintro e w' ⟨rfl, rfl⟩
          clear hp
          go_wp2_with fail
          refine hnm.mono ?_
          rintro e w1 ⟨rfl, hb1⟩
          clear hnm
          have hC1 := hC.below hb1
          obtain ⟨c0, c1, c2, c3, c4, c5⟩ := (⟨hC1.c0, hC1.c1, hC1.c2, hC1.c3, hC1.c4, hC1.c5⟩ : _ ∧ _ ∧ _ ∧ _ ∧ _ ∧ _)
          have hgd := Vs.good_any d.a d.b d.c w1
          rw [HG.out] at hgd
          go_wp2_with fail
          refine hgd.mono ?_
          rintro e w2 ⟨rfl, hb2⟩
          clear hgd
          have hc5 := (hC1.below hb2).c5
          go_wp2_with fail
          go_ret
          exact ⟨Sx.ret_bool hx.out.symm, trans' (trans' hB hb1) hb2⟩
end Dv
end Go.Proofs.YtbhngjhfeejeiaaGreatDoor
