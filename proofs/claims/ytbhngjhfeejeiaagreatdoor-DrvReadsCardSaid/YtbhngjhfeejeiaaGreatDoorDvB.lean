/-
  Walk: the reference's Good of builds.
-/
import Derived.Test.YtbhngjhfeejeiaaGreatDoorDvA
namespace Go.Proofs.YtbhngjhfeejeiaaGreatDoor
open Go.RowKit
namespace Dv

/-- the texts are no longer than an int counts -/
structure DB (d : D) : Prop where
  nm : d.name.size ≤ 9223372036854775807
  tl : d.tool.size ≤ 9223372036854775807
  ins : ∀ x ∈ d.ins, x.1.size ≤ 9223372036854775807 ∧ x.2.size ≤ 9223372036854775807
theorem okI_last {ins : List (ByteArray × ByteArray)} {k : Nat} {x : ByteArray × ByteArray} {last : ByteArray} (h0 : k = 0 → last = ⟨#[]⟩) (hl : ∀ j, j + 1 = k → ∃ y, ins[j]? = some y ∧ last = y.1)
    (hx : ins[k]? = some x) (h1 : Mx.kok x.2.data.toList = true) (h2 : Nm.nameL x.1.data.toList = true) : okI ins k = less last x.1 := by
  by_cases hk : k = 0
  · subst hk
    rw [okI_zero hx h1 h2, h0 rfl]
    unfold less
    have hne : x.1.data.toList ≠ [] := by
      intro e
      rw [e] at h2
      simp [Nm.nameL] at h2
    rw [show (ByteArray.mk #[]).toList = [] by decide +kernel, ByteArray.toList_eq]
    cases hc : x.1.data.toList with
    | nil => exact absurd hc hne
    | cons a r => rfl
  · obtain ⟨j, hj⟩ : ∃ j, j + 1 = k := ⟨k - 1, by omega⟩
    obtain ⟨y, hy, rfl⟩ := hl j hj
    exact okI_next hk hx (by rw [show k - 1 = j by omega]; exact hy) h1 h2
theorem ex_kvr (s : ByteArray) (w : World) (hs : s.size ≤ 9223372036854775807) (b : Bool) (h : Mx.kok s.data.toList = b) : ∃ n : Int, Calls Tryz.prog 53 #[.string s] w fun e w' => e = .returned (.tuple #[.int .u64 n, .bool b]) ∧ w' = w := by
  have := Mx.parser_any s w hs
  cases b with
  | true => rw [kv_t h] at this; exact ⟨_, this⟩
  | false => rw [kv_f h] at this; exact ⟨_, this⟩
set_option maxHeartbeats 400000 in
theorem key_any (s : ByteArray) (w : World) (hs : s.size ≤ 9223372036854775807) : Calls Tryz.prog 36 #[.string s] w fun e w' => e = .returned (.bool (Mx.kok s.data.toList)) ∧ w' = w := by
  obtain ⟨n, hp⟩ := ex_kvr s w hs _ rfl
  generalize Mx.kok s.data.toList = b at *
  go_enter Tryz.func36, Tryz.ntmps36
  go_wp2_with (go_at_call 53; refine hp.mono ?_; rintro e w' ⟨rfl, rfl⟩)
  go_ret
  exact ⟨rfl, rfl⟩
set_option maxHeartbeats 1000000 in
theorem pkg_any (s : ByteArray) (a b c : Int) (w : World) (hs : s.size ≤ 9223372036854775807) :
    Calls Tryz.prog 35 #[.agg #[.string s, .int .i64 a, .int .i64 b, .int .i64 c]] w fun e w' => e = .returned (.bool (Nm.nameL s.data.toList && Vs.goodB a b c)) ∧ Below w.heap.size w w' := by
  have hX := (Below.refl w.heap.size w).alloc (Nat.le_refl _) (.cells #[.string s, .int .i64 a, .int .i64 b, .int .i64 c] 26)
  have hn := Nm.namer_any s (w.alloc (.cells #[.string s, .int .i64 a, .int .i64 b, .int .i64 c] 26)) hs
  have hg := Vs.goodr_any a b c (w.alloc (.cells #[.string s, .int .i64 a, .int .i64 b, .int .i64 c] 26))
  generalize Nm.nameL s.data.toList = p at *
  generalize Vs.goodB a b c = q at *
  cases p
  · go_enter Tryz.func35, Tryz.ntmps35
    go_wp2_with fail
    refine hn.mono ?_
    rintro e w' ⟨rfl, rfl⟩
    clear hn hg
    go_wp2_with fail
    go_ret
    exact ⟨rfl, hX⟩
  · go_enter Tryz.func35, Tryz.ntmps35
    go_wp2_with fail
    refine hn.mono ?_
    rintro e w' ⟨rfl, rfl⟩
    clear hn
    go_wp2_with fail
    refine hg.mono ?_
    rintro e w1 ⟨rfl, hb1⟩
    clear hg
    go_wp2_with fail
    go_ret
    exact ⟨rfl, trans' hX hb1⟩
set_option maxHeartbeats 4000000 in
set_option maxRecDepth 100000 in
theorem goodr_any (d : D) (v : Value) (W : World) (hS : SI W v d.ins) (hD : DB d) : Calls Tryz.prog 15 #[DV d v] W fun e W' => e = .returned (.bool (goodD d)) ∧ Below W.heap.size W W' := by
  have hC := DC.new W d v
  have hB := (Below.refl W.heap.size W).alloc (Nat.le_refl _) (DO d v)
  have hS0 := hS
  obtain ⟨sl, cap, rfl, hlen, hf⟩ := hS
  have HF := Lib.hid hf
  have HD := Lib.hid hD
  clear hf
  have hpk := pkg_any d.name d.a d.b d.c (W.alloc (DO d (.slice sl d.ins.length cap))) hD.nm
  have htl := key_any d.tool
  cases hp : (Nm.nameL d.name.data.toList && Vs.goodB d.a d.b d.c)
  · have hx := Lib.hid (show goodD d = false by
      rw [Bool.and_eq_false_iff] at hp
      rcases hp with h | h <;> simp [goodD, h])
    rw [hp] at hpk
    clear hp htl hD
    go_enter Tryz.func15, Tryz.ntmps15
    go_wp2_with fail
    refine hpk.mono ?_
    rintro e w1 ⟨rfl, hb1⟩
    clear hpk
    go_wp2_with fail
    go_ret
    exact ⟨Sx.ret_bool hx.out.symm, trans' hB hb1⟩
  · rw [hp] at hpk
    obtain ⟨hp1, hp2⟩ := Bool.and_eq_true_iff.1 hp
    cases ht : Mx.kok d.tool.data.toList
    · have hx := Lib.hid (show goodD d = false by simp [goodD, ht])
      have htl' := fun w => htl w hD.tl
      rw [ht] at htl'
      clear hp hp1 hp2 htl hD ht
      go_enter Tryz.func15, Tryz.ntmps15
      go_wp2_with fail
      refine hpk.mono ?_
      rintro e w1 ⟨rfl, hb1⟩
      clear hpk
      have hC1 := hC.below hb1
      obtain ⟨c0, c1, c2, c3, c4, c5⟩ := (⟨hC1.c0, hC1.c1, hC1.c2, hC1.c3, hC1.c4, hC1.c5⟩ : _ ∧ _ ∧ _ ∧ _ ∧ _ ∧ _)
      go_wp2_with fail
      refine (htl' _).mono ?_
      rintro e w' ⟨rfl, rfl⟩
      clear htl'
      go_wp2_with fail
      go_ret
      exact ⟨Sx.ret_bool hx.out.symm, trans' hB hb1⟩
    · have htl' := fun w => htl w hD.tl
      rw [ht] at htl'
      have hsp := Lib.hid (good_split ht hp1 hp2)
      clear hp hp1 hp2 htl hD ht
      by_cases h40 : d.ins.length ≤ 40
      · have t40 : decide ((40 : Int) < d.ins.length) = false := by simp; omega
        have hx := Lib.hid (show goodD d = okIns d.ins by rw [hsp.out]; simp [h40])
        go_enter Tryz.func15, Tryz.ntmps15
        go_wp2_with fail
        refine hpk.mono ?_
        rintro e w1 ⟨rfl, hb1⟩
        clear hpk
        have hC1 := hC.below hb1
        obtain ⟨c0, c1, c2, c3, c4, c5⟩ := (⟨hC1.c0, hC1.c1, hC1.c2, hC1.c3, hC1.c4, hC1.c5⟩ : _ ∧ _ ∧ _ ∧ _ ∧ _ ∧ _)
        go_wp2_with fail
        refine (htl' _).mono ?_
        rintro e w' ⟨rfl, rfl⟩
        clear htl' c0 c1 c2 c3 c4
        have hB1 := trans' hB hb1
        clear hB hb1 hC
        go_wp2_with fail
        go_loopw [3, 5, 25] (fun l _ i wr => ∃ (k : Nat) (last : ByteArray), k ≤ d.ins.length ∧ i = .int .i64 k ∧ l = .string last ∧ (k = 0 → last = ⟨#[]⟩) ∧ (∀ j, j + 1 = k → ∃ y, d.ins[j]? = some y ∧ last = y.1) ∧ (∀ j, j < k → okI d.ins j = true) ∧ Below W.heap.size W wr) (fun _ _ i _ => d.ins.length - (intOf i).toNat)
        case atStart => exact ⟨0, ⟨#[]⟩, Nat.zero_le _, rfl, rfl, fun _ => rfl, by omega, by omega, hB1⟩
        case round =>
          obtain ⟨k, last, hk, rfl, rfl, hl0, hl1, hall, hbr⟩ := hrel
          have HL0 := Lib.hid hl0
          have HL1 := Lib.hid hl1
          have HALL := Lib.hid hall
          clear hall hB1 hC1 c5 hl0 hl1
          by_cases hlt : k < d.ins.length
          · obtain ⟨x, hx0⟩ : ∃ x, d.ins[k]? = some x := ⟨d.ins[k], List.getElem?_eq_getElem hlt⟩
            obtain ⟨b, o, rfl, hbl, g1, g2⟩ := HF.out k x hx0
            obtain ⟨hz1, hz2⟩ := HD.out.ins x (List.mem_of_getElem? hx0)
            have k1 : wr.cell? ⟨b, o + k * 2, none⟩ = some (.string x.1) := (hbr.cell (p := ⟨b, _, none⟩) hbl).trans g1
            have k2 : wr.cell? ⟨b, o + k * 2 + 1, none⟩ = some (.string x.2) := (hbr.cell (p := ⟨b, _, none⟩) hbl).trans g2
            clear g1 g2
            have HX0 := Lib.hid hx0
            clear hx0
            have hBX := hbr.alloc hbr.size (.cells #[.string x.1, .string x.2] 48)
            have hnx := Nm.namer_any x.1 (wr.alloc (.cells #[.string x.1, .string x.2] 48)) hz1
            have hkx := key_any x.2 (wr.alloc (.cells #[.string x.1, .string x.2] 48)) hz2
            cases hnl : Nm.nameL x.1.data.toList
            · have HBAD := Lib.hid (okIns_bad hlt (okI_name HX0.out hnl))
              rw [hnl] at hnx
              clear hkx hnl
              go_wp2_with fail
              refine hnx.mono ?_
              rintro e w' ⟨rfl, rfl⟩
              clear hnx
              go_wp2_with fail
              go_ret
              exact ⟨Sx.ret_bool (by rw [hx.out, HBAD.out]), hBX⟩
            · rw [hnl] at hnx
              cases hkk : Mx.kok x.2.data.toList
              · have HBAD := Lib.hid (okIns_bad hlt (okI_key HX0.out hkk))
                rw [hkk] at hkx
                clear hnl hkk
                cases hle : (Op.bytesLess x.1.toList last.toList || x.1.toList == last.toList)
                · go_wp2_with fail
                  refine hnx.mono ?_
                  rintro e w' ⟨rfl, rfl⟩
                  clear hnx
                  go_wp2_with fail
                  refine hkx.mono ?_
                  rintro e w' ⟨rfl, rfl⟩
                  clear hkx
                  go_wp2_with fail
                  go_ret
                  exact ⟨Sx.ret_bool (by rw [hx.out, HBAD.out]), hBX⟩
                · go_wp2_with fail
                  refine hnx.mono ?_
                  rintro e w' ⟨rfl, rfl⟩
                  clear hnx
                  go_wp2_with fail
                  go_ret
                  exact ⟨Sx.ret_bool (by rw [hx.out, HBAD.out]), hBX⟩
              · have hstep := okI_last HL0.out HL1.out HX0.out hkk hnl
                have htot := bless_tot x.1.toList last.toList
                rw [hkk] at hkx
                cases hls : Op.bytesLess last.toList x.1.toList
                · have HBAD := Lib.hid (okIns_bad hlt (by rw [hstep]; exact hls))
                  rw [hls] at htot
                  clear hnl hkk hls hstep hkx
                  go_wp2_with fail
                  refine hnx.mono ?_
                  rintro e w' ⟨rfl, rfl⟩
                  clear hnx
                  go_wp2_with fail
                  go_ret
                  exact ⟨Sx.ret_bool (by rw [hx.out, HBAD.out]), hBX⟩
                · have HOK := Lib.hid (show ∀ i, i < k + 1 → okI d.ins i = true from fun i hi => by
                    by_cases h : i < k
                    · exact HALL.out i h
                    · obtain rfl : i = k := by omega
                      rw [hstep]; exact hls)
                  have HJ := Lib.hid (show ∀ j, j + 1 = k + 1 → ∃ y, d.ins[j]? = some y ∧ x.1 = y.1 from fun j hj => by
                    obtain rfl : j = k := by omega
                    exact ⟨x, HX0.out, rfl⟩)
                  rw [hls] at htot
                  clear hnl hkk hls hstep
                  go_wp2_with fail
                  refine hnx.mono ?_
                  rintro e w' ⟨rfl, rfl⟩
                  clear hnx
                  go_wp2_with fail
                  refine hkx.mono ?_
                  rintro e w' ⟨rfl, rfl⟩
                  clear hkx
                  go_wp2_with fail
                  go_roundw
                  case rel => exact ⟨k + 1, x.1, by omega, by go_num, rfl, by omega, HJ.out, HOK.out, hBX⟩
                  case measure => simp [intOf]; omega
          · have HI := Lib.hid (okIns_good (ins := d.ins) (fun j hj => HALL.out j (by omega)))
            go_wp2_with fail
            go_ret
            exact ⟨Sx.ret_bool (by rw [hx.out, HI.out]), hbr⟩
      · have t40 : decide ((40 : Int) < d.ins.length) = true := by simp; omega
        have hx := Lib.hid (show goodD d = false by rw [hsp.out]; simp [h40])
        clear h40
        go_enter Tryz.func15, Tryz.ntmps15
        go_wp2_with fail
        refine hpk.mono ?_
        rintro e w1 ⟨rfl, hb1⟩
        clear hpk
        have hC1 := hC.below hb1
        obtain ⟨c0, c1, c2, c3, c4, c5⟩ := (⟨hC1.c0, hC1.c1, hC1.c2, hC1.c3, hC1.c4, hC1.c5⟩ : _ ∧ _ ∧ _ ∧ _ ∧ _ ∧ _)
        go_wp2_with fail
        refine (htl' _).mono ?_
        rintro e w' ⟨rfl, rfl⟩
        clear htl'
        go_wp2_with fail
        go_ret
        exact ⟨Sx.ret_bool hx.out.symm, trans' hB hb1⟩
end Dv
end Go.Proofs.YtbhngjhfeejeiaaGreatDoor
