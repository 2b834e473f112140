/-
  VersionTexts answers true for every version and every text.
-/
import Derived.Test.YtlpdokkimaigfaaDoorVersionS
namespace Go.Proofs.YtlpdokkimaigfaaDoor
open Go.RowKit
namespace Vs
attribute [local go_sem] eqV

theorem text_len (a b c : Int) : (textL a b c).length ≤ 1000 := by
  unfold textL
  split
  · rename_i h
    obtain ⟨a0, a1, b0, b1, c0, c1⟩ := of_good h
    have l0 := Lib.itoa_length_le a (by omega) (by omega)
    have l1 := Lib.itoa_length_le b (by omega) (by omega)
    have l2 := Lib.itoa_length_le c (by omega) (by omega)
    simp
    omega
  · simp
theorem parse_T {a b c : Int} (h : goodB a b c = true) : PV (parseL (ByteArray.mk (textL a b c).toArray).data.toList) = .tuple #[V a b c, .int .i64 0] := by
  show PV (parseL (textL a b c)) = _
  rw [parse_text h]
  rfl
theorem parse_F {a b c : Int} (h : goodB a b c = false) : PV (parseL (ByteArray.mk (textL a b c).toArray).data.toList) = .tuple #[V 0 0 0, .int .i64 20] := by
  have : textL a b c = [] := by simp [textL, h]
  rw [this]
  show PV (parseL []) = _
  rw [show parseL [] = none by decide +kernel]
  rfl

set_option maxHeartbeats 2000000 in
set_option maxRecDepth 100000 in
theorem texts_any (a b c : Int) (s : ByteArray) (hs : s.size ≤ maxLen) (w : World) (hE : Env w) :
    Calls Tryd.prog 5 #[V a b c, .string s] w fun e w' => e = .returned (.bool true) ∧ Below w.heap.size w w' := by
  unfold maxLen at hs
  have A0 := C3.new w a b c
  have B0 := (Below.refl w.heap.size w).alloc (Nat.le_refl _) (.cells #[.int .i64 a, .int .i64 b, .int .i64 c] 23)
  by_cases hsz : s.size ≤ 1024
  · have HS := Lib.hid (show s.size ≤ 1048576 by omega)
    have HT : Hid ((ByteArray.mk (textL a b c).toArray).size ≤ 1048576) := size_le_of (Nat.le_trans (text_len a b c) (by omega))
    go_enter Tryd.func5, Tryd.ntmps5
    go_wp2_with fail
    refine (alive_any _ (hE.below (Nat.le_refl _) B0)).mono ?_
    rintro e w1 ⟨rfl, hb1⟩
    have A1 := A0.below hb1
    have B1 := keep_below B0 hb1
    obtain ⟨al, a0, a1, a2, af⟩ := id A1
    go_wp2_with fail
    refine (text_any a b c _ (hE.below (Nat.le_refl _) B1)).mono ?_
    rintro e w2 ⟨rfl, hb2⟩
    have A2 := A1.below hb2
    have B2 := keep_below B1 hb2
    clear al a0 a1 a2 af
    obtain ⟨al, a0, a1, a2, af⟩ := id A2
    cases hg : goodB a b c
    ·
      have HPT := Lib.hid (parse_F hg)
      go_wp2_with fail
      go_region_held3 (fun w' => w'.cell? ⟨w.heap.size, 0, none⟩ = some (.int .i64 a) ∧ w'.cell? ⟨w.heap.size, 1, none⟩ = some (.int .i64 b) ∧ w'.cell? ⟨w.heap.size, 2, none⟩ = some (.int .i64 c) ∧ Below w.heap.size w w')
        (((try go_split_ands); (try dsimp only); (repeat' apply And.intro) <;> (first | exact keep_cell hb (by assumption) | exact keep_below (by assumption) hb | exact Below.drew (by assumption) | go_keep)))
        (first
          | (go_at_call 12; refine (good_any _ _ _ _).mono ?_; rintro e w' ⟨rfl, hb⟩)
          | (go_at_call 16; refine (goodr_any _ _ _ _).mono ?_; rintro e w' ⟨rfl, hb⟩)
          | (go_at_call 17; go_split_ands; refine (textr_any _ _ _ _ (hE.below (Nat.le_refl _) (by assumption))).mono ?_; rintro e w' ⟨rfl, hb⟩))
      go_split_ands
      have B3 : Below w.heap.size w w' := by assumption
      have k0 : w'.cell? ⟨w.heap.size, 0, none⟩ = some (.int .i64 a) := by assumption
      have k1 : w'.cell? ⟨w.heap.size, 1, none⟩ = some (.int .i64 b) := by assumption
      have k2 : w'.cell? ⟨w.heap.size, 2, none⟩ = some (.int .i64 c) := by assumption
      clear al a0 a1 a2 af
      go_wp2_with fail
      refine (parse_any _ HT.out _ (hE.below (Nat.le_refl _) B3)).mono ?_
      rintro e w4 ⟨rfl, hb4⟩
      rw [HPT.out]
      have B4 := keep_below B3 hb4
      have W4 := C3.new w4 0 0 0
      have l4 := B4.size
      have B4' := B4.alloc l4 (.cells #[.int .i64 0, .int .i64 0, .int .i64 0] 23)
      have k0' := keep_cell ((Below.refl w4.heap.size w4).alloc (Nat.le_refl _) (.cells #[.int .i64 0, .int .i64 0, .int .i64 0] 23)) (keep_cell hb4 k0)
      have k1' := keep_cell ((Below.refl w4.heap.size w4).alloc (Nat.le_refl _) (.cells #[.int .i64 0, .int .i64 0, .int .i64 0] 23)) (keep_cell hb4 k1)
      have k2' := keep_cell ((Below.refl w4.heap.size w4).alloc (Nat.le_refl _) (.cells #[.int .i64 0, .int .i64 0, .int .i64 0] 23)) (keep_cell hb4 k2)
      clear k0 k1 k2
      go_wp2_with fail
      refine (good_any a b c _).mono ?_
      rintro e w5 ⟨rfl, hb5⟩
      have B5 := keep_below B4' hb5
      have W5 := W4.below hb5
      obtain ⟨wl, c0, c1, c2, cf⟩ := id W5
      have j0 := keep_cell hb5 k0'
      have j1 := keep_cell hb5 k1'
      have j2 := keep_cell hb5 k2'
      clear k0' k1' k2'
      go_wp2_with fail
      refine (parse_any s HS.out _ (hE.below (Nat.le_refl _) B5)).mono ?_
      rintro e w6 ⟨rfl, hb6⟩
      have B6 := keep_below B5 hb6
      have W6 := W5.below hb6
      clear j0 j1 j2 wl c0 c1 c2 cf
      obtain ⟨wl, c0, c1, c2, cf⟩ := id W6
      cases hP : parseL s.data.toList with
      | none =>
        have HP := Lib.hid hP
        clear hP
        rw [PV_none]
        have B6' := ((B6.setCell (p := ⟨w4.heap.size, 0, none⟩) l4 (.int .i64 0)).setCell (p := ⟨w4.heap.size, 1, none⟩) l4 (.int .i64 0)).setCell (p := ⟨w4.heap.size, 2, none⟩) l4 (.int .i64 0)
        have W6' := W6.set 0 0 0
        go_wp2_with fail
        refine (parser_any s HS.out _).mono ?_
        rintro e w7 ⟨rfl, hb7⟩
        rw [HP.out, PV_none]
        have W7 := (W6'.below hb7).old (.cells #[.int .i64 0, .int .i64 0, .int .i64 0] 23)
        have B7 := keep_below B6' hb7
        have X7 := C3.new w7 0 0 0
        clear wl c0 c1 c2 cf
        obtain ⟨wl, c0, c1, c2, cf⟩ := id W7
        obtain ⟨xl, x0, x1, x2, xf⟩ := id X7
        go_wp2
        go_ret
        exact ⟨rfl, B7.alloc B7.size _⟩
      | some v =>
        obtain ⟨x, y, z⟩ := v
        obtain ⟨hts, hgx⟩ := text_parse hP
        have HP := Lib.hid hP
        have HTS := Lib.hid hts
        clear hP hts hgx
        rw [PV_some]
        have B6' := ((B6.setCell (p := ⟨w4.heap.size, 0, none⟩) l4 (.int .i64 x)).setCell (p := ⟨w4.heap.size, 1, none⟩) l4 (.int .i64 y)).setCell (p := ⟨w4.heap.size, 2, none⟩) l4 (.int .i64 z)
        have W6' := W6.set x y z
        go_wp2_with fail
        refine (parser_any s HS.out _).mono ?_
        rintro e w7 ⟨rfl, hb7⟩
        rw [HP.out, PV_some]
        have W7 := (W6'.below hb7).old (.cells #[.int .i64 x, .int .i64 y, .int .i64 z] 23)
        have B7 := keep_below B6' hb7
        have B7' := B7.alloc B7.size (.cells #[.int .i64 x, .int .i64 y, .int .i64 z] 23)
        have X7 := C3.new w7 x y z
        clear wl c0 c1 c2 cf
        obtain ⟨wl, c0, c1, c2, cf⟩ := id W7
        obtain ⟨xl, x0, x1, x2, xf⟩ := id X7
        go_wp2_with fail
        refine (text_any x y z _ (hE.below (Nat.le_refl _) B7')).mono ?_
        rintro e w8 ⟨rfl, hb8⟩
        have hq : (textL x y z == s.toList) = true := by rw [HTS.out, btl]; simp
        go_wp2
        go_ret
        exact ⟨rfl, keep_below B7' hb8⟩
    ·
      have HPT := Lib.hid (parse_T hg)
      go_wp2_with fail
      go_region_held3 (fun w' => w'.cell? ⟨w.heap.size, 0, none⟩ = some (.int .i64 a) ∧ w'.cell? ⟨w.heap.size, 1, none⟩ = some (.int .i64 b) ∧ w'.cell? ⟨w.heap.size, 2, none⟩ = some (.int .i64 c) ∧ Below w.heap.size w w')
        (((try go_split_ands); (try dsimp only); (repeat' apply And.intro) <;> (first | exact keep_cell hb (by assumption) | exact keep_below (by assumption) hb | exact Below.drew (by assumption) | go_keep)))
        (first
          | (go_at_call 12; refine (good_any _ _ _ _).mono ?_; rintro e w' ⟨rfl, hb⟩)
          | (go_at_call 16; refine (goodr_any _ _ _ _).mono ?_; rintro e w' ⟨rfl, hb⟩)
          | (go_at_call 17; go_split_ands; refine (textr_any _ _ _ _ (hE.below (Nat.le_refl _) (by assumption))).mono ?_; rintro e w' ⟨rfl, hb⟩))
      go_split_ands
      have B3 : Below w.heap.size w w' := by assumption
      have k0 : w'.cell? ⟨w.heap.size, 0, none⟩ = some (.int .i64 a) := by assumption
      have k1 : w'.cell? ⟨w.heap.size, 1, none⟩ = some (.int .i64 b) := by assumption
      have k2 : w'.cell? ⟨w.heap.size, 2, none⟩ = some (.int .i64 c) := by assumption
      clear al a0 a1 a2 af
      go_wp2_with fail
      refine (parse_any _ HT.out _ (hE.below (Nat.le_refl _) B3)).mono ?_
      rintro e w4 ⟨rfl, hb4⟩
      rw [HPT.out]
      have B4 := keep_below B3 hb4
      have W4 := C3.new w4 a b c
      have l4 := B4.size
      have B4' := B4.alloc l4 (.cells #[.int .i64 a, .int .i64 b, .int .i64 c] 23)
      have k0' := keep_cell ((Below.refl w4.heap.size w4).alloc (Nat.le_refl _) (.cells #[.int .i64 a, .int .i64 b, .int .i64 c] 23)) (keep_cell hb4 k0)
      have k1' := keep_cell ((Below.refl w4.heap.size w4).alloc (Nat.le_refl _) (.cells #[.int .i64 a, .int .i64 b, .int .i64 c] 23)) (keep_cell hb4 k1)
      have k2' := keep_cell ((Below.refl w4.heap.size w4).alloc (Nat.le_refl _) (.cells #[.int .i64 a, .int .i64 b, .int .i64 c] 23)) (keep_cell hb4 k2)
      clear k0 k1 k2
      go_wp2_with fail
      refine (good_any a b c _).mono ?_
      rintro e w5 ⟨rfl, hb5⟩
      have B5 := keep_below B4' hb5
      have W5 := W4.below hb5
      obtain ⟨wl, c0, c1, c2, cf⟩ := id W5
      have j0 := keep_cell hb5 k0'
      have j1 := keep_cell hb5 k1'
      have j2 := keep_cell hb5 k2'
      clear k0' k1' k2'
      go_wp2_with fail
      refine (parse_any s HS.out _ (hE.below (Nat.le_refl _) B5)).mono ?_
      rintro e w6 ⟨rfl, hb6⟩
      have B6 := keep_below B5 hb6
      have W6 := W5.below hb6
      clear j0 j1 j2 wl c0 c1 c2 cf
      obtain ⟨wl, c0, c1, c2, cf⟩ := id W6
      cases hP : parseL s.data.toList with
      | none =>
        have HP := Lib.hid hP
        clear hP
        rw [PV_none]
        have B6' := ((B6.setCell (p := ⟨w4.heap.size, 0, none⟩) l4 (.int .i64 0)).setCell (p := ⟨w4.heap.size, 1, none⟩) l4 (.int .i64 0)).setCell (p := ⟨w4.heap.size, 2, none⟩) l4 (.int .i64 0)
        have W6' := W6.set 0 0 0
        go_wp2_with fail
        refine (parser_any s HS.out _).mono ?_
        rintro e w7 ⟨rfl, hb7⟩
        rw [HP.out, PV_none]
        have W7 := (W6'.below hb7).old (.cells #[.int .i64 0, .int .i64 0, .int .i64 0] 23)
        have B7 := keep_below B6' hb7
        have X7 := C3.new w7 0 0 0
        clear wl c0 c1 c2 cf
        obtain ⟨wl, c0, c1, c2, cf⟩ := id W7
        obtain ⟨xl, x0, x1, x2, xf⟩ := id X7
        go_wp2
        go_ret
        exact ⟨rfl, B7.alloc B7.size _⟩
      | some v =>
        obtain ⟨x, y, z⟩ := v
        obtain ⟨hts, hgx⟩ := text_parse hP
        have HP := Lib.hid hP
        have HTS := Lib.hid hts
        clear hP hts hgx
        rw [PV_some]
        have B6' := ((B6.setCell (p := ⟨w4.heap.size, 0, none⟩) l4 (.int .i64 x)).setCell (p := ⟨w4.heap.size, 1, none⟩) l4 (.int .i64 y)).setCell (p := ⟨w4.heap.size, 2, none⟩) l4 (.int .i64 z)
        have W6' := W6.set x y z
        go_wp2_with fail
        refine (parser_any s HS.out _).mono ?_
        rintro e w7 ⟨rfl, hb7⟩
        rw [HP.out, PV_some]
        have W7 := (W6'.below hb7).old (.cells #[.int .i64 x, .int .i64 y, .int .i64 z] 23)
        have B7 := keep_below B6' hb7
        have B7' := B7.alloc B7.size (.cells #[.int .i64 x, .int .i64 y, .int .i64 z] 23)
        have X7 := C3.new w7 x y z
        clear wl c0 c1 c2 cf
        obtain ⟨wl, c0, c1, c2, cf⟩ := id W7
        obtain ⟨xl, x0, x1, x2, xf⟩ := id X7
        go_wp2_with fail
        refine (text_any x y z _ (hE.below (Nat.le_refl _) B7')).mono ?_
        rintro e w8 ⟨rfl, hb8⟩
        have hq : (textL x y z == s.toList) = true := by rw [HTS.out, btl]; simp
        go_wp2
        go_ret
        exact ⟨rfl, keep_below B7' hb8⟩
  · go_enter Tryd.func5, Tryd.ntmps5
    go_wp2_with fail
    refine (alive_any _ (hE.below (Nat.le_refl _) B0)).mono ?_
    rintro e w1 ⟨rfl, hb1⟩
    go_wp2
    go_ret
    exact ⟨rfl, keep_below B0 hb1⟩

end Vs
end Go.Proofs.YtlpdokkimaigfaaDoor
