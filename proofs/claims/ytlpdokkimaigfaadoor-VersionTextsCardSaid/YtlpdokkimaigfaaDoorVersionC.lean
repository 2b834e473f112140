/-
  saplinglaw06.alive answers true in every world in which the library's variables lie; VersionNumbers answers true.
-/
import Derived.Test.YtlpdokkimaigfaaDoorVersionB
import Derived.ChangeKeysEq
namespace Go.Proofs.YtlpdokkimaigfaaDoor
open Go.RowKit
namespace Vs

theorem info_int : (Tryd.prog.info? 3).map (fun i => (i.zero, i.size, i.bytes)) = some (some (.int .i64 0), 1, 8) := by kernel_rfl
theorem size_int : Tryd.prog.cellsOf 3 = 1 := by kernel_rfl
theorem eqV (a b c x y z : Int) (w : World) : (Op.equalIn 10000 23 (V a b c) (V x y z)).run Tryd.prog w = .ok (a == x && (b == y && c == z)) w := by
  obtain ⟨i, hi, -⟩ := info_parts info_int
  rw [show (10000 : Nat) = 9999 + 1 from rfl, run_equalIn_array w 9999 _ _ Tryd.underlying23 hi, size_int]
  simp only [List.range, List.range.loop, Op.eqItems]
  by_cases h1 : a = x <;> by_cases h2 : b = y <;> by_cases h3 : c = z <;> simp [go_sem, part, Tryd.isAgg3, h1, h2, h3]

attribute [local go_sem] eqV

theorem parse_a : parseL [49, 46, 50, 48, 46, 51] = some (1, 20, 3) := by decide +kernel
theorem parse_b : parseL [48, 49, 46, 50, 46, 51] = none := by decide +kernel

set_option maxHeartbeats 400000 in
theorem alive_any (w : World) (hE : Env w) : Calls Tryd.prog 7 #[] w fun e w' => e = .returned (.bool true) ∧ Below w.heap.size w w' := by
  have hn : num 1 20 3 = 1020003 := by decide
  go_enter Tryd.func7, Tryd.ntmps7
  go_wp2_with fail
  refine (parse_any ⟨#[49, 46, 50, 48, 46, 51]⟩ (by decide) _ hE).mono ?_
  rintro e w1 ⟨rfl, hb1⟩
  rw [show PV (parseL (ByteArray.mk #[49, 46, 50, 48, 46, 51]).data.toList) = .tuple #[V 1 20 3, .int .i64 0] by rw [show (ByteArray.mk #[49, 46, 50, 48, 46, 51]).data.toList = [49, 46, 50, 48, 46, 51] from rfl, parse_a]; rfl]
  have hE1 := hE.below (Nat.le_refl _) hb1
  go_wp2_with fail
  refine (parse_any ⟨#[48, 49, 46, 50, 46, 51]⟩ (by decide) _ (hE1.alloc _)).mono ?_
  rintro e w2 ⟨rfl, hb2⟩
  rw [show PV (parseL (ByteArray.mk #[48, 49, 46, 50, 46, 51]).data.toList) = .tuple #[V 0 0 0, .int .i64 20] by rw [show (ByteArray.mk #[48, 49, 46, 50, 46, 51]).data.toList = [48, 49, 46, 50, 46, 51] from rfl, parse_b]; rfl]
  obtain ⟨hc, hf⟩ := bcell hb2
  have hs2 := hb2.size
  have hs3 : w1.heap.size < w2.heap.size := by simp at hs2; omega
  clear hs2
  go_wp2_with fail
  refine (number_any 1 20 3 _).mono ?_
  rintro e w3 ⟨rfl, hb3⟩
  rw [hn]
  go_wp2
  go_ret
  refine ⟨rfl, ?_⟩
  have hz := hb1.size
  have hb2' := hb2.mono (B' := w.heap.size) (by simp; omega)
  have hb3' := hb3.mono (B' := w.heap.size) (by simp; omega)
  exact (((hb1.alloc hz _).trans hb2').alloc (by omega) _).trans hb3'

theorem of_num_tt {a b c : Int} (h : goodB a b c = true) : OfV (num a b c) = .tuple #[V a b c, .bool true] := by
  obtain ⟨a0, a1, b0, b1, c0, c1⟩ := of_good h
  have e : num a b c = (a * 1000 + b) * 1000 + c := by simp [num, h]
  rw [e, of_tt (by omega) (by omega), show ((a * 1000 + b) * 1000 + c) / 1000000 = a by omega, show ((a * 1000 + b) * 1000 + c) / 1000 % 1000 = b by omega, show ((a * 1000 + b) * 1000 + c) % 1000 = c by omega]
theorem of_num_ff {a b c : Int} (h : goodB a b c = false) : OfV (num a b c) = .tuple #[V 0 0 0, .bool false] := by
  have e : num a b c = -1 := by simp [num, h]
  rw [e, of_ff (by omega)]
theorem num_of {n : Int} (h0 : 0 ≤ n) (h1 : n < 1000000000) : num (n / 1000000) (n / 1000 % 1000) (n % 1000) = n := by
  have h : goodB (n / 1000000) (n / 1000 % 1000) (n % 1000) = true := good_tt (by omega) (by omega) (by omega)
  simp only [num, h, if_true]; omega

set_option maxHeartbeats 2000000 in
set_option maxRecDepth 100000 in
theorem numbers_any (a b c n : Int) (w : World) (hE : Env w) : Calls Tryd.prog 3 #[V a b c, .int .i64 n] w fun e w' => e = .returned (.bool true) ∧ Below w.heap.size w w' := by
  cases hg : goodB a b c
  · have hO := Lib.hid (of_num_ff hg)
    have HG := Lib.hid hg
    clear hg
    generalize hk : num a b c = k at *
    have HK := Lib.hid hk
    clear hk
    have A0 := C3.new w a b c
    go_enter Tryd.func3, Tryd.ntmps3
    go_wp2_with fail
    refine (alive_any _ (hE.alloc _)).mono ?_
    rintro e w1 ⟨rfl, hb1⟩
    have A1 := A0.below hb1
    have B1 := ((Below.refl w.heap.size w).alloc (Nat.le_refl _) _).trans (hb1.mono (by simp))
    obtain ⟨al, a0, a1, a2, af⟩ := id A1
    go_wp2_with fail
    refine (number_any a b c _).mono ?_
    rintro e w2 ⟨rfl, hb2⟩
    rw [HK.out]
    clear al a0 a1 a2 af
    have B2 := B1.trans (hb2.mono B1.size)
    go_wp2_with fail
    refine (of_any k _).mono ?_
    rintro e w3 ⟨rfl, hb3⟩
    rw [hO.out]
    have B3 := B2.trans (hb3.mono B2.size)
    have W3 := C3.new w3 0 0 0
    go_wp2_with fail
    refine (ofr_any k _).mono ?_
    rintro e w4 ⟨rfl, hb4⟩
    rw [hO.out]
    have B4 := (B3.alloc B3.size _).trans (hb4.mono (B3.alloc B3.size _).size)
    have X4 := C3.new w4 0 0 0
    have W4 := (W3.below hb4).old (.cells #[.int .i64 0, .int .i64 0, .int .i64 0] 23)
    have A4 := ((((A1.below hb2).below hb3).old (.cells #[.int .i64 0, .int .i64 0, .int .i64 0] 23)).below hb4).old (.cells #[.int .i64 0, .int .i64 0, .int .i64 0] 23)
    have h34 : w3.heap.size ≠ w4.heap.size := by have := hb4.size; simp at this; omega
    have l34 := B3.size
    obtain ⟨al, a0, a1, a2, af⟩ := id A4
    go_wp2_with fail
    refine (numberr_any a b c _).mono ?_
    rintro e w5 ⟨rfl, hb5⟩
    rw [HK.out]
    have B5 := (B4.alloc B4.size _).trans (hb5.mono (B4.alloc B4.size _).size)
    have X5 := X4.below hb5
    have W5 := W4.below hb5
    have A5 := A4.below hb5
    clear al a0 a1 a2 af
    obtain ⟨al, a0, a1, a2, af⟩ := id A5
    obtain ⟨wl, c0, c1, c2, cf⟩ := id W5
    obtain ⟨xl, d0, d1, d2, df⟩ := id X5
    have l4 := B4.size
    have H34 := Lib.hid h34
    clear h34
    go_wp2_with fail
    refine (good_any a b c _).mono ?_
    rintro e w6 ⟨rfl, hb6⟩
    rw [HG.out]
    have B6 := B5.trans (hb6.mono B5.size)
    have X6 := X5.below hb6
    have W6 := W5.below hb6
    have A6 := A5.below hb6
    clear wl c0 c1 c2 cf xl d0 d1 d2 df al a0 a1 a2 af
    go_wp2_with fail
    refine (of_any n _).mono ?_
    rintro e w7 ⟨rfl, hb7⟩
    have B7 := B6.trans (hb7.mono B6.size)
    have X7 := X6.below hb7
    have W7 := W6.below hb7
    obtain ⟨wl, c0, c1, c2, cf⟩ := id W7
    obtain ⟨xl, d0, d1, d2, df⟩ := id X7
    by_cases hn : 0 ≤ n ∧ n < 1000000000
    · have hv := of_tt hn.1 hn.2
      have HV := Lib.hid (num_of hn.1 hn.2)
      rw [hv]
      have HO := Lib.hid hv
      clear hv
      generalize n / 1000000 = x at *
      generalize n / 1000 % 1000 = y at *
      generalize n % 1000 = z at *
      go_wp2_with fail
      refine (ofr_any n _).mono ?_
      rintro e w8 ⟨rfl, hb8⟩
      rw [HO.out]
      have hsz : (((w7.setCell ⟨w3.heap.size, 0, none⟩ (.int .i64 x)).setCell ⟨w3.heap.size, 1, none⟩ (.int .i64 y)).setCell ⟨w3.heap.size, 2, none⟩ (.int .i64 z)).heap.size = w7.heap.size := by simp [World.setCell]
      have W8 := (W7.set x y z).below hb8
      have X8 := (X7.far w3.heap.size (Ne.symm H34.out) (.int .i64 x) (.int .i64 y) (.int .i64 z)).below hb8
      have B7' := ((B7.setCell (p := ⟨w3.heap.size, 0, none⟩) l34 (.int .i64 x)).setCell (p := ⟨w3.heap.size, 1, none⟩) l34 (.int .i64 y)).setCell (p := ⟨w3.heap.size, 2, none⟩) l34 (.int .i64 z)
      have B8 := B7'.trans (hb8.mono B7'.size)
      clear wl c0 c1 c2 cf xl d0 d1 d2 df hsz
      obtain ⟨wl, c0, c1, c2, cf⟩ := id W8
      obtain ⟨xl, d0, d1, d2, df⟩ := id X8
      have W9 := W8.far w4.heap.size H34.out (.int .i64 x) (.int .i64 y) (.int .i64 z)
      have X9 := X8.set x y z
      have h34 := H34.out
      go_wp2_with fail
      refine (number_any x y z _).mono ?_
      rintro e w9 ⟨rfl, hb9⟩
      rw [HV.out]
      have B8' := ((B8.setCell (p := ⟨w4.heap.size, 0, none⟩) l4 (.int .i64 x)).setCell (p := ⟨w4.heap.size, 1, none⟩) l4 (.int .i64 y)).setCell (p := ⟨w4.heap.size, 2, none⟩) l4 (.int .i64 z)
      have B9 := B8'.trans (hb9.mono B8'.size)
      go_wp2
      go_ret
      exact ⟨rfl, B9⟩
    · have hv := of_ff hn
      rw [hv]
      have HO := Lib.hid hv
      clear hv hn
      go_wp2_with fail
      refine (ofr_any n _).mono ?_
      rintro e w8 ⟨rfl, hb8⟩
      rw [HO.out]
      have W8 := (W7.set 0 0 0).below hb8
      have X8 := (X7.far w3.heap.size (Ne.symm H34.out) (.int .i64 0) (.int .i64 0) (.int .i64 0)).below hb8
      have B7' := ((B7.setCell (p := ⟨w3.heap.size, 0, none⟩) l34 (.int .i64 0)).setCell (p := ⟨w3.heap.size, 1, none⟩) l34 (.int .i64 0)).setCell (p := ⟨w3.heap.size, 2, none⟩) l34 (.int .i64 0)
      have B8 := B7'.trans (hb8.mono B7'.size)
      clear wl c0 c1 c2 cf xl d0 d1 d2 df
      obtain ⟨wl, c0, c1, c2, cf⟩ := id W8
      obtain ⟨xl, d0, d1, d2, df⟩ := id X8
      have h34 := H34.out
      go_wp2
      go_ret
      exact ⟨rfl, ((B8.setCell (p := ⟨w4.heap.size, 0, none⟩) l4 (.int .i64 0)).setCell (p := ⟨w4.heap.size, 1, none⟩) l4 (.int .i64 0)).setCell (p := ⟨w4.heap.size, 2, none⟩) l4 (.int .i64 0)⟩
  · have hO := Lib.hid (of_num_tt hg)
    have HG := Lib.hid hg
    clear hg
    generalize hk : num a b c = k at *
    have HK := Lib.hid hk
    clear hk
    have A0 := C3.new w a b c
    go_enter Tryd.func3, Tryd.ntmps3
    go_wp2_with fail
    refine (alive_any _ (hE.alloc _)).mono ?_
    rintro e w1 ⟨rfl, hb1⟩
    have A1 := A0.below hb1
    have B1 := ((Below.refl w.heap.size w).alloc (Nat.le_refl _) _).trans (hb1.mono (by simp))
    obtain ⟨al, a0, a1, a2, af⟩ := id A1
    go_wp2_with fail
    refine (number_any a b c _).mono ?_
    rintro e w2 ⟨rfl, hb2⟩
    rw [HK.out]
    clear al a0 a1 a2 af
    have B2 := B1.trans (hb2.mono B1.size)
    go_wp2_with fail
    refine (of_any k _).mono ?_
    rintro e w3 ⟨rfl, hb3⟩
    rw [hO.out]
    have B3 := B2.trans (hb3.mono B2.size)
    have W3 := C3.new w3 a b c
    go_wp2_with fail
    refine (ofr_any k _).mono ?_
    rintro e w4 ⟨rfl, hb4⟩
    rw [hO.out]
    have B4 := (B3.alloc B3.size _).trans (hb4.mono (B3.alloc B3.size _).size)
    have X4 := C3.new w4 a b c
    have W4 := (W3.below hb4).old (.cells #[.int .i64 a, .int .i64 b, .int .i64 c] 23)
    have A4 := ((((A1.below hb2).below hb3).old (.cells #[.int .i64 a, .int .i64 b, .int .i64 c] 23)).below hb4).old (.cells #[.int .i64 a, .int .i64 b, .int .i64 c] 23)
    have h34 : w3.heap.size ≠ w4.heap.size := by have := hb4.size; simp at this; omega
    have l34 := B3.size
    obtain ⟨al, a0, a1, a2, af⟩ := id A4
    go_wp2_with fail
    refine (numberr_any a b c _).mono ?_
    rintro e w5 ⟨rfl, hb5⟩
    rw [HK.out]
    have B5 := (B4.alloc B4.size _).trans (hb5.mono (B4.alloc B4.size _).size)
    have X5 := X4.below hb5
    have W5 := W4.below hb5
    have A5 := A4.below hb5
    clear al a0 a1 a2 af
    obtain ⟨al, a0, a1, a2, af⟩ := id A5
    obtain ⟨wl, c0, c1, c2, cf⟩ := id W5
    obtain ⟨xl, d0, d1, d2, df⟩ := id X5
    have l4 := B4.size
    have H34 := Lib.hid h34
    clear h34
    go_wp2_with fail
    refine (good_any a b c _).mono ?_
    rintro e w6 ⟨rfl, hb6⟩
    rw [HG.out]
    have B6 := B5.trans (hb6.mono B5.size)
    have X6 := X5.below hb6
    have W6 := W5.below hb6
    have A6 := A5.below hb6
    clear wl c0 c1 c2 cf xl d0 d1 d2 df al a0 a1 a2 af
    obtain ⟨al, a0, a1, a2, af⟩ := id A6
    obtain ⟨wl, c0, c1, c2, cf⟩ := id W6
    obtain ⟨xl, d0, d1, d2, df⟩ := id X6
    go_wp2_with fail
    refine (of_any n _).mono ?_
    rintro e w7 ⟨rfl, hb7⟩
    have B7 := B6.trans (hb7.mono B6.size)
    have X7 := X6.below hb7
    have W7 := W6.below hb7
    clear wl c0 c1 c2 cf xl d0 d1 d2 df al a0 a1 a2 af
    obtain ⟨wl, c0, c1, c2, cf⟩ := id W7
    obtain ⟨xl, d0, d1, d2, df⟩ := id X7
    by_cases hn : 0 ≤ n ∧ n < 1000000000
    · have hv := of_tt hn.1 hn.2
      have HV := Lib.hid (num_of hn.1 hn.2)
      rw [hv]
      have HO := Lib.hid hv
      clear hv
      generalize n / 1000000 = x at *
      generalize n / 1000 % 1000 = y at *
      generalize n % 1000 = z at *
      go_wp2_with fail
      refine (ofr_any n _).mono ?_
      rintro e w8 ⟨rfl, hb8⟩
      rw [HO.out]
      have hsz : (((w7.setCell ⟨w3.heap.size, 0, none⟩ (.int .i64 x)).setCell ⟨w3.heap.size, 1, none⟩ (.int .i64 y)).setCell ⟨w3.heap.size, 2, none⟩ (.int .i64 z)).heap.size = w7.heap.size := by simp [World.setCell]
      have W8 := (W7.set x y z).below hb8
      have X8 := (X7.far w3.heap.size (Ne.symm H34.out) (.int .i64 x) (.int .i64 y) (.int .i64 z)).below hb8
      have B7' := ((B7.setCell (p := ⟨w3.heap.size, 0, none⟩) l34 (.int .i64 x)).setCell (p := ⟨w3.heap.size, 1, none⟩) l34 (.int .i64 y)).setCell (p := ⟨w3.heap.size, 2, none⟩) l34 (.int .i64 z)
      have B8 := B7'.trans (hb8.mono B7'.size)
      clear wl c0 c1 c2 cf xl d0 d1 d2 df hsz
      obtain ⟨wl, c0, c1, c2, cf⟩ := id W8
      obtain ⟨xl, d0, d1, d2, df⟩ := id X8
      have W9 := W8.far w4.heap.size H34.out (.int .i64 x) (.int .i64 y) (.int .i64 z)
      have X9 := X8.set x y z
      have h34 := H34.out
      go_wp2_with fail
      refine (number_any x y z _).mono ?_
      rintro e w9 ⟨rfl, hb9⟩
      rw [HV.out]
      have B8' := ((B8.setCell (p := ⟨w4.heap.size, 0, none⟩) l4 (.int .i64 x)).setCell (p := ⟨w4.heap.size, 1, none⟩) l4 (.int .i64 y)).setCell (p := ⟨w4.heap.size, 2, none⟩) l4 (.int .i64 z)
      have B9 := B8'.trans (hb9.mono B8'.size)
      go_wp2
      go_ret
      exact ⟨rfl, B9⟩
    · have hv := of_ff hn
      rw [hv]
      have HO := Lib.hid hv
      clear hv hn
      go_wp2_with fail
      refine (ofr_any n _).mono ?_
      rintro e w8 ⟨rfl, hb8⟩
      rw [HO.out]
      have W8 := (W7.set 0 0 0).below hb8
      have X8 := (X7.far w3.heap.size (Ne.symm H34.out) (.int .i64 0) (.int .i64 0) (.int .i64 0)).below hb8
      have B7' := ((B7.setCell (p := ⟨w3.heap.size, 0, none⟩) l34 (.int .i64 0)).setCell (p := ⟨w3.heap.size, 1, none⟩) l34 (.int .i64 0)).setCell (p := ⟨w3.heap.size, 2, none⟩) l34 (.int .i64 0)
      have B8 := B7'.trans (hb8.mono B7'.size)
      clear wl c0 c1 c2 cf xl d0 d1 d2 df
      obtain ⟨wl, c0, c1, c2, cf⟩ := id W8
      obtain ⟨xl, d0, d1, d2, df⟩ := id X8
      have h34 := H34.out
      go_wp2
      go_ret
      exact ⟨rfl, ((B8.setCell (p := ⟨w4.heap.size, 0, none⟩) l4 (.int .i64 0)).setCell (p := ⟨w4.heap.size, 1, none⟩) l4 (.int .i64 0)).setCell (p := ⟨w4.heap.size, 2, none⟩) l4 (.int .i64 0)⟩

end Vs
end Go.Proofs.YtlpdokkimaigfaaDoor
