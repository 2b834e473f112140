/-
  VersionStands answers true for every two versions.
-/
import Derived.Test.YtlpdokkimaigfaaDoorVersionD
import Derived.Deep.RegionHeld3
namespace Go.Proofs.YtlpdokkimaigfaaDoor
open Go.RowKit
namespace Vs
attribute [local go_sem] eqV

set_option maxHeartbeats 2000000 in
set_option maxRecDepth 100000 in
theorem stands_any (a b c x y z : Int) (w : World) (hE : Env w) : Calls Tryd.prog 4 #[V a b c, V x y z] w fun e w' => e = .returned (.bool true) ∧ Below w.heap.size w w' := by
  have hng := Lib.hid (cmp3_neg a b c x y z)
  obtain ⟨hb0, hb1⟩ := cmp3_bd a b c x y z
  have hz := cmp3_zero a b c x y z
  have hnum := Lib.hid (@cmp3_num a b c x y z)
  generalize hk : cmp3 a b c x y z = k at *
  generalize hk2 : cmp3 x y z a b c = k2 at *
  obtain rfl : k2 = -k := hng.out
  have HK := Lib.hid hk
  have HK2 := Lib.hid hk2
  have HZ := Lib.hid hz
  clear hk hk2 hz hng
  have A0 := (C3.new w a b c).old (.cells #[.int .i64 x, .int .i64 y, .int .i64 z] 23)
  have X0 := C3.new (w.alloc (.cells #[.int .i64 a, .int .i64 b, .int .i64 c] 23)) x y z
  have hB0 : Below w.heap.size w ((w.alloc (.cells #[.int .i64 a, .int .i64 b, .int .i64 c] 23)).alloc (.cells #[.int .i64 x, .int .i64 y, .int .i64 z] 23)) := ((Below.refl _ _).alloc (Nat.le_refl _) _).alloc (by simp) _
  have hE0 := (hE.alloc (.cells #[.int .i64 a, .int .i64 b, .int .i64 c] 23)).alloc (.cells #[.int .i64 x, .int .i64 y, .int .i64 z] 23)
  go_enter Tryd.func4, Tryd.ntmps4
  go_wp2_with fail
  refine (alive_any _ hE0).mono ?_
  rintro e w1 ⟨rfl, hq1⟩
  have A1 := A0.below hq1
  have X1 := X0.below hq1
  have B1 := keep_below hB0 hq1
  clear A0 X0
  rw [size_alloc] at X1
  obtain ⟨al, a0, a1, a2, af⟩ := id A1
  obtain ⟨xl, x0, x1, x2, xf⟩ := id X1
  go_wp2_with fail
  refine (compare_any a b c x y z _).mono ?_
  rintro e w2 ⟨rfl, hq2⟩
  rw [HK.out]
  have A2 := A1.below hq2
  have X2 := X1.below hq2
  have B2 := keep_below B1 hq2
  clear al a0 a1 a2 af xl x0 x1 x2 xf
  obtain ⟨al, a0, a1, a2, af⟩ := id A2
  obtain ⟨xl, x0, x1, x2, xf⟩ := id X2
  go_wp2_with fail
  refine (comparer_any a b c x y z _).mono ?_
  rintro e w3 ⟨rfl, hq3⟩
  rw [HK.out]
  have A3 := A2.below hq3
  have X3 := X2.below hq3
  have B3 := keep_below B2 hq3
  clear al a0 a1 a2 af xl x0 x1 x2 xf
  obtain ⟨al, a0, a1, a2, af⟩ := id A3
  obtain ⟨xl, x0, x1, x2, xf⟩ := id X3
  go_wp2_with fail
  refine (compare_any x y z a b c _).mono ?_
  rintro e w4 ⟨rfl, hq4⟩
  rw [HK2.out]
  have A4 := A3.below hq4
  have X4 := X3.below hq4
  have B4 := keep_below B3 hq4
  clear al a0 a1 a2 af xl x0 x1 x2 xf
  obtain ⟨al, a0, a1, a2, af⟩ := id A4
  obtain ⟨xl, x0, x1, x2, xf⟩ := id X4
  have hz := HZ.out
  go_wp2_with fail
  refine (good_any a b c _).mono ?_
  rintro e w5 ⟨rfl, hq5⟩
  clear hz
  have A5 := A4.below hq5
  have X5 := X4.below hq5
  have B5 := keep_below B4 hq5
  clear al a0 a1 a2 af xl x0 x1 x2 xf
  cases hg : goodB a b c
  · have HG := Lib.hid hg
    clear hg
    go_wp2
    go_ret
    exact ⟨rfl, B5⟩
  · have HG := Lib.hid hg
    clear hg
    obtain ⟨al, a0, a1, a2, af⟩ := id A5
    obtain ⟨xl, x0, x1, x2, xf⟩ := id X5
    go_wp2_with fail
    refine (good_any x y z _).mono ?_
    rintro e w6 ⟨rfl, hq6⟩
    have A6 := A5.below hq6
    have X6 := X5.below hq6
    have B6 := keep_below B5 hq6
    clear al a0 a1 a2 af xl x0 x1 x2 xf
    cases hg2 : goodB x y z
    · have HG2 := Lib.hid hg2
      clear hg2
      go_wp2
      go_ret
      exact ⟨rfl, B6⟩
    · have HG2 := Lib.hid hg2
      clear hg2
      obtain ⟨al, a0, a1, a2, af⟩ := id A6
      obtain ⟨xl, x0, x1, x2, xf⟩ := id X6
      have hk := hnum.out HG.out HG2.out
      rcases (show num a b c < num x y z ∨ num x y z < num a b c ∨ num a b c = num x y z by omega) with hm | hm | hm
      · obtain rfl : k = -1 := hk.trans (cmpI_lt hm)
        have HKK := Lib.hid hk
        clear hk
        have hd1 : decide (num a b c < num x y z) = true := by simp; omega
        have hd2 : decide (num x y z < num a b c) = false := by simp; omega
        go_wp2_with fail
        go_region_held3 (fun w' => w'.cell? ⟨w.heap.size, 0, none⟩ = some (.int .i64 a) ∧ w'.cell? ⟨w.heap.size, 1, none⟩ = some (.int .i64 b) ∧ w'.cell? ⟨w.heap.size, 2, none⟩ = some (.int .i64 c) ∧ w'.cell? ⟨w.heap.size + 1, 0, none⟩ = some (.int .i64 x) ∧ w'.cell? ⟨w.heap.size + 1, 1, none⟩ = some (.int .i64 y) ∧ w'.cell? ⟨w.heap.size + 1, 2, none⟩ = some (.int .i64 z) ∧ Below w.heap.size w w')
          (((try go_split_ands); (try dsimp only); (repeat' apply And.intro) <;> (first | exact keep_cell hb (by assumption) | exact keep_below (by assumption) hb | exact Below.drew (by assumption) | go_keep)))
          (first | (go_at_call 8; refine (number_any _ _ _ _).mono ?_; rintro e w' ⟨rfl, hb⟩))
        all_goals
          go_wp2
          go_ret
          exact ⟨rfl, by first | assumption | (go_split_ands; assumption)⟩
      · obtain rfl : k = 1 := hk.trans (cmpI_gt hm)
        have HKK := Lib.hid hk
        clear hk
        have hd1 : decide (num a b c < num x y z) = false := by simp; omega
        have hd2 : decide (num x y z < num a b c) = true := by simp; omega
        go_wp2_with fail
        go_region_held3 (fun w' => w'.cell? ⟨w.heap.size, 0, none⟩ = some (.int .i64 a) ∧ w'.cell? ⟨w.heap.size, 1, none⟩ = some (.int .i64 b) ∧ w'.cell? ⟨w.heap.size, 2, none⟩ = some (.int .i64 c) ∧ w'.cell? ⟨w.heap.size + 1, 0, none⟩ = some (.int .i64 x) ∧ w'.cell? ⟨w.heap.size + 1, 1, none⟩ = some (.int .i64 y) ∧ w'.cell? ⟨w.heap.size + 1, 2, none⟩ = some (.int .i64 z) ∧ Below w.heap.size w w')
          (((try go_split_ands); (try dsimp only); (repeat' apply And.intro) <;> (first | exact keep_cell hb (by assumption) | exact keep_below (by assumption) hb | exact Below.drew (by assumption) | go_keep)))
          (first | (go_at_call 8; refine (number_any _ _ _ _).mono ?_; rintro e w' ⟨rfl, hb⟩))
        all_goals
          go_wp2
          go_ret
          exact ⟨rfl, by first | assumption | (go_split_ands; assumption)⟩
      · obtain rfl : k = 0 := hk.trans (by rw [hm]; exact cmpI_eq _)
        have HKK := Lib.hid hk
        clear hk
        have hd1 : decide (num a b c < num x y z) = false := by simp; omega
        have hd2 : decide (num x y z < num a b c) = false := by simp; omega
        have hm := Lib.hid hm
        go_wp2_with fail
        go_region_held3 (fun w' => w'.cell? ⟨w.heap.size, 0, none⟩ = some (.int .i64 a) ∧ w'.cell? ⟨w.heap.size, 1, none⟩ = some (.int .i64 b) ∧ w'.cell? ⟨w.heap.size, 2, none⟩ = some (.int .i64 c) ∧ w'.cell? ⟨w.heap.size + 1, 0, none⟩ = some (.int .i64 x) ∧ w'.cell? ⟨w.heap.size + 1, 1, none⟩ = some (.int .i64 y) ∧ w'.cell? ⟨w.heap.size + 1, 2, none⟩ = some (.int .i64 z) ∧ Below w.heap.size w w')
          (((try go_split_ands); (try dsimp only); (repeat' apply And.intro) <;> (first | exact keep_cell hb (by assumption) | exact keep_below (by assumption) hb | exact Below.drew (by assumption) | go_keep)))
          (first | (go_at_call 8; refine (number_any _ _ _ _).mono ?_; rintro e w' ⟨rfl, hb⟩))
        all_goals
          go_wp2
          go_ret
          exact ⟨rfl, by first | assumption | (go_split_ands; assumption)⟩

end Vs
end Go.Proofs.YtlpdokkimaigfaaDoor
