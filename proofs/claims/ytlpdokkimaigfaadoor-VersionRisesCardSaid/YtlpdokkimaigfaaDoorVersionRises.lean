/-
  VersionRises answers true for every number.
-/
import Derived.Test.YtlpdokkimaigfaaDoorVersionQ
namespace Go.Proofs.YtlpdokkimaigfaaDoor
open Go.RowKit
namespace Vs
attribute [local go_sem] eqV

theorem text_ne {a b c x y z : Int} (h : goodB a b c = true) (k : goodB x y z = true) (hn : ¬ (a = x ∧ b = y ∧ c = z)) : (textL a b c == textL x y z) = false := by
  rw [beq_eq_false_iff_ne]
  intro e
  have h1 := parse_text h
  rw [e, parse_text k] at h1
  simp only [Option.some.injEq, Prod.mk.injEq] at h1
  exact hn ⟨h1.1.symm, h1.2.1.symm, h1.2.2.symm⟩
theorem good_of {n : Int} (h0 : 0 ≤ n) (h1 : n < 1000000000) : goodB (n / 1000000) (n / 1000 % 1000) (n % 1000) = true := good_tt (by omega) (by omega) (by omega)

set_option maxHeartbeats 2000000 in
set_option maxRecDepth 100000 in
theorem rises_any (n : Int) (w : World) (hE : Env w) : Calls Tryd.prog 6 #[.int .i64 n] w fun e w' => e = .returned (.bool true) ∧ Below w.heap.size w w' := by
  by_cases h0 : 0 ≤ n
  · by_cases h1 : n < 999999999
    · have g0 := good_of h0 (show n < 1000000000 by omega)
      have g1 := good_of (show 0 ≤ n + 1 by omega) (show n + 1 < 1000000000 by omega)
      have n0 := num_of h0 (show n < 1000000000 by omega)
      have n1 := num_of (show 0 ≤ n + 1 by omega) (show n + 1 < 1000000000 by omega)
      have hc := cmp3_num g0 g1
      rw [n0, n1, cmpI_lt (show n < n + 1 by omega)] at hc
      have ht := text_ne g0 g1 (by rintro ⟨e1, e2, e3⟩; omega)
      have v0 := of_tt h0 (show n < 1000000000 by omega)
      have v1 := of_tt (show 0 ≤ n + 1 by omega) (show n + 1 < 1000000000 by omega)
      generalize n / 1000000 = a at *
      generalize n / 1000 % 1000 = b at *
      generalize n % 1000 = c at *
      generalize (n + 1) / 1000000 = x at *
      generalize (n + 1) / 1000 % 1000 = y at *
      generalize (n + 1) % 1000 = z at *
      have V0 := Lib.hid v0
      have V1 := Lib.hid v1
      have HC := Lib.hid hc
      have HT := Lib.hid ht
      have N1 := Lib.hid n1
      clear g0 g1 n0 v0 v1 hc ht n1
      have hB0 : Below w.heap.size w w := Below.refl _ _
      go_enter Tryd.func6, Tryd.ntmps6
      go_wp2_with fail
      refine (alive_any _ hE).mono ?_
      rintro e w1 ⟨rfl, hb1⟩
      go_wp2_with fail
      refine (of_any n _).mono ?_
      rintro e w2 ⟨rfl, hb2⟩
      rw [V0.out]
      have B2 := keep_below hb1 hb2
      have A2 := C3.new w2 a b c
      go_wp2_with fail
      refine (of_any (n + 1) _).mono ?_
      rintro e w3 ⟨rfl, hb3⟩
      rw [V1.out]
      have B3 := (keep_below (B2.alloc B2.size (.cells #[.int .i64 a, .int .i64 b, .int .i64 c] 23)) hb3)
      have B3' := B3.alloc B3.size (.cells #[.int .i64 x, .int .i64 y, .int .i64 z] 23)
      have X3 := C3.new w3 x y z
      have A3 := (A2.below hb3).old (.cells #[.int .i64 x, .int .i64 y, .int .i64 z] 23)
      obtain ⟨al, a0, a1, a2, af⟩ := id A3
      obtain ⟨xl, x0, x1, x2, xf⟩ := id X3
      clear hb1 hb2 hb3 A2
      go_wp2_with fail
      have hc := HC.out
      have ht := HT.out
      have n1 := N1.out
      have hw : IntKind.i64.wrap (n + 1) = n + 1 := IntWalk.i64_in _ (by omega)
      go_region_held3 (fun w' => w'.cell? ⟨w2.heap.size, 0, none⟩ = some (.int .i64 a) ∧ w'.cell? ⟨w2.heap.size, 1, none⟩ = some (.int .i64 b) ∧ w'.cell? ⟨w2.heap.size, 2, none⟩ = some (.int .i64 c) ∧ w'.cell? ⟨w3.heap.size, 0, none⟩ = some (.int .i64 x) ∧ w'.cell? ⟨w3.heap.size, 1, none⟩ = some (.int .i64 y) ∧ w'.cell? ⟨w3.heap.size, 2, none⟩ = some (.int .i64 z) ∧ Below w.heap.size w w')
        (((try go_split_ands); (try dsimp only); (repeat' apply And.intro) <;> (first | exact keep_cell hb (by assumption) | exact keep_below (by assumption) hb | exact Below.drew (by assumption) | go_keep)))
        (first
          | (go_at_call 13; refine (compare_any _ _ _ _ _ _ _).mono ?_; rintro e w' ⟨rfl, hb⟩)
          | (go_at_call 8; refine (number_any _ _ _ _).mono ?_; rintro e w' ⟨rfl, hb⟩)
          | (go_at_call 15; go_split_ands; refine (text_any _ _ _ _ (hE.below (Nat.le_refl _) (by assumption))).mono ?_; rintro e w' ⟨rfl, hb⟩))
      go_wp2
      go_ret
      exact ⟨rfl, by first | assumption | (go_split_ands; assumption)⟩
    · go_enter Tryd.func6, Tryd.ntmps6
      go_wp2_with fail
      refine (alive_any _ hE).mono ?_
      rintro e w1 ⟨rfl, hb1⟩
      go_wp2
      go_ret
      exact ⟨rfl, hb1⟩
  · go_enter Tryd.func6, Tryd.ntmps6
    go_wp2_with fail
    refine (alive_any _ hE).mono ?_
    rintro e w1 ⟨rfl, hb1⟩
    go_wp2
    go_ret
    exact ⟨rfl, hb1⟩

end Vs
end Go.Proofs.YtlpdokkimaigfaaDoor
