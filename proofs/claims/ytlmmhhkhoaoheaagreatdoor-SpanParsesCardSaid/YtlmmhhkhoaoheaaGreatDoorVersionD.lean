/-
  version.Compare and its reference, for every two versions.
-/
import Derived.Test.YtlmmhhkhoaoheaaGreatDoorVersionC
namespace Go.Proofs.YtlmmhhkhoaoheaaGreatDoor
open Go.RowKit
namespace Vs
attribute [local go_sem] eqV

def cmpI (x y : Int) : Int := if x < y then -1 else if y < x then 1 else 0
def cmp3 (a b c x y z : Int) : Int := if a = x then (if b = y then cmpI c z else cmpI b y) else cmpI a x
theorem cmp_lib (x y : Int) : Lib.compareInt x y = cmpI x y := by
  rfl
theorem quiet_more {P : Program} {f : FuncId} {args : Array Value} {w : World} {a n : Nat} {v : Value}
    (h : Calls P f args (w.drewN (a + n)) fun e w' => e = .returned v ∧ w' = w.drewN (a + n)) : Calls P f args (w.drewN (a + n)) fun e w'' => e = .returned v ∧ ∃ m, w'' = w.drewN (a + m) :=
  h.mono fun _ _ ⟨he, hm⟩ => ⟨he, n, hm⟩

theorem cmpI_lt {x y : Int} (h : x < y) : cmpI x y = -1 := by simp [cmpI, h]
theorem cmpI_gt {x y : Int} (h : y < x) : cmpI x y = 1 := by simp [cmpI, h]; omega
theorem cmpI_eq (x : Int) : cmpI x x = 0 := by simp [cmpI]

set_option maxHeartbeats 2000000 in
set_option maxRecDepth 100000 in
theorem comparer_any (a b c x y z : Int) (w : World) : Calls Tryz.prog 15 #[V a b c, V x y z] w fun e w' => e = .returned (.int .i64 (cmp3 a b c x y z)) ∧ Below w.heap.size w w' := by
  have hB : Below w.heap.size w ((w.alloc (.cells #[.int .i64 a, .int .i64 b, .int .i64 c] 31)).alloc (.cells #[.int .i64 x, .int .i64 y, .int .i64 z] 31)) := ((Below.refl _ _).alloc (Nat.le_refl _) _).alloc (by simp) _
  by_cases h1 : a = x
  · by_cases h2 : b = y
    · have hr0 : cmp3 a b c x y z = cmpI c z := by simp [cmp3, h1, h2]
      subst h1 h2
      rcases (show c < z ∨ z < c ∨ c = z by omega) with h3 | h3 | h3
      · have hr := Lib.hid (hr0.trans (cmpI_lt h3))
        clear hr0
        go_enter Tryz.func15, Tryz.ntmps15
        go_wp2
        refine wp_loop_rounds 3 ?_
        rw [rounds_succ]
        go_wp2
        go_quiet (fail)
        go_wp2
        rw [rounds_succ]
        go_wp2
        go_quiet (fail)
        go_wp2
        rw [rounds_succ]
        go_wp2
        go_quiet (fail)
        go_wp2
        go_quiet (fail)
        go_wp2
        go_ret
        exact ⟨ret_int hr.out.symm, (by repeat (first | exact hB | refine below_drewN ?_ _))⟩
      · have hr := Lib.hid (hr0.trans (cmpI_gt h3))
        clear hr0
        go_enter Tryz.func15, Tryz.ntmps15
        go_wp2
        refine wp_loop_rounds 3 ?_
        rw [rounds_succ]
        go_wp2
        go_quiet (fail)
        go_wp2
        rw [rounds_succ]
        go_wp2
        go_quiet (fail)
        go_wp2
        rw [rounds_succ]
        go_wp2
        go_quiet (fail)
        go_wp2
        go_quiet (fail)
        go_wp2
        go_quiet (fail)
        go_wp2
        go_ret
        exact ⟨ret_int hr.out.symm, (by repeat (first | exact hB | refine below_drewN ?_ _))⟩
      · subst h3
        have hr := Lib.hid (hr0.trans (cmpI_eq c))
        clear hr0
        go_enter Tryz.func15, Tryz.ntmps15
        go_wp2
        refine wp_loop_rounds 3 ?_
        rw [rounds_succ]
        go_wp2
        go_quiet (fail)
        go_wp2
        rw [rounds_succ]
        go_wp2
        go_quiet (fail)
        go_wp2
        rw [rounds_succ]
        go_wp2
        go_quiet (fail)
        go_wp2
        go_quiet (fail)
        go_wp2
        go_quiet (fail)
        go_wp2
        go_ret
        exact ⟨ret_int hr.out.symm, (by repeat (first | exact hB | refine below_drewN ?_ _))⟩
    · have hr0 : cmp3 a b c x y z = cmpI b y := by simp [cmp3, h1, h2]
      subst h1
      have he : (b == y) = false := by simpa using h2
      rcases (show b < y ∨ y < b by omega) with h3 | h3
      · have hr := Lib.hid (hr0.trans (cmpI_lt h3))
        clear hr0 h2
        go_enter Tryz.func15, Tryz.ntmps15
        go_wp2
        refine wp_loop_rounds 2 ?_
        rw [rounds_succ]
        go_wp2
        go_quiet (fail)
        go_wp2
        rw [rounds_succ]
        go_wp2
        go_quiet (fail)
        go_wp2
        go_quiet (fail)
        go_wp2
        go_ret
        exact ⟨ret_int hr.out.symm, (by repeat (first | exact hB | refine below_drewN ?_ _))⟩
      · have hr := Lib.hid (hr0.trans (cmpI_gt h3))
        clear hr0 h2
        go_enter Tryz.func15, Tryz.ntmps15
        go_wp2
        refine wp_loop_rounds 2 ?_
        rw [rounds_succ]
        go_wp2
        go_quiet (fail)
        go_wp2
        rw [rounds_succ]
        go_wp2
        go_quiet (fail)
        go_wp2
        go_quiet (fail)
        go_wp2
        go_quiet (fail)
        go_wp2
        go_ret
        exact ⟨ret_int hr.out.symm, (by repeat (first | exact hB | refine below_drewN ?_ _))⟩
  · have hr0 : cmp3 a b c x y z = cmpI a x := by simp [cmp3, h1]
    have he : (a == x) = false := by simpa using h1
    rcases (show a < x ∨ x < a by omega) with h3 | h3
    · have hr := Lib.hid (hr0.trans (cmpI_lt h3))
      clear hr0 h1
      go_enter Tryz.func15, Tryz.ntmps15
      go_wp2
      refine wp_loop_rounds 1 ?_
      rw [rounds_succ]
      go_wp2
      go_quiet (fail)
      go_wp2
      go_quiet (fail)
      go_wp2
      go_ret
      exact ⟨ret_int hr.out.symm, (by repeat (first | exact hB | refine below_drewN ?_ _))⟩
    · have hr := Lib.hid (hr0.trans (cmpI_gt h3))
      clear hr0 h1
      go_enter Tryz.func15, Tryz.ntmps15
      go_wp2
      refine wp_loop_rounds 1 ?_
      rw [rounds_succ]
      go_wp2
      go_quiet (fail)
      go_wp2
      go_quiet (fail)
      go_wp2
      go_quiet (fail)
      go_wp2
      go_ret
      exact ⟨ret_int hr.out.symm, (by repeat (first | exact hB | refine below_drewN ?_ _))⟩

theorem cmpI_neg (a x : Int) : cmpI x a = -(cmpI a x) := by unfold cmpI; split <;> split <;> (try split) <;> omega
theorem cmpI_zero (a x : Int) : cmpI a x = 0 ↔ a = x := by unfold cmpI; split <;> (try split) <;> constructor <;> omega
theorem cmpI_bd (a x : Int) : -1 ≤ cmpI a x ∧ cmpI a x ≤ 1 := by unfold cmpI; split <;> (try split) <;> omega
theorem cmp3_neg (a b c x y z : Int) : cmp3 x y z a b c = -(cmp3 a b c x y z) := by
  unfold cmp3
  by_cases h1 : a = x
  · rw [if_pos h1, if_pos h1.symm]
    by_cases h2 : b = y
    · rw [if_pos h2, if_pos h2.symm]; exact cmpI_neg _ _
    · rw [if_neg h2, if_neg (fun e => h2 e.symm)]; exact cmpI_neg _ _
  · rw [if_neg h1, if_neg (fun e => h1 e.symm)]; exact cmpI_neg _ _
theorem cmp3_bd (a b c x y z : Int) : -1 ≤ cmp3 a b c x y z ∧ cmp3 a b c x y z ≤ 1 := by
  unfold cmp3; split <;> (try split) <;> exact cmpI_bd _ _
theorem cmp3_zero (a b c x y z : Int) : (cmp3 a b c x y z == 0) = (a == x && (b == y && c == z)) := by
  rw [Bool.eq_iff_iff]
  simp only [beq_iff_eq, Bool.and_eq_true]
  unfold cmp3
  by_cases h1 : a = x
  · rw [if_pos h1]
    by_cases h2 : b = y
    · rw [if_pos h2, cmpI_zero]; simp [h1, h2]
    · rw [if_neg h2, cmpI_zero]; simp [h2]
  · rw [if_neg h1, cmpI_zero]; simp [h1]
theorem cmp3_num {a b c x y z : Int} (h : goodB a b c = true) (k : goodB x y z = true) : cmp3 a b c x y z = cmpI (num a b c) (num x y z) := by
  obtain ⟨a0, a1, b0, b1, c0, c1⟩ := of_good h
  obtain ⟨x0, x1, y0, y1, z0, z1⟩ := of_good k
  simp only [num, h, k, if_true]
  unfold cmp3 cmpI
  split
  · split
    · split <;> split <;> (try split) <;> (try split) <;> omega
    · split <;> split <;> (try split) <;> (try split) <;> omega
  · split <;> split <;> (try split) <;> (try split) <;> omega

theorem keep_cell {W W' : World} {p : Addr} {v : Value} (hb : Below W.heap.size W W') (h : W.cell? p = some v) : W'.cell? p = some v :=
  (hb.cell (World.block_lt_of_cell? W p h)).trans h
theorem keep_below {W0 W W' : World} (h : Below W0.heap.size W0 W) (hb : Below W.heap.size W W') : Below W0.heap.size W0 W' := h.trans (hb.mono h.size)

theorem size_alloc (w : World) (o : Obj) : (w.alloc o).heap.size = w.heap.size + 1 := by simp

end Vs
end Go.Proofs.YtlmmhhkhoaoheaaGreatDoor
