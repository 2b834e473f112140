/-
  Walks of the version package and of its reference: Good, Number, Of (both texts). No condition on the arguments.
-/
import Derived.Test.YtbhngjhfeejeiaaDoorRows
import Derived.WalkKit
import Derived.WalkLawsBesides
import Derived.WalkSpells
import Derived.Lib.Hide
import Derived.Deep.QuietTactic
import Derived.BigQuiet
import Derived.RegionTactic
namespace Go.Proofs.YtbhngjhfeejeiaaDoor
open Go.RowKit
namespace Vs

def goodB (a b c : Int) : Bool := decide (0 ≤ a ∧ a ≤ 999) && decide (0 ≤ b ∧ b ≤ 999) && decide (0 ≤ c ∧ c ≤ 999)
theorem good_tt {a b c : Int} (ha : 0 ≤ a ∧ a ≤ 999) (hb : 0 ≤ b ∧ b ≤ 999) (hc : 0 ≤ c ∧ c ≤ 999) : goodB a b c = true := by simp [goodB, ha, hb, hc]
theorem good_ff {a b c : Int} (h : ¬ (0 ≤ a ∧ a ≤ 999) ∨ ¬ (0 ≤ b ∧ b ≤ 999) ∨ ¬ (0 ≤ c ∧ c ≤ 999)) : goodB a b c = false := by
  simp only [goodB, Bool.and_eq_false_iff, decide_eq_false_iff_not]; omega
theorem of_good {a b c : Int} (h : goodB a b c = true) : 0 ≤ a ∧ a ≤ 999 ∧ 0 ≤ b ∧ b ≤ 999 ∧ 0 ≤ c ∧ c ≤ 999 := by
  simp only [goodB, Bool.and_eq_true, decide_eq_true_eq] at h; omega
abbrev V (a b c : Int) : Value := .agg #[.int .i64 a, .int .i64 b, .int .i64 c]
theorem ret_int {k : IntKind} {a b : Int} (h : a = b) : Ending.returned (.int k a) = .returned (.int k b) := by rw [h]
theorem ret_bool {a b : Bool} (h : a = b) : Ending.returned (.bool a) = .returned (.bool b) := by rw [h]

set_option maxHeartbeats 400000 in
theorem good_any (a b c : Int) (w : World) : Calls Tryd.prog 29 #[V a b c] w fun e w' => e = .returned (.bool (goodB a b c)) ∧ Below w.heap.size w w' := by
  have i0 : ∀ w : World, (Instr.index 23 (V a b c) (.int .i64 0)).run Tryd.prog w = .ok (.int .i64 a) w := fun _ => by kernel_rfl
  have i1 : ∀ w : World, (Instr.index 23 (V a b c) (.int .i64 1)).run Tryd.prog w = .ok (.int .i64 b) w := fun _ => by kernel_rfl
  have i2 : ∀ w : World, (Instr.index 23 (V a b c) (.int .i64 2)).run Tryd.prog w = .ok (.int .i64 c) w := fun _ => by kernel_rfl
  go_enter Tryd.func29, Tryd.ntmps29
  go_wp2
  go_loop [4, 6] (fun _ i => ∃ k : Nat, k ≤ 3 ∧ i = .int .i64 k ∧ (1 ≤ k → 0 ≤ a ∧ a ≤ 999) ∧ (2 ≤ k → 0 ≤ b ∧ b ≤ 999) ∧ (3 ≤ k → 0 ≤ c ∧ c ≤ 999)) (fun _ i => 3 - (intOf i).toNat)
  case atStart => exact ⟨0, Nat.zero_le _, rfl, by omega, by omega, by omega⟩
  case round =>
    obtain ⟨k, hk, rfl, h0, h1, h2⟩ := hrel
    have hk5 : k = 0 ∨ k = 1 ∨ k = 2 ∨ k = 3 := by omega
    rcases hk5 with rfl | rfl | rfl | rfl
    · by_cases x0 : 0 ≤ a
      · by_cases x1 : a ≤ 999
        · clear h0 h1 h2
          go_wp2
          go_round
          case rel => exact ⟨1, by omega, rfl, by omega, by omega, by omega⟩
          case measure => simp [intOf]
        · have hg := Lib.hid (good_ff (a := a) (b := b) (c := c) (by omega))
          clear h0 h1 h2
          go_wp2
          go_ret
          exact ⟨ret_bool hg.out.symm, (Below.refl _ _).alloc (Nat.le_refl _) _⟩
      · have hg := Lib.hid (good_ff (a := a) (b := b) (c := c) (by omega))
        clear h0 h1 h2
        go_wp2
        go_ret
        exact ⟨ret_bool hg.out.symm, (Below.refl _ _).alloc (Nat.le_refl _) _⟩
    · by_cases x0 : 0 ≤ b
      · by_cases x1 : b ≤ 999
        · have h0' := h0 (by omega)
          clear h0 h1 h2
          go_wp2
          go_round
          case rel => exact ⟨2, by omega, rfl, by omega, by omega, by omega⟩
          case measure => simp [intOf]
        · have hg := Lib.hid (good_ff (a := a) (b := b) (c := c) (by omega))
          clear h0 h1 h2
          go_wp2
          go_ret
          exact ⟨ret_bool hg.out.symm, (Below.refl _ _).alloc (Nat.le_refl _) _⟩
      · have hg := Lib.hid (good_ff (a := a) (b := b) (c := c) (by omega))
        clear h0 h1 h2
        go_wp2
        go_ret
        exact ⟨ret_bool hg.out.symm, (Below.refl _ _).alloc (Nat.le_refl _) _⟩
    · by_cases x0 : 0 ≤ c
      · by_cases x1 : c ≤ 999
        · have h0' := h0 (by omega)
          have h1' := h1 (by omega)
          clear h0 h1 h2
          go_wp2
          go_round
          case rel => exact ⟨3, by omega, rfl, by omega, by omega, by omega⟩
          case measure => simp [intOf]
        · have hg := Lib.hid (good_ff (a := a) (b := b) (c := c) (by omega))
          clear h0 h1 h2
          go_wp2
          go_ret
          exact ⟨ret_bool hg.out.symm, (Below.refl _ _).alloc (Nat.le_refl _) _⟩
      · have hg := Lib.hid (good_ff (a := a) (b := b) (c := c) (by omega))
        clear h0 h1 h2
        go_wp2
        go_ret
        exact ⟨ret_bool hg.out.symm, (Below.refl _ _).alloc (Nat.le_refl _) _⟩
    · have hg := Lib.hid (good_tt (h0 (by omega)) (h1 (by omega)) (h2 (by omega)))
      clear h0 h1 h2
      go_wp2
      go_ret
      exact ⟨ret_bool hg.out.symm, (Below.refl _ _).alloc (Nat.le_refl _) _⟩

set_option maxHeartbeats 400000 in
theorem goodr_any (a b c : Int) (w : World) : Calls Tryd.prog 50 #[V a b c] w fun e w' => e = .returned (.bool (goodB a b c)) ∧ Below w.heap.size w w' := by
  by_cases a0 : 0 ≤ a
  · by_cases a1 : a ≤ 999
    · by_cases b0 : 0 ≤ b
      · by_cases b1 : b ≤ 999
        · by_cases c0 : 0 ≤ c
          · by_cases c1 : c ≤ 999
            · have hg := Lib.hid (good_tt (a := a) (b := b) (c := c) (by omega) (by omega) (by omega))
              go_enter Tryd.func50, Tryd.ntmps50
              go_wp2
              go_ret
              exact ⟨ret_bool hg.out.symm, (Below.refl _ _).alloc (Nat.le_refl _) _⟩
            · have hg := Lib.hid (good_ff (a := a) (b := b) (c := c) (by omega))
              go_enter Tryd.func50, Tryd.ntmps50
              go_wp2
              go_ret
              exact ⟨ret_bool hg.out.symm, (Below.refl _ _).alloc (Nat.le_refl _) _⟩
          · have hg := Lib.hid (good_ff (a := a) (b := b) (c := c) (by omega))
            go_enter Tryd.func50, Tryd.ntmps50
            go_wp2
            go_ret
            exact ⟨ret_bool hg.out.symm, (Below.refl _ _).alloc (Nat.le_refl _) _⟩
        · have hg := Lib.hid (good_ff (a := a) (b := b) (c := c) (by omega))
          go_enter Tryd.func50, Tryd.ntmps50
          go_wp2
          go_ret
          exact ⟨ret_bool hg.out.symm, (Below.refl _ _).alloc (Nat.le_refl _) _⟩
      · have hg := Lib.hid (good_ff (a := a) (b := b) (c := c) (by omega))
        go_enter Tryd.func50, Tryd.ntmps50
        go_wp2
        go_ret
        exact ⟨ret_bool hg.out.symm, (Below.refl _ _).alloc (Nat.le_refl _) _⟩
    · have hg := Lib.hid (good_ff (a := a) (b := b) (c := c) (by omega))
      go_enter Tryd.func50, Tryd.ntmps50
      go_wp2
      go_ret
      exact ⟨ret_bool hg.out.symm, (Below.refl _ _).alloc (Nat.le_refl _) _⟩
  · have hg := Lib.hid (good_ff (a := a) (b := b) (c := c) (by omega))
    go_enter Tryd.func50, Tryd.ntmps50
    go_wp2
    go_ret
    exact ⟨ret_bool hg.out.symm, (Below.refl _ _).alloc (Nat.le_refl _) _⟩

theorem bcell {W w1 : World} (hb : Below W.heap.size W w1) : (∀ b o, b < W.heap.size → w1.cell? ⟨b, o, none⟩ = W.cell? ⟨b, o, none⟩) ∧ (∀ b o, b < W.heap.size → w1.frozen? ⟨b, o, none⟩ = W.frozen? ⟨b, o, none⟩) :=
  ⟨fun b o h => hb.cell (p := ⟨b, o, none⟩) h, fun b o h => hb.frozen (p := ⟨b, o, none⟩) h⟩

/-- block b holds a version -/
structure C3 (W : World) (b : Nat) (x y z : Int) : Prop where
  lt : b < W.heap.size
  c0 : W.cell? ⟨b, 0, none⟩ = some (.int .i64 x)
  c1 : W.cell? ⟨b, 1, none⟩ = some (.int .i64 y)
  c2 : W.cell? ⟨b, 2, none⟩ = some (.int .i64 z)
  fz : ∀ j, W.frozen? ⟨b, j, none⟩ = false
theorem C3.below {W W' : World} {b : Nat} {x y z : Int} (h : C3 W b x y z) (hb : Below W.heap.size W W') : C3 W' b x y z := by
  obtain ⟨hc, hf⟩ := bcell hb
  exact ⟨Nat.lt_of_lt_of_le h.lt hb.size, (hc _ _ h.lt).trans h.c0, (hc _ _ h.lt).trans h.c1, (hc _ _ h.lt).trans h.c2, fun j => (hf _ _ h.lt).trans (h.fz j)⟩
theorem C3.new (W : World) (x y z : Int) : C3 (W.alloc (.cells #[.int .i64 x, .int .i64 y, .int .i64 z] 23)) W.heap.size x y z := by
  refine ⟨by simp, ?_, ?_, ?_, ?_⟩
  all_goals first | go_simp | (intro j; go_simp)
theorem C3.old {W : World} {b : Nat} {x y z : Int} (h : C3 W b x y z) (o : Obj) : C3 (W.alloc o) b x y z := h.below ((Below.refl _ _).alloc (Nat.le_refl _) o)
theorem C3.set {W : World} {b : Nat} {x y z : Int} (h : C3 W b x y z) (x' y' z' : Int) : C3 (((W.setCell ⟨b, 0, none⟩ (.int .i64 x')).setCell ⟨b, 1, none⟩ (.int .i64 y')).setCell ⟨b, 2, none⟩ (.int .i64 z')) b x' y' z' := by
  obtain ⟨h1, h2, h3, h4, h5⟩ := h
  refine ⟨by simpa [World.setCell] using h1, ?_, ?_, ?_, fun j => by simp only [World.frozen?_setCell]; exact h5 j⟩
  · rw [World.cell?_setCell_other _ _ _ _ (by simp), World.cell?_setCell_other _ _ _ _ (by simp)]; exact World.cell?_setCell_same _ _ _ h2
  · rw [World.cell?_setCell_other _ _ _ _ (by simp)]; exact World.cell?_setCell_same _ _ _ ((World.cell?_setCell_other _ _ _ _ (by simp)).trans h3)
  · exact World.cell?_setCell_same _ _ _ ((World.cell?_setCell_other _ _ _ _ (by simp)).trans ((World.cell?_setCell_other _ _ _ _ (by simp)).trans h4))
theorem C3.far {W : World} {b : Nat} {x y z : Int} (h : C3 W b x y z) (q : Nat) (hq : b ≠ q) (x' y' z' : Value) : C3 (((W.setCell ⟨q, 0, none⟩ x').setCell ⟨q, 1, none⟩ y').setCell ⟨q, 2, none⟩ z') b x y z := by
  obtain ⟨h1, h2, h3, h4, h5⟩ := h
  refine ⟨by simpa [World.setCell] using h1, ?_, ?_, ?_, fun j => by simp only [World.frozen?_setCell]; exact h5 j⟩
  all_goals
    rw [World.cell?_setCell_other _ _ _ _ (by intro e; apply hq; simpa using (congrArg Addr.block e).symm), World.cell?_setCell_other _ _ _ _ (by intro e; apply hq; simpa using (congrArg Addr.block e).symm), World.cell?_setCell_other _ _ _ _ (by intro e; apply hq; simpa using (congrArg Addr.block e).symm)]
    assumption

end Vs
end Go.Proofs.YtbhngjhfeejeiaaDoor
