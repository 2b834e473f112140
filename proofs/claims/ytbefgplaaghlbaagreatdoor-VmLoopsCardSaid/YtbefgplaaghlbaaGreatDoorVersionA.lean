/-
  Walks of the version package and of its reference: Good, Number, Of (both texts). No condition on the arguments.
-/
import Derived.Test.YtbefgplaaghlbaaGreatDoorRows
import Derived.WalkKit
import Derived.WalkLawsBesides
import Derived.WalkSpells
import Derived.Lib.Hide
import Derived.Deep.QuietTactic
import Derived.BigQuiet
import Derived.RegionTactic
namespace Go.Proofs.YtbefgplaaghlbaaGreatDoor
open Go.RowKit
namespace Vs

def goodB (a b c : Int) : Bool := decide (0 ≤ a ∧ a ≤ 999) && decide (0 ≤ b ∧ b ≤ 999) && decide (0 ≤ c ∧ c ≤ 999)
theorem good_tt {a b c : Int} (ha : 0 ≤ a ∧ a ≤ 999) (hb : 0 ≤ b ∧ b ≤ 999) (hc : 0 ≤ c ∧ c ≤ 999) : goodB a b c = true := by simp [goodB, ha, hb, hc]
theorem good_ff {a b c : Int} (h : ¬ (0 ≤ a ∧ a ≤ 999) ∨ ¬ (0 ≤ b ∧ b ≤ 999) ∨ ¬ (0 ≤ c ∧ c ≤ 999)) : goodB a b c = false := by
  simp only [goodB, Bool.and_eq_false_iff, decide_eq_false_iff_not]; omega
theorem of_good {a b c : Int} (h : goodB a b c = true) : 0 ≤ a ∧ a ≤ 999 ∧ 0 ≤ b ∧ b ≤ 999 ∧ 0 ≤ c ∧ c ≤ 999 := by
  simp only [goodB, Bool.and_eq_true, decide_eq_true_eq] at h; omega
abbrev V (a b c : Int) : Value := .agg #[.int .i64 a, .int .i64 b, .int .i64 c]
def num (a b c : Int) : Int := if goodB a b c = true then (a * 1000 + b) * 1000 + c else -1
theorem ret_int {k : IntKind} {a b : Int} (h : a = b) : Ending.returned (.int k a) = .returned (.int k b) := by rw [h]
theorem ret_bool {a b : Bool} (h : a = b) : Ending.returned (.bool a) = .returned (.bool b) := by rw [h]

theorem bcell {W w1 : World} (hb : Below W.heap.size W w1) : (∀ b o, b < W.heap.size → w1.cell? ⟨b, o, none⟩ = W.cell? ⟨b, o, none⟩) ∧ (∀ b o, b < W.heap.size → w1.frozen? ⟨b, o, none⟩ = W.frozen? ⟨b, o, none⟩) :=
  ⟨fun b o h => hb.cell (p := ⟨b, o, none⟩) h, fun b o h => hb.frozen (p := ⟨b, o, none⟩) h⟩

/-- block b holds a version -/
structure C3 (W : World) (b : Nat) (x y z : Int) : Prop where
  lt : b < W.heap.size
  c0 : W.cell? ⟨b, 0, none⟩ = some (.int .i64 x)
  c1 : W.cell? ⟨b, 1, none⟩ = some (.int .i64 y)
  c2 : W.cell? ⟨b, 2, none⟩ = some (.int .i64 z)
  fz : ∀ j, W.frozen? ⟨b, j, none⟩ = false
theorem C3.below {W W' : World} {b : Nat} {x y z : Int} (h : C3 W b x y z) (hb : Below W.heap.size W W') : C3 W' b x y z := by
  obtain ⟨hc, hf⟩ := bcell hb
  exact ⟨Nat.lt_of_lt_of_le h.lt hb.size, (hc _ _ h.lt).trans h.c0, (hc _ _ h.lt).trans h.c1, (hc _ _ h.lt).trans h.c2, fun j => (hf _ _ h.lt).trans (h.fz j)⟩
theorem C3.old {W : World} {b : Nat} {x y z : Int} (h : C3 W b x y z) (o : Obj) : C3 (W.alloc o) b x y z := h.below ((Below.refl _ _).alloc (Nat.le_refl _) o)
theorem C3.set {W : World} {b : Nat} {x y z : Int} (h : C3 W b x y z) (x' y' z' : Int) : C3 (((W.setCell ⟨b, 0, none⟩ (.int .i64 x')).setCell ⟨b, 1, none⟩ (.int .i64 y')).setCell ⟨b, 2, none⟩ (.int .i64 z')) b x' y' z' := by
  obtain ⟨h1, h2, h3, h4, h5⟩ := h
  refine ⟨by simpa [World.setCell] using h1, ?_, ?_, ?_, fun j => by simp only [World.frozen?_setCell]; exact h5 j⟩
  · rw [World.cell?_setCell_other _ _ _ _ (by simp), World.cell?_setCell_other _ _ _ _ (by simp)]; exact World.cell?_setCell_same _ _ _ h2
  · rw [World.cell?_setCell_other _ _ _ _ (by simp)]; exact World.cell?_setCell_same _ _ _ ((World.cell?_setCell_other _ _ _ _ (by simp)).trans h3)
  · exact World.cell?_setCell_same _ _ _ ((World.cell?_setCell_other _ _ _ _ (by simp)).trans ((World.cell?_setCell_other _ _ _ _ (by simp)).trans h4))
theorem C3.far {W : World} {b : Nat} {x y z : Int} (h : C3 W b x y z) (q : Nat) (hq : b ≠ q) (x' y' z' : Value) : C3 (((W.setCell ⟨q, 0, none⟩ x').setCell ⟨q, 1, none⟩ y').setCell ⟨q, 2, none⟩ z') b x y z := by
  obtain ⟨h1, h2, h3, h4, h5⟩ := h
  refine ⟨by simpa [World.setCell] using h1, ?_, ?_, ?_, fun j => by simp only [World.frozen?_setCell]; exact h5 j⟩
  all_goals
    rw [World.cell?_setCell_other _ _ _ _ (by intro e; apply hq; simpa using (congrArg Addr.block e).symm), World.cell?_setCell_other _ _ _ _ (by intro e; apply hq; simpa using (congrArg Addr.block e).symm), World.cell?_setCell_other _ _ _ _ (by intro e; apply hq; simpa using (congrArg Addr.block e).symm)]
    assumption

def isB (n : Int) : Bool := decide (0 ≤ n) && decide (n < 1000000000)
def o0 (n : Int) : Int := if isB n = true then n / 1000000 else 0
def o1 (n : Int) : Int := if isB n = true then n / 1000 % 1000 else 0
def o2 (n : Int) : Int := if isB n = true then n % 1000 else 0
abbrev OfV (n : Int) : Value := .tuple #[V (o0 n) (o1 n) (o2 n), .bool (isB n)]
theorem of_tt {n : Int} (h0 : 0 ≤ n) (h1 : n < 1000000000) : OfV n = .tuple #[V (n / 1000000) (n / 1000 % 1000) (n % 1000), .bool true] := by
  have h : isB n = true := by simp [isB, h0, h1]
  simp [OfV, o0, o1, o2, h]
theorem of_ff {n : Int} (h : ¬ (0 ≤ n ∧ n < 1000000000)) : OfV n = .tuple #[V 0 0 0, .bool false] := by
  have h : isB n = false := by simp only [isB, Bool.and_eq_false_iff, decide_eq_false_iff_not]; omega
  simp [OfV, o0, o1, o2, h]

end Vs
end Go.Proofs.YtbefgplaaghlbaaGreatDoor
