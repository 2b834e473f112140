/-
  The reference's Both, of two ranges in one of which something is.
-/
import Derived.Test.YtflhmoelenmomaaGreatDoorMSgR
import Derived.Test.YtflhmoelenmomaaGreatDoorMSgLT
namespace Go.Proofs.YtflhmoelenmomaaGreatDoor
open Go.RowKit Go.Shelf Go.Lib
namespace Sg

/-- the range that says S, put together of the pieces between the ends -/
theorem range_sp {gs r : List G} {S : Int → Bool} {P : Int → Prop} {B : Nat} {e : Ending} {W' : World} (hst : Still S (endsF gs)) (hr : Nm r) (hbd : ∀ g ∈ r, Bd g) (h : ∀ n, inR r n ↔ (0 ≤ n ∧ n < 1000000000 ∧ S n = true)) (hP : ∀ n, inR r n ↔ P n)
    (hA : (16 < (rangeF S (endsF gs) []).length ∧ e = .returned (.tuple #[.slice none 0 0, .int .i64 13])) ∨ (¬ 16 < (rangeF S (endsF gs) []).length ∧ ∃ v', e = .returned (.tuple #[v', .int .i64 0]) ∧ GO W' B v' (rangeF S (endsF gs) []))) : SetP B P r e W' := by
  rw [range_is hst hr h] at hA
  exact ⟨hr, hP, hbd, hA⟩
theorem still_in {gs : List G} {S : Int → Bool} (h : ∀ a b n, a ∈ endsF gs → b ∈ endsF gs → (∀ x ∈ endsF gs, x ≤ a ∨ b ≤ x) → a ≤ n → n < b → S n = S a) : Still S (endsF gs) := still_of _ (ends_es gs).srt h
/-- the normal form of any pieces -/
theorem norm_ex (l : List G) (hbd : ∀ g ∈ l, Bd g) : ∃ r, Nm r ∧ (∀ n, inR r n ↔ inR l n) ∧ ∀ g ∈ r, Bd g := by
  have hp := List.mergeSort_perm l (fun g h => decide (g.1 ≤ h.1))
  have hs : (l.mergeSort fun g h => decide (g.1 ≤ h.1)).Pairwise fun g h => g.1 ≤ h.1 :=
    (List.pairwise_mergeSort (fun a b c h1 h2 => by simp only [decide_eq_true_eq] at *; omega) (fun a b => by simp only [Bool.or_eq_true, decide_eq_true_eq]; omega) l).imp fun h => of_decide_eq_true h
  obtain ⟨h1, h2⟩ := join_nm hs
  have h3 := (acc_bd (l := l.mergeSort fun g h => decide (g.1 ≤ h.1)) (fun x hx => hbd x (hp.mem_iff.1 hx)) (l.mergeSort fun g h => decide (g.1 ≤ h.1)).length).1
  rw [acc_all] at h3
  exact ⟨_, h1, fun n => (h2 n).trans ⟨fun ⟨g, hg, h⟩ => ⟨g, hp.mem_iff.1 hg, h⟩, fun ⟨g, hg, h⟩ => ⟨g, hp.mem_iff.2 hg, h⟩⟩, h3⟩
theorem both_r (p q : List G) (hbd : ∀ g ∈ p ++ q, Bd g) : Still (fun n => inB p n || inB q n) (endsF (p ++ q)) ∧ ∃ r, Nm r ∧ (∀ g ∈ r, Bd g) ∧ (∀ n, inR r n ↔ (0 ≤ n ∧ n < 1000000000 ∧ (inB p n || inB q n) = true)) ∧ ∀ n, inR r n ↔ inR p n ∨ inR q n := by
  refine ⟨still_in fun a b n ha hb h h1 h2 => by rw [in_still (fun g hg => List.mem_append_left _ hg) ha hb h h1 h2, in_still (fun g hg => List.mem_append_right _ hg) ha hb h h1 h2], ?_⟩
  obtain ⟨r, h1, h2, h3⟩ := norm_ex (p ++ q) hbd
  refine ⟨r, h1, h3, fun n => ?_, fun n => (h2 n).trans (in_app p q n)⟩
  rw [h2, in_app, Bool.or_eq_true, inB_iff, inB_iff]
  refine ⟨fun h => ?_, fun h => h.2.2⟩
  obtain ⟨g, hg, h4, h5⟩ := (in_app p q n).2 h
  have := hbd g hg
  unfold Bd at this
  exact ⟨by omega, by omega, h⟩
/-- flags so far -/
def flK (S : Int → Bool) (l : List Int) (k : Nat) : List Bool := (l.take k).map S ++ List.replicate (l.length - k) false
theorem flK_len (S : Int → Bool) (l : List Int) {k : Nat} (h : k ≤ l.length) : (flK S l k).length = l.length := by
  unfold flK
  simp
  omega
theorem flK_set {S : Int → Bool} {l : List Int} {k : Nat} {x : Int} (h : l[k]? = some x) : (flK S l k).set k (S x) = flK S l (k + 1) := by
  obtain ⟨h1, h2⟩ := List.getElem?_eq_some_iff.1 h
  unfold flK
  have hl : ((l.take k).map S).length = k := by simp; omega
  rw [List.set_append_right _ _ (by omega), hl, Nat.sub_self, show l.length - k = (l.length - (k + 1)) + 1 by omega, List.replicate_succ, List.set_cons_zero, List.take_add_one, h]
  simp
theorem flK_all (S : Int → Bool) (l : List Int) : flK S l l.length = l.map S := by
  unfold flK
  simp
theorem made_false (n : Nat) : (madeCells (Value.bool false).cells (n * 1)).toList = (List.replicate n false).map Value.bool := by
  rw [Nat.mul_one]
  exact (toList_madeCells_one _ n).trans (by simp)
/-- the answer of the reference's Range -/
def RA (S : Int → Bool) (l : List Int) (B : Nat) (e : Ending) (W' : World) : Prop := (16 < (rangeF S l []).length ∧ e = .returned (.tuple #[.slice none 0 0, .int .i64 13])) ∨ (¬ 16 < (rangeF S l []).length ∧ ∃ v', e = .returned (.tuple #[v', .int .i64 0]) ∧ GO W' B v' (rangeF S l []))
theorem rrange_two (S : Int → Bool) (l : List Int) (B : Nat) (v vb : Value) (W : World) (hO : IO W B v l) (hF : BO W B vb (l.map S)) (hl : l.length ≤ 100000) :
    Calls Tryz.prog 83 #[v, vb] W fun e W' => ∃ vr cr, e = .returned (.tuple #[vr, .int .i64 cr]) ∧ RA S l W.heap.size e W' ∧ Below W.heap.size W W' := by
  refine (rrange_any S l B v vb W hO hF hl).mono fun e W' h => ?_
  rcases h.1 with ⟨h1, h2⟩ | ⟨h1, v', h2, h3⟩
  · exact ⟨_, _, h2, h⟩
  · exact ⟨_, _, h2, h⟩
theorem BO.below {W W' : World} {B : Nat} {v : Value} {l : List Bool} (h : BO W B v l) (hb : Below W.heap.size W W') : BO W' B v l :=
  World.ownsRow.kept h (row := none) ⟨hb.os, hb.tape, hb.output, hb.size, fun k hk _ => hb.block k hk⟩ (by cases v.ownBlock <;> simp)
theorem BO.le {W : World} {B B' : Nat} {v : Value} {l : List Bool} (h : BO W B v l) (hb : B' ≤ B) : BO W B' v l := ⟨h.1, h.2.imp id fun ⟨g, cap, cur, a, b, c⟩ => ⟨g, cap, cur, a, Nat.le_trans hb b, c⟩⟩
theorem BO.cellK {W : World} {B g n cap k : Nat} {l : List Bool} (h : BO W B (.slice (some ⟨g, 0, none⟩) n cap) l) (hk : k < l.length) : ∃ y, W.cell? ⟨g, k, none⟩ = some (.bool y) ∧ W.frozen? ⟨g, k, none⟩ = false := by
  have hn : n = l.length := by
    rcases h.2 with ⟨e, hn⟩ | ⟨g', cap', cur, e, _⟩
    · cases e
    · cases e
      rfl
  subst hn
  refine ⟨l[k], ?_, World.ownsRow.frozenAt h k⟩
  rw [World.ownsRow.cellAt h k (by omega)]
  simp [List.getElem?_eq_getElem hk]
theorem BO.put {W : World} {B g n cap k : Nat} {l l' : List Bool} {y : Bool} (h : BO W B (.slice (some ⟨g, 0, none⟩) n cap) l) (hs : l.set k y = l') (hn : l.length = n) : BO (W.setCell ⟨g, k, none⟩ (.bool y)) B (.slice (some ⟨g, 0, none⟩) n cap) l' := by
  subst hn hs
  have h1 := (World.ownsRow.stored h k (.bool y)).1
  unfold BO
  rw [List.map_set, List.length_set]
  exact h1
theorem flK_lt (S : Int → Bool) {l : List Int} {k : Nat} (h : k < l.length) : k < (flK S l k).length := by
  rw [flK_len S l (Nat.le_of_lt h)]
  exact h
end Sg
end Go.Proofs.YtflhmoelenmomaaGreatDoor
