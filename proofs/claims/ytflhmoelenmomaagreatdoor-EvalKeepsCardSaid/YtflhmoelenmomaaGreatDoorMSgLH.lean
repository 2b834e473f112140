/-
  Law: SpanHas answers true.
-/
import Derived.Test.YtflhmoelenmomaaGreatDoorMSgAl
import Derived.Test.YtflhmoelenmomaaGreatDoorMVersionC
import Derived.Deep.CutBlock
import Derived.Deep.DeepCutAuto
namespace Go.Proofs.YtflhmoelenmomaaGreatDoor
open Go.RowKit Go.Shelf Go.Lib
namespace Sg

/-- what Or, And, Not answer: an error, or a range that says S -/
def TwoP (S : Int → Prop) (x : Value) (c : Int) (W' : World) : Prop := (c ≠ 0 ∧ x = .slice none 0 0) ∨ (c = 0 ∧ ∃ r, GS W' x r ∧ (∀ n, inR r n ↔ S n) ∧ goodB r = true)
theorem set_two {B : Nat} {S : Int → Prop} {r : List G} {e : Ending} {W' : World} (h : SetP B S r e W') : ∃ x c, e = .returned (.tuple #[x, .int .i64 c]) ∧ TwoP S x c W' := by
  rcases h.ans with ⟨h1, h2⟩ | ⟨h1, v, h2, h3⟩
  · exact ⟨_, _, h2, .inl ⟨by decide, rfl⟩⟩
  · refine ⟨_, _, h2, .inr ⟨rfl, r, h3.gs fun g hg => (h.bd g hg).n64, h.mem, ?_⟩⟩
    exact good_of h.nm (by omega) fun g hg => ⟨(h.bd g hg).1.1, (h.bd g hg).2.2⟩
theorem TwoP.form {S : Int → Prop} {x : Value} {c : Int} {W' : World} (h : TwoP S x c W') : ∃ sl n cap, x = .slice sl n cap := by
  rcases h with ⟨_, rfl⟩ | ⟨_, r, h, _⟩
  · exact ⟨_, _, _, rfl⟩
  · obtain ⟨sl, cap, h1, _⟩ := h.form
    exact ⟨_, _, _, h1⟩
theorem TwoP.below {S : Int → Prop} {x : Value} {c : Int} {W W' : World} (h : TwoP S x c W) (hb : Below W.heap.size W W') : TwoP S x c W' := by
  rcases h with h | ⟨h1, r, h2, h3⟩
  · exact .inl h
  · exact .inr ⟨h1, r, h2.below hb, h3⟩
theorem bool_ext {a b : Bool} (h : a = true ↔ b = true) : a = b := by
  cases a <;> cases b <;> simp_all
theorem inB_or {r p q : List G} (h : ∀ n, inR r n ↔ inR p n ∨ inR q n) (n : Int) : inB r n = (inB p n || inB q n) := bool_ext (by rw [inB_iff, h, Bool.or_eq_true, inB_iff, inB_iff])
theorem inB_and {r p q : List G} (h : ∀ n, inR r n ↔ inR p n ∧ inR q n) (n : Int) : inB r n = (inB p n && inB q n) := bool_ext (by rw [inB_iff, h, Bool.and_eq_true, inB_iff, inB_iff])
theorem has_or {r p q : List G} (h : ∀ n, inR r n ↔ inR p n ∨ inR q n) (a b c : Int) : hasB r a b c = (hasB p a b c || hasB q a b c) := by
  unfold hasB
  rw [inB_or h]
  cases Vs.goodB a b c <;> simp
theorem has_and {r p q : List G} (h : ∀ n, inR r n ↔ inR p n ∧ inR q n) (a b c : Int) : hasB r a b c = (hasB p a b c && hasB q a b c) := by
  unfold hasB
  rw [inB_and h]
  cases Vs.goodB a b c <;> simp
theorem has_not {r p : List G} (h : ∀ n, inR r n ↔ 0 ≤ n ∧ n < 1000000000 ∧ ¬ inR p n) (a b c : Int) : hasB r a b c = (Vs.goodB a b c && !hasB p a b c) := by
  unfold hasB
  cases hg : Vs.goodB a b c with
  | false => rfl
  | true =>
    obtain ⟨-, n0, n1⟩ := num_bd hg
    simp only [Bool.true_and]
    refine bool_ext ?_
    rw [inB_iff, h, Bool.not_eq_true', ← Bool.not_eq_true, inB_iff]
    exact ⟨fun h => h.2.2, fun h => ⟨n0, n1, h⟩⟩
end Sg
end Go.Proofs.YtflhmoelenmomaaGreatDoor
