/-
  Plain: the kids of an expression with a text in the place of a name, one by one.
-/
import Derived.Test.YtflhmoelenmomaaGreatDoorMEvPz
namespace Go.Proofs.YtflhmoelenmomaaGreatDoor
open Go.RowKit
namespace Ev
open Rc

theorem puts_get (y t : ByteArray) : ∀ (ks : List E) (i : Nat), (puts y t ks)[i]? = ks[i]?.map (putE y t)
  | [], i => by rw [puts]; rfl
  | x :: l, 0 => by rw [puts]; rfl
  | x :: l, i + 1 => by rw [puts, List.getElem?_cons_succ, List.getElem?_cons_succ]; exact puts_get y t l i
theorem put1_get (y t : ByteArray) (ks : List E) (i : Nat) : (put1 y t ks)[i]? = ks[i]?.map (fun u => if i = 1 then u else putE y t u) := by
  match ks, i with
  | [], i => rw [put1]; rfl
  | [a], 0 => rw [put1]; rfl
  | [a], i + 1 => rw [put1]; rfl
  | a :: b :: l, 0 => rw [put1]; rfl
  | a :: b :: l, 1 => rw [put1]; rfl
  | a :: b :: l, i + 2 =>
    rw [put1, List.getElem?_cons_succ, List.getElem?_cons_succ, List.getElem?_cons_succ, List.getElem?_cons_succ, puts_get]
    congr 1
/-- the kids of an expression that is no name to be replaced -/
def kidsP (y t : ByteArray) (k : Int) (s : ByteArray) (ks : List E) : List E := if k = 5 ∧ s = y then put1 y t ks else puts y t ks
theorem kidsP_get (y t : ByteArray) (k : Int) (s : ByteArray) (ks : List E) (i : Nat) : (kidsP y t k s ks)[i]? = ks[i]?.map (fun u => if (k = 5 ∧ s = y) ∧ i = 1 then u else putE y t u) := by
  unfold kidsP
  by_cases h : k = 5 ∧ s = y
  · rw [if_pos h, put1_get]
    congr 1
    funext u
    by_cases hi : i = 1
    · rw [if_pos hi, if_pos ⟨h, hi⟩]
    · rw [if_neg hi, if_neg fun e => hi e.2]
  · rw [if_neg h, puts_get]
    congr 1
    funext u
    rw [if_neg fun e => h e.1]
theorem kidsP_len (y t : ByteArray) (k : Int) (s : ByteArray) (ks : List E) : (kidsP y t k s ks).length = ks.length := by
  unfold kidsP
  split
  · exact put1_len y t ks
  · exact puts_len y t ks
theorem putE_name {y t : ByteArray} {k : Int} {s : ByteArray} {ks : List E} (h : k = 2 ∧ s = y) : putE y t (.mk k s ks) = .mk 1 t [] := by rw [putE, if_pos h]
theorem putE_kids {y t : ByteArray} {k : Int} {s : ByteArray} {ks : List E} (h : ¬ (k = 2 ∧ s = y)) : putE y t (.mk k s ks) = .mk k s (kidsP y t k s ks) := by
  rw [putE, if_neg h]
  rfl
end Ev
end Go.Proofs.YtflhmoelenmomaaGreatDoor
