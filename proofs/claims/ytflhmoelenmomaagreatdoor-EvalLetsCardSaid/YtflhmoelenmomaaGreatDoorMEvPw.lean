/-
  put, whole.
-/
import Derived.Test.YtflhmoelenmomaaGreatDoorMEvPv
import Derived.Test.YtflhmoelenmomaaGreatDoorMEvVb
namespace Go.Proofs.YtflhmoelenmomaaGreatDoor
open Go.RowKit Go.Lib
namespace Ev
open Rc

theorem len_sz (ks : List E) : ks.length ≤ sizeWs ks := by
  induction ks with
  | nil => exact Nat.zero_le _
  | cons x ks ih =>
    rw [sizeWs, List.length_cons]
    cases x with
    | mk k s l => rw [sizeW]; omega
theorem put_any (y t : ByteArray) (x : E) : Sml x → sizeW x ≤ 20000 → ∀ (W : World) (S : Nat → Prop) (v : Value), (∀ b, S b → b < W.heap.size) → RepX W S x v → Calls Tryz.prog 19 #[v, .string y, .string t] W (PutA W S x y t) := by
  refine Eind (P := fun x => Sml x → sizeW x ≤ 20000 → ∀ (W : World) (S : Nat → Prop) (v : Value), (∀ b, S b → b < W.heap.size) → RepX W S x v → Calls Tryz.prog 19 #[v, .string y, .string t] W (PutA W S x y t)) (fun k s ks ih hx hz W S v hS hr => ?_) x
  have hlen : ks.length ≤ 20000 := by
    have := len_sz ks
    rw [sizeW] at hz
    omega
  have hkids : ∀ u ∈ ks, Sml u := by cases hx with | mk _ _ _ _ _ _ _ h => exact h
  cases hr with
  | mk _ _ _ sl cap x0 y0 z0 hcap hc hr =>
  have ih' : ∀ u ∈ ks, ∀ (W : World) (S : Nat → Prop) (v : Value), (∀ b, S b → b < W.heap.size) → RepX W S u v → Calls Tryz.prog 19 #[v, .string y, .string t] W (PutA W S u y t) := fun u hu => ih u hu (hkids u hu) (Nat.le_trans (sizeW_kid (k := k) (s := s) hu) hz)
  by_cases h2 : k = 2
  · by_cases hs : s = y
    · subst h2 hs
      exact put_name W S s t sl ks.length cap
    · subst h2
      exact put_2 hs hlen W S hS t sl cap x0 y0 z0 hc hr ih'
  · exact put_k h2 hlen W S hS t sl cap x0 y0 z0 hc hr ih'
theorem put_any2 (y t : ByteArray) {x : E} (hx : Sml x) (hz : sizeW x ≤ 20000) (W : World) (S : Nat → Prop) (v : Value) (hS : ∀ b, S b → b < W.heap.size) (hr : RepX W S x v) :
    Calls Tryz.prog 19 #[v, .string y, .string t] W fun e W' => ∃ v', e = .returned v' ∧ RepX W' (fun b => S b ∨ (W.heap.size ≤ b ∧ b < W'.heap.size)) (putE y t x) v' ∧ Below W.heap.size W W' := put_any y t x hx hz W S v hS hr
/-- what put answers can be evaluated -/
theorem put_eval (y t : ByteArray) {x : E} (hx : Sml x) (ht : t.size ≤ 256) (hz : sizeW x + t.size ≤ 4094) (W : World) (v : Value) (hr : RepX W (fun b => b < W.heap.size) (putE y t x) v) :
    Calls Tryz.prog 12 #[v] W fun e W' => e = .returned (evalV (putE y t x)) ∧ Below W.heap.size W W' :=
  Ev.Big.eval_any (put_small y t (.mk 1 t [] (by decide) (by decide) (by omega) (by simp) (fun u hu => by cases hu)) hx) (put_fits y t x ht hz) W (fun b => b < W.heap.size) v (fun _ h => h) hr
end Ev
end Go.Proofs.YtflhmoelenmomaaGreatDoor
