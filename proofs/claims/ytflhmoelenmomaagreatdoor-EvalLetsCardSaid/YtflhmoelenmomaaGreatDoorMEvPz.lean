/-
  Plain: how great an expression is with a text in the place of a name.
-/
import Derived.Test.YtflhmoelenmomaaGreatDoorMEvP
namespace Go.Proofs.YtflhmoelenmomaaGreatDoor
open Go.RowKit
namespace Ev
open Rc

theorem puts_sz (y t : ByteArray) (ks : List E) (ih : ∀ x ∈ ks, sizeW (putE y t x) ≤ (t.size + 1) * sizeW x) : sizeWs (puts y t ks) ≤ (t.size + 1) * sizeWs ks := by
  induction ks with
  | nil => rw [puts, sizeWs]; omega
  | cons x ks ihk =>
    rw [puts, sizeWs, sizeWs, Nat.mul_add]
    have h1 := ih x (List.mem_cons_self ..)
    have h2 := ihk fun u hu => ih u (List.mem_cons_of_mem _ hu)
    omega
theorem put1_sz (y t : ByteArray) (ks : List E) (ih : ∀ x ∈ ks, sizeW (putE y t x) ≤ (t.size + 1) * sizeW x) : sizeWs (put1 y t ks) ≤ (t.size + 1) * sizeWs ks := by
  match ks, ih with
  | [], _ => rw [put1, sizeWs]; omega
  | [a], ih =>
    rw [put1, sizeWs, sizeWs, sizeWs, Nat.mul_add]
    have h1 := ih a (by simp)
    omega
  | a :: b :: l, ih =>
    rw [put1, sizeWs, sizeWs, sizeWs, sizeWs, Nat.mul_add, Nat.mul_add]
    have h1 := ih a (by simp)
    have h2 := puts_sz y t l fun u hu => ih u (by simp [hu])
    have h3 := Nat.le_mul_of_pos_left (sizeW b) (show 0 < t.size + 1 by omega)
    omega
/-- a text in the place of a name makes an expression no more than so many times as great -/
theorem put_sz (y t : ByteArray) (x : E) : sizeW (putE y t x) ≤ (t.size + 1) * sizeW x := by
  refine Eind (P := fun x => sizeW (putE y t x) ≤ (t.size + 1) * sizeW x) (fun k s ks ih => ?_) x
  have h3 := Nat.le_mul_of_pos_left (1 + s.size) (show 0 < t.size + 1 by omega)
  have h4 : t.size + 1 ≤ (t.size + 1) * (1 + s.size) := Nat.le_mul_of_pos_right _ (by omega)
  rw [putE]
  split
  · rw [sizeW, sizeW, sizeWs, Nat.mul_add]
    omega
  · rw [sizeW, sizeW, Nat.mul_add]
    split
    · have := put1_sz y t ks ih
      omega
    · have := puts_sz y t ks ih
      omega
theorem puts_mem (y t : ByteArray) : ∀ (ks : List E) (z : E), z ∈ puts y t ks → ∃ x ∈ ks, z = putE y t x
  | [], z, h => by rw [puts] at h; cases h
  | x :: l, z, h => by
    rw [puts] at h
    rcases List.mem_cons.1 h with rfl | h
    · exact ⟨x, List.mem_cons_self .., rfl⟩
    · obtain ⟨u, hu, e⟩ := puts_mem y t l z h
      exact ⟨u, List.mem_cons_of_mem _ hu, e⟩
theorem put1_mem (y t : ByteArray) (ks : List E) (z : E) (h : z ∈ put1 y t ks) : ∃ x ∈ ks, z = putE y t x ∨ z = x := by
  match ks, h with
  | [], h => rw [put1] at h; cases h
  | [a], h =>
    rw [put1] at h
    exact ⟨a, by simp, .inl (by simpa using h)⟩
  | a :: b :: l, h =>
    rw [put1] at h
    rcases List.mem_cons.1 h with rfl | h
    · exact ⟨a, by simp, .inl rfl⟩
    rcases List.mem_cons.1 h with rfl | h
    · exact ⟨_, by simp, .inr rfl⟩
    · obtain ⟨u, hu, e⟩ := puts_mem y t l z h
      exact ⟨u, by simp [hu], .inl e⟩
theorem put_small (y t : ByteArray) (ht : Sml (.mk 1 t [])) {x : E} (hx : Sml x) : Sml (putE y t x) := by
  refine Eind (P := fun x => Sml x → Sml (putE y t x)) (fun k s ks ih hx => ?_) x hx
  rw [putE]
  split
  · exact ht
  · cases hx with
    | mk _ _ _ h1 h2 h3 h4 h5 =>
      split
      · refine .mk _ _ _ h1 h2 h3 (by rw [put1_len]; exact h4) fun z hz => ?_
        obtain ⟨u, hu, rfl | rfl⟩ := put1_mem y t ks z hz
        · exact ih u hu (h5 u hu)
        · exact h5 _ hu
      · refine .mk _ _ _ h1 h2 h3 (by rw [puts_len]; exact h4) fun z hz => ?_
        obtain ⟨u, hu, rfl⟩ := puts_mem y t ks z hz
        exact ih u hu (h5 u hu)
/-- what EvalLets lets through is no greater than eval_any (of Ev.Big) takes -/
theorem put_fits (y t : ByteArray) (x : E) (ht : t.size ≤ 256) (hx : sizeW x + t.size ≤ 4094) : sizeW (putE y t x) ≤ 1000000 := by
  have h := put_sz y t x
  by_cases hs : t.size ≤ 220
  · have : (t.size + 1) * sizeW x ≤ 221 * 4094 := Nat.mul_le_mul (by omega) (by omega)
    omega
  · have : (t.size + 1) * sizeW x ≤ 257 * 3873 := Nat.mul_le_mul (by omega) (by omega)
    omega
end Ev
end Go.Proofs.YtflhmoelenmomaaGreatDoor
