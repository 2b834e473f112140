/-
  Parts of trees.
-/
import Derived.Test.YtbhngjhfeejeiaaGreatDoorSxRF
namespace Go.Proofs.YtbhngjhfeejeiaaGreatDoor
open Go.RowKit
namespace Sx

/-- no list of it is longer than a counter -/
def kidsLe (t : T) : Prop := (enc t).length ≤ 65536
theorem kidsLe_list {ks : List T} (h : kidsLe (.list ks)) : ks.length ≤ 65536 ∧ ∀ (k : Nat) (u : T), ks[k]? = some u → kidsLe u := by
  unfold kidsLe at *
  have h1 := enc_list_len ks
  have h2 := encs_ge ks
  refine ⟨by omega, fun k u hu => ?_⟩
  have := enc_mem (List.mem_of_getElem? hu)
  omega
/-- a tree's own text, and how many kidsT it has -/
def txt : T → ByteArray
  | .leaf s => s
  | .list _ => ⟨#[]⟩
def isL : T → Bool
  | .leaf _ => false
  | .list _ => true
def kidsT : T → List T
  | .leaf _ => []
  | .list ks => ks
theorem Rep.vals {W : World} {B h : Nat} {t : T} {x y z : Value} (hr : Rep W B h t (.agg #[x, y, z])) : x = .bool (!isL t) ∧ y = .string (txt t) ∧ ∃ sl cap, z = .slice sl (kidsT t).length cap := by
  cases hr with
  | leaf _ s => exact ⟨rfl, rfl, none, 0, rfl⟩
  | list _ ks sl cap x y z hc hr => exact ⟨rfl, rfl, sl, cap, rfl⟩
/-- the first list among trees; -1: there is none -/
def fL (ks : List T) : Int := match ks.findIdx? isL with
  | some i => (i : Int)
  | none => -1
theorem fL_hit {ks : List T} {k : Nat} {t : T} (h : ks[k]? = some t) (ht : isL t = true) (hn : ∀ (j : Nat) (u : T), j < k → ks[j]? = some u → isL u = false) : fL ks = k := by
  have hk := (List.getElem?_eq_some_iff.1 h).1
  have : ks.findIdx? isL = some k := by
    rw [List.findIdx?_eq_some_iff_getElem]
    refine ⟨hk, ?_, fun j hj => ?_⟩
    · rw [List.getElem?_eq_getElem hk] at h
      rw [Option.some.inj h]
      exact ht
    · rw [hn j _ hj (List.getElem?_eq_getElem (by omega))]
      decide
  unfold fL
  rw [this]
theorem fL_none {ks : List T} (hn : ∀ (j : Nat) (u : T), ks[j]? = some u → isL u = false) : fL ks = -1 := by
  have : ks.findIdx? isL = none := by
    rw [List.findIdx?_eq_none_iff]
    intro x hx
    obtain ⟨j, hj⟩ := List.mem_iff_getElem?.1 hx
    exact hn j x hj
  unfold fL
  rw [this]
theorem fL_iff (ks : List T) : (0 ≤ fL ks ∧ ∃ k ∈ ks, isL k = true) ∨ (fL ks = -1 ∧ ∀ k ∈ ks, isL k = false) := by
  cases h : ks.findIdx? isL with
  | none =>
    right
    refine ⟨by unfold fL; rw [h], ?_⟩
    rw [List.findIdx?_eq_none_iff] at h
    exact fun k hk => h k hk
  | some i =>
    left
    refine ⟨by unfold fL; rw [h]; simp, ?_⟩
    rw [List.findIdx?_eq_some_iff_getElem] at h
    obtain ⟨hi, h1, -⟩ := h
    exact ⟨_, List.getElem_mem hi, h1⟩

theorem Rep.kids {W : World} {B h : Nat} {t : T} {β : Bool} {σ : ByteArray} {sl : Option Addr} {n cap : Nat} (hr : Rep W B h t (.agg #[.bool β, .string σ, .slice sl n cap])) : β = !isL t ∧ n = (kidsT t).length ∧ ∃ (h' : Nat) (x y z : Nat → Value),
    (∀ i k, (kidsT t)[i]? = some k → ∃ b o, sl = some ⟨b, o, none⟩ ∧ b < B ∧ W.cell? ⟨b, o + i * 3, none⟩ = some (x i) ∧ W.cell? ⟨b, o + i * 3 + 1, none⟩ = some (y i) ∧ W.cell? ⟨b, o + i * 3 + 2, none⟩ = some (z i)) ∧ (∀ i k, (kidsT t)[i]? = some k → Rep W B h' k (.agg #[x i, y i, z i])) := by
  cases hr with
  | leaf _ s => exact ⟨rfl, rfl, 0, fun _ => .nilIface, fun _ => .nilIface, fun _ => .nilIface, fun i k hk => by simp [Sx.kidsT] at hk, fun i k hk => by simp [Sx.kidsT] at hk⟩
  | list h ks _ _ x y z hc hr => exact ⟨rfl, rfl, h, x, y, z, hc, hr⟩
theorem kids_le {t : T} (h : kidsLe t) : (kidsT t).length ≤ 65536 ∧ ∀ (k : Nat) (u : T), (kidsT t)[k]? = some u → kidsLe u := by
  cases t with
  | leaf s => exact ⟨by simp [kidsT], fun k u hu => by simp [kidsT] at hu⟩
  | list ks => exact kidsLe_list h
end Sx
end Go.Proofs.YtbhngjhfeejeiaaGreatDoor
