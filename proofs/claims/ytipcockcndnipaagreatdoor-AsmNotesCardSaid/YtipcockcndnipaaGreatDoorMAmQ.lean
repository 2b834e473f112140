/-
  Plain law: the two texts that AsmNotes makes of lines. No program in sight.
-/
import Derived.Test.YtipcockcndnipaaGreatDoorMNmP
namespace Go.Proofs.YtipcockcndnipaaGreatDoor
open Go.RowKit
namespace Aw
open As

abbrev nl (l : List UInt8) : List UInt8 := l ++ [10]
/-- the first text, of k lines -/
def sK (ls : List (List UInt8)) : Nat → List UInt8
  | 0 => []
  | k + 1 => sK ls k ++ (if 0 < k then [10] else []) ++ ls.getD k []
/-- the second text, of k lines -/
def tK (ls : List (List UInt8)) (note : List UInt8) (a : Nat) : Nat → List UInt8
  | 0 => []
  | k + 1 => tK ls note a k ++ (if k = a then 59 :: (note ++ [10, 10]) else []) ++ ls.getD k [] ++ (if k + 1 < ls.length then [10] else [])
theorem join_flat : ∀ ls : List (List UInt8), ls ≠ [] → joinL ls ++ [10] = ls.flatMap nl
  | [], h => absurd rfl h
  | [l], _ => by simp [joinL, nl]
  | l :: m :: ls, _ => by
    have ih := join_flat (m :: ls) (by simp)
    rw [joinL, List.flatMap_cons, ← ih]
    simp [nl]
theorem take_getD {ls : List (List UInt8)} {k : Nat} (h : k < ls.length) : ls.take (k + 1) = ls.take k ++ [ls.getD k []] := by
  rw [List.take_add_one, List.getElem?_eq_getElem h, List.getD_eq_getElem?_getD, List.getElem?_eq_getElem h]
  rfl
theorem s_flat (ls : List (List UInt8)) : ∀ k, 0 < k → k ≤ ls.length → sK ls k ++ [10] = (ls.take k).flatMap nl
  | 0, h, _ => absurd h (by omega)
  | k + 1, _, hk => by
    rw [take_getD (by omega), List.flatMap_append, sK]
    by_cases h0 : 0 < k
    · rw [if_pos h0, ← s_flat ls k h0 (by omega)]
      simp [nl]
    · obtain rfl : k = 0 := by omega
      simp [sK, nl]
theorem s_join (ls : List (List UInt8)) : sK ls ls.length = joinL ls := by
  cases hl : ls with
  | nil => rfl
  | cons l r =>
    have h := s_flat ls ls.length (by rw [hl]; simp) (Nat.le_refl _)
    rw [List.take_length, ← join_flat ls (by rw [hl]; simp)] at h
    rw [← hl]
    exact List.append_cancel_right h
/-- lines, a note and an empty line put in -/
def flatN (ls : List (List UInt8)) (note : List UInt8) (a k : Nat) : List UInt8 :=
  if a < k then (ls.take a).flatMap nl ++ (59 :: (note ++ [10, 10]) ++ ((ls.take k).drop a).flatMap nl) else (ls.take k).flatMap nl
theorem flat_step {ls : List (List UInt8)} {note : List UInt8} {a k : Nat} (h : k < ls.length) : flatN ls note a (k + 1) = flatN ls note a k ++ (if k = a then 59 :: (note ++ [10, 10]) else []) ++ ls.getD k [] ++ [10] := by
  unfold flatN
  have hlk : (ls.take k).length = k := by rw [List.length_take]; omega
  by_cases h1 : a < k
  · rw [if_pos (by omega), if_pos h1, if_neg (by omega), take_getD h, List.drop_append_of_le_length (by omega), List.flatMap_append]
    simp [nl]
  · by_cases h2 : k = a
    · subst h2
      rw [if_pos (by omega), if_neg h1, if_pos rfl, take_getD h, List.drop_append_of_le_length (by omega), List.drop_eq_nil_of_le (by omega)]
      simp [nl]
    · rw [if_neg (by omega), if_neg h1, if_neg h2, take_getD h, List.flatMap_append]
      simp [nl]
theorem t_flat (ls : List (List UInt8)) (note : List UInt8) (a : Nat) : ∀ k, k < ls.length → tK ls note a k = flatN ls note a k
  | 0, _ => by simp [tK, flatN]
  | k + 1, hk => by
    rw [tK, t_flat ls note a k (by omega), if_pos hk, flat_step (by omega)]
theorem t_end (ls : List (List UInt8)) (note : List UInt8) (a : Nat) (h : 0 < ls.length) : tK ls note a ls.length ++ [10] = flatN ls note a ls.length := by
  obtain ⟨k, hk⟩ : ∃ k, ls.length = k + 1 := ⟨ls.length - 1, by omega⟩
  have h1 : tK ls note a (k + 1) ++ [10] = flatN ls note a (k + 1) := by
    rw [tK, t_flat ls note a k (by omega), show (if k + 1 < ls.length then [10] else ([] : List UInt8)) = [] from if_neg (by omega), flat_step (by omega)]
    simp
  rw [hk]
  exact h1
theorem t_in {ls : List (List UInt8)} {note : List UInt8} {a : Nat} (h : a < ls.length) : tK ls note a ls.length = joinL (ls.take a ++ ((59 :: note) :: [] :: ls.drop a)) := by
  have h1 := t_end ls note a (by omega)
  unfold flatN at h1
  rw [if_pos h, List.take_length] at h1
  have h2 := join_flat (ls.take a ++ ((59 :: note) :: [] :: ls.drop a)) (by simp)
  refine List.append_cancel_right (h1.trans (Eq.trans ?_ h2.symm))
  rw [List.flatMap_append, List.flatMap_cons, List.flatMap_cons]
  simp [nl]
theorem t_out {ls : List (List UInt8)} {note : List UInt8} {a : Nat} (h : ¬ a < ls.length) : tK ls note a ls.length = joinL ls := by
  cases hl : ls with
  | nil => rfl
  | cons l r =>
    have h1 := t_end ls note a (by rw [hl]; simp)
    unfold flatN at h1
    rw [if_neg h, List.take_length, ← join_flat ls (by rw [hl]; simp)] at h1
    rw [← hl]
    exact List.append_cancel_right h1
/-- how long the second text is -/
theorem t_len (ls : List (List UInt8)) (note : List UInt8) (a : Nat) : ∀ k, (tK ls note a k).length ≤ (sK ls k).length + (if a < k then note.length + 3 else 0) + k
  | 0 => by simp [tK, sK]
  | k + 1 => by
    have ih := t_len ls note a k
    rw [tK, sK]
    simp only [List.length_append]
    have h1 : (if k + 1 < ls.length then [10] else ([] : List UInt8)).length ≤ 1 := by split <;> simp
    by_cases h2 : k = a
    · subst h2
      rw [show (if k < k then note.length + 3 else 0) = 0 from if_neg (by omega)] at ih
      rw [show (if k < k + 1 then note.length + 3 else 0) = note.length + 3 from if_pos (by omega), if_pos rfl]
      simp only [List.length_cons, List.length_append, List.length_nil]
      omega
    · rw [if_neg h2]
      by_cases h3 : a < k
      · rw [show (if a < k then note.length + 3 else 0) = note.length + 3 from if_pos h3] at ih
        rw [show (if a < k + 1 then note.length + 3 else 0) = note.length + 3 from if_pos (by omega)]
        simp only [List.length_nil]
        omega
      · rw [show (if a < k then note.length + 3 else 0) = 0 from if_neg h3] at ih
        rw [show (if a < k + 1 then note.length + 3 else 0) = 0 from if_neg (by omega)]
        simp only [List.length_nil]
        omega
/-- what the two texts are as programs -/
theorem notes_law {ls : List (List UInt8)} {note : List UInt8} {a : Nat} (h : ∀ l ∈ ls, ∀ c ∈ l, c ≠ 10) (hn : ∀ c ∈ note, c ≠ 10) (hs : (sK ls ls.length).length ≤ 65536) (ht : (tK ls note a ls.length).length ≤ 65536) :
    asmP (tK ls note a ls.length) = ((asmP (sK ls ls.length)).1, (if a < ls.length then upI a (asmP (sK ls ls.length)).2.1 else (asmP (sK ls ls.length)).2.1), (asmP (sK ls ls.length)).2.2) := by
  by_cases ha : a < ls.length
  · rw [if_pos ha]
    rw [t_in ha] at ht ⊢
    rw [s_join] at hs ⊢
    have hal : (ls.take a).length = a := by rw [List.length_take]; omega
    have e := asm_notes (ls.take a) (ls.drop a) note (by rw [List.take_append_drop]; intro e; rw [e] at ha; simp at ha) (by rw [List.take_append_drop]; exact h) hn (by rw [List.take_append_drop]; exact hs) ht
    rw [List.take_append_drop, hal] at e
    exact e
  · rw [if_neg ha, t_out ha, s_join]
end Aw
end Go.Proofs.YtipcockcndnipaaGreatDoor
