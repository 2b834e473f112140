/-
  Plain: what a name is, over bytes and over runes (layer 4).
-/
import Derived.Test.YtbefgplaaghlbaaGreatDoorSxA
import Derived.Shelf.GgClosure.StringsIndexFuncTop
import Derived.Laws.RangeString
import Derived.Laws.RangeAny
namespace Go.Proofs.YtbefgplaaghlbaaGreatDoor
open Go.RowKit
namespace Nm

def nameR (r : Nat) : Bool := (decide (97 ≤ r) && decide (r ≤ 122)) || (decide (48 ≤ r) && decide (r ≤ 57)) || decide (r = 45) || decide (r = 95) || decide (r = 46)
theorem nameR_high {r : Nat} (h : 128 ≤ r) : nameR r = false := by
  simp only [nameR, Bool.or_eq_false_iff, Bool.and_eq_false_iff, decide_eq_false_iff_not]
  omega
/-- is it a name? -/
def nameL (l : List UInt8) : Bool := decide (1 ≤ l.length) && decide (l.length ≤ 32) && l.all (fun c => nameR c.toNat) && decide (l.head? ≠ some 46)
theorem idx_from (s : ByteArray) : ∀ (f pos : Nat), s.size ≤ pos + f → (Lib.idxFuncFrom (fun r => !nameR r) true s f pos = -1 ↔ ∀ (i : Nat) (h : i < s.size), pos ≤ i → nameR s[i].toNat = true)
  | 0, pos, hf => by
    rw [Lib.idxFuncFrom_end _ _ _ _ _ (by omega)]
    exact ⟨fun _ i h hp => by omega, fun _ => rfl⟩
  | f + 1, pos, hf => by
    by_cases hp : pos < s.size
    · unfold Lib.idxFuncFrom
      rw [if_pos hp]
      by_cases ha : s[pos].toNat < 128
      · rw [decode_ascii s pos hp ha]
        by_cases hn : nameR s[pos].toNat = true
        · dsimp only
          rw [hn, if_neg (by decide), idx_from s f (pos + 1) (by omega)]
          constructor
          · intro h i hi hpi
            by_cases e : i = pos
            · subst e; exact hn
            · exact h i hi (by omega)
          · exact fun h i hi hpi => h i hi (by omega)
        · have hn' : nameR s[pos].toNat = false := by simpa using hn
          dsimp only
          rw [hn', if_pos (by decide)]
          constructor
          · intro h; omega
          · intro h; exact absurd (h pos hp (Nat.le_refl _)) hn
      · have hd := (decode_high s pos hp (by omega)).1
        rw [nameR_high hd, if_pos (by decide)]
        constructor
        · intro h; omega
        · intro h
          have := h pos hp (Nat.le_refl _)
          rw [nameR_high (by omega)] at this
          cases this
    · rw [Lib.idxFuncFrom_end _ _ _ _ _ hp]
      exact ⟨fun _ i h hpi => by omega, fun _ => rfl⟩
theorem all_get {s : ByteArray} : s.data.toList.all (fun c => nameR c.toNat) = true ↔ ∀ (i : Nat) (h : i < s.size), nameR s[i].toNat = true := by
  rw [List.all_eq_true]
  have hz := Lib.size_eq s
  constructor
  · intro h i hi
    exact h _ (List.mem_of_getElem? (i := i) (by rw [List.getElem?_eq_getElem (by omega)]; rfl))
  · intro h c hc
    obtain ⟨k, hk⟩ := List.mem_iff_getElem?.1 hc
    have hkl := (List.getElem?_eq_some_iff.1 hk).1
    have := h k (by omega)
    rw [List.getElem?_eq_getElem hkl] at hk
    cases hk
    exact this
theorem idx_all (s : ByteArray) : decide (0 ≤ Lib.idxFunc (fun r => !nameR r) true s) = !(s.data.toList.all (fun c => nameR c.toNat)) := by
  have h1 := idx_from s s.size 0 (by omega)
  have h2 := Lib.idxFunc_range (fun r => !nameR r) true s
  have h3 := @all_get s
  change Lib.idxFunc _ _ _ = _ ↔ _ at h1
  cases ha : s.data.toList.all (fun c => nameR c.toNat)
  · have : ¬ Lib.idxFunc (fun r => !nameR r) true s = -1 := fun e => by
      have := h3.2 (fun i hi => h1.1 e i hi (Nat.zero_le _))
      rw [this] at ha
      cases ha
    simp only [Bool.not_false, decide_eq_true_eq]
    omega
  · have := h1.2 (fun i hi _ => h3.1 ha i hi)
    simp only [Bool.not_true, decide_eq_false_iff_not]
    omega
theorem head_get {s : ByteArray} (h : 0 < s.size) : s.data.toList.head? = some s[0] := by
  have hz := Lib.size_eq s
  rw [List.head?_eq_getElem?, List.getElem?_eq_getElem (by omega)]
  rfl
end Nm
end Go.Proofs.YtbefgplaaghlbaaGreatDoor
