/-
  Plain: the order of texts; lists whose parts change places (what stable sorting does). No program in sight.
-/
import Derived.Test.YtbefgplaaghlbaaGreatDoorRows
import Derived.Lib.Bytealg
namespace Go.Proofs.YtbefgplaaghlbaaGreatDoor
namespace Tr

/-! the order of texts -/
theorem cmp_self : ∀ a : List UInt8, Lib.compareBytes a a = 0
  | [] => rfl
  | x :: l => by rw [Lib.compareBytes, if_neg (UInt8.lt_irrefl x), if_neg (UInt8.lt_irrefl x)]; exact cmp_self l
theorem cmp_neg : ∀ a b : List UInt8, Lib.compareBytes b a = - Lib.compareBytes a b
  | [], [] => rfl
  | [], _ :: _ => rfl
  | _ :: _, [] => rfl
  | x :: l, y :: m => by
    rw [Lib.compareBytes, Lib.compareBytes]
    by_cases h1 : x < y
    · rw [if_pos h1, if_neg (UInt8.lt_asymm h1), if_pos h1]
      rfl
    · rw [if_neg h1]
      by_cases h2 : y < x
      · rw [if_pos h2, if_neg h1, if_pos h2]
      · rw [if_neg h2, if_neg h1, if_neg h2]
        exact cmp_neg l m
theorem cmp_zero : ∀ {a b : List UInt8}, Lib.compareBytes a b = 0 → a = b
  | [], [], _ => rfl
  | [], _ :: _, h => by cases h
  | _ :: _, [], h => by cases h
  | x :: l, y :: m, h => by
    rw [Lib.compareBytes] at h
    split at h
    · cases h
    · split at h
      · cases h
      · rename_i h1 h2
        have e : x = y := by
          apply UInt8.le_antisymm
          · exact UInt8.not_lt.1 h2
          · exact UInt8.not_lt.1 h1
        rw [e, cmp_zero h]
theorem cmp_tr : ∀ {a b c : List UInt8}, Lib.compareBytes a b < 0 → Lib.compareBytes b c < 0 → Lib.compareBytes a c < 0
  | [], [], _, h, _ => by cases h
  | [], _ :: _, [], _, h => by cases h
  | [], _ :: _, _ :: _, _, _ => (by decide : (-1 : Int) < 0)
  | _ :: _, [], _, h, _ => by cases h
  | _ :: _, _ :: _, [], _, h => by cases h
  | x :: l, y :: m, z :: n, h1, h2 => by
    rw [Lib.compareBytes] at h1 h2 ⊢
    by_cases a1 : x < y
    · by_cases b1 : y < z
      · rw [if_pos (UInt8.lt_trans a1 b1)]
        decide
      · rw [if_neg b1] at h2
        by_cases b2 : z < y
        · rw [if_pos b2] at h2
          exact absurd h2 (by decide)
        · have e : y = z := UInt8.le_antisymm (UInt8.not_lt.1 b2) (UInt8.not_lt.1 b1)
          subst e
          rw [if_pos a1]
          decide
    · rw [if_neg a1] at h1
      by_cases a2 : y < x
      · rw [if_pos a2] at h1
        exact absurd h1 (by decide)
      · rw [if_neg a2] at h1
        have e : x = y := UInt8.le_antisymm (UInt8.not_lt.1 a2) (UInt8.not_lt.1 a1)
        subst e
        by_cases b1 : x < z
        · rw [if_pos b1]
          decide
        · rw [if_neg b1] at h2 ⊢
          by_cases b2 : z < x
          · rw [if_pos b2] at h2
            exact absurd h2 (by decide)
          · rw [if_neg b2] at h2 ⊢
            exact cmp_tr h1 h2
def ltB (a b : List UInt8) : Bool := decide (Lib.compareBytes a b < 0)
theorem ltB_irr (a : List UInt8) : ltB a a = false := by simp [ltB, cmp_self]
theorem ltB_tr {a b c : List UInt8} (h1 : ltB a b = true) (h2 : ltB b c = true) : ltB a c = true := by
  simp only [ltB, decide_eq_true_eq] at *
  exact cmp_tr h1 h2
theorem ltB_tri {a b : List UInt8} (h1 : ltB a b = false) (h2 : ltB b a = false) : a = b := by
  simp only [ltB, decide_eq_false_iff_not] at *
  rw [cmp_neg a b] at h2
  exact cmp_zero (by omega)
theorem ltB_asym {a b : List UInt8} (h : ltB a b = true) : ltB b a = false := by
  simp only [ltB, decide_eq_true_eq, decide_eq_false_iff_not] at *
  rw [cmp_neg a b]
  omega
/-- no greater -/
def leB (a b : List UInt8) : Prop := ltB b a = false
theorem leB_refl (a : List UInt8) : leB a a := ltB_irr a
theorem leB_tr {a b c : List UInt8} (h1 : leB a b) (h2 : leB b c) : leB a c := by
  unfold leB at *
  cases h : ltB c a with
  | false => rfl
  | true =>
    cases h3 : ltB b a with
    | true => rw [h3] at h1; cases h1
    | false =>
      cases h4 : ltB a b with
      | true =>
        have := ltB_tr h h4
        rw [this] at h2
        cases h2
      | false =>
        have := ltB_tri h3 h4
        subst this
        rw [h] at h2
        cases h2
theorem leB_of {a b : List UInt8} (h : ltB a b = true) : leB a b := ltB_asym h
theorem leB_tot (a b : List UInt8) : leB a b ∨ leB b a := by
  cases h : ltB b a with
  | false => exact .inl h
  | true => exact .inr (leB_of h)
theorem leB_anti {a b : List UInt8} (h1 : leB a b) (h2 : leB b a) : a = b := ltB_tri h2 h1
/-! files, by their paths -/
abbrev F := ByteArray × ByteArray
abbrev K (f : F) : List UInt8 := f.1.data.toList
def Le (f g : F) : Prop := leB (K f) (K g)
/-- rising, two alike may stand side by side -/
abbrev Srt (l : List F) : Prop := l.Pairwise Le
theorem Srt.le {l : List F} (h : Srt l) {i j : Nat} {x y : F} (hij : i ≤ j) (hx : l[i]? = some x) (hy : l[j]? = some y) : Le x y := by
  obtain ⟨hi, rfl⟩ := List.getElem?_eq_some_iff.1 hx
  obtain ⟨hj, rfl⟩ := List.getElem?_eq_some_iff.1 hy
  rcases Nat.eq_or_lt_of_le hij with rfl | hlt
  · exact leB_refl _
  · exact List.pairwise_iff_getElem.1 h i j hi hj hlt
/-! a place in the midst of a list -/
theorem mid_get (P : List F) (x : F) (S : List F) : (P ++ x :: S)[P.length]? = some x := by simp
theorem mid_set (P : List F) (x y : F) (S : List F) : (P ++ x :: S).set P.length y = P ++ y :: S := by simp
/-- one text inserted where it belongs -/
theorem insert_srt {A : List F} {x : F} {k : Nat} (hA : Srt A) (h1 : ∀ a ∈ A.take k, Le a x) (h2 : ∀ a ∈ A.drop k, Le x a) : Srt (A.take k ++ x :: A.drop k) := by
  have hs : Srt (A.take k ++ A.drop k) := by rw [List.take_append_drop]; exact hA
  obtain ⟨s1, s2, s3⟩ := List.pairwise_append.1 hs
  refine List.pairwise_append.2 ⟨s1, List.pairwise_cons.2 ⟨h2, s2⟩, fun a ha b hb => ?_⟩
  rcases List.mem_cons.1 hb with rfl | hb
  · exact h1 a ha
  · exact s3 a ha b hb
theorem insert_perm (A : List F) (x : F) (k : Nat) : (A.take k ++ x :: A.drop k).Perm (x :: A) := by
  have := List.perm_middle (l₁ := A.take k) (l₂ := A.drop k) (a := x)
  rwa [List.take_append_drop] at this
/-- two rising lists cut where they cross: the two outer parts below the two inner ones -/
theorem cross {L1 L2 R1 R2 : List F} (hL : Srt (L1 ++ L2)) (hR : Srt (R1 ++ R2)) (h1 : ∀ a ∈ L1, ∀ b ∈ R2, Le a b) (h2 : ∀ b ∈ R1, ∀ a ∈ L2, Le b a) {C1 C2 : List F} (p1 : C1.Perm (L1 ++ R1)) (s1 : Srt C1) (p2 : C2.Perm (L2 ++ R2)) (s2 : Srt C2) :
    Srt (C1 ++ C2) ∧ (C1 ++ C2).Perm ((L1 ++ L2) ++ (R1 ++ R2)) := by
  obtain ⟨a1, a2, a3⟩ := List.pairwise_append.1 hL
  obtain ⟨b1, b2, b3⟩ := List.pairwise_append.1 hR
  refine ⟨List.pairwise_append.2 ⟨s1, s2, fun x hx y hy => ?_⟩, ?_⟩
  · rcases List.mem_append.1 (p1.mem_iff.1 hx) with hx | hx <;> rcases List.mem_append.1 (p2.mem_iff.1 hy) with hy | hy
    · exact a3 x hx y hy
    · exact h1 x hx y hy
    · exact h2 x hx y hy
    · exact b3 x hx y hy
  · refine (p1.append p2).trans ?_
    rw [List.append_assoc, List.append_assoc]
    refine List.Perm.append_left L1 ?_
    rw [← List.append_assoc, ← List.append_assoc]
    exact List.Perm.append_right R2 List.perm_append_comm
/-- what the search for the crossing finds -/
theorem cross_of {L R : List F} (hL : Srt L) (hR : Srt R) {s e : Nat} (hs : s ≤ L.length) (he : e ≤ R.length) (h1 : ∀ x y, 0 < s → L[s - 1]? = some x → R[e]? = some y → Le x y) (h2 : ∀ x y, 0 < e → R[e - 1]? = some y → L[s]? = some x → Le y x) :
    (∀ a ∈ L.take s, ∀ b ∈ R.drop e, Le a b) ∧ ∀ b ∈ R.take e, ∀ a ∈ L.drop s, Le b a := by
  constructor
  · intro a ha b hb
    obtain ⟨i, hi⟩ := List.getElem?_of_mem ha
    obtain ⟨j, hj⟩ := List.getElem?_of_mem hb
    have hil : i < s := by have := (List.getElem?_eq_some_iff.1 hi).1; simp at this; omega
    rw [List.getElem?_take_of_lt hil] at hi
    rw [List.getElem?_drop] at hj
    have hjl := (List.getElem?_eq_some_iff.1 hj).1
    obtain ⟨x, hx⟩ : ∃ x, L[s - 1]? = some x := ⟨_, List.getElem?_eq_getElem (by omega)⟩
    obtain ⟨y, hy⟩ : ∃ y, R[e]? = some y := ⟨_, List.getElem?_eq_getElem (by omega)⟩
    exact leB_tr (hL.le (by omega) hi hx) (leB_tr (h1 x y (by omega) hx hy) (hR.le (by omega) hy hj))
  · intro b hb a ha
    obtain ⟨i, hi⟩ := List.getElem?_of_mem hb
    obtain ⟨j, hj⟩ := List.getElem?_of_mem ha
    have hil : i < e := by have := (List.getElem?_eq_some_iff.1 hi).1; simp at this; omega
    rw [List.getElem?_take_of_lt hil] at hi
    rw [List.getElem?_drop] at hj
    have hjl := (List.getElem?_eq_some_iff.1 hj).1
    obtain ⟨x, hx⟩ : ∃ x, R[e - 1]? = some x := ⟨_, List.getElem?_eq_getElem (by omega)⟩
    obtain ⟨y, hy⟩ : ∃ y, L[s]? = some y := ⟨_, List.getElem?_eq_getElem (by omega)⟩
    exact leB_tr (hR.le (by omega) hi hx) (leB_tr (h2 y x (by omega) hx hy) (hL.le (by omega) hy hj))
/-! parts of a list that change places -/
theorem adj (P : List F) (x y : F) (S : List F) : (P ++ x :: y :: S)[P.length]? = some x ∧ (P ++ x :: y :: S)[P.length + 1]? = some y ∧ ((P ++ x :: y :: S).set P.length y).set (P.length + 1) x = P ++ y :: x :: S := by
  refine ⟨by simp, by simp, ?_⟩
  rw [mid_set]
  simp
theorem drop_cons {A : List F} {i : Nat} {x : F} (h : A[i]? = some x) : A.drop i = x :: A.drop (i + 1) := by
  obtain ⟨h1, h2⟩ := List.getElem?_eq_some_iff.1 h
  rw [List.drop_eq_getElem_cons h1, h2]
theorem take_snoc {A : List F} {i : Nat} {x : F} (h : A[i]? = some x) : A.take (i + 1) = A.take i ++ [x] := by
  rw [List.take_add_one, h]
  rfl
/-- i of the elements of A and B have changed places -/
def swL (P A M B Q : List F) (i : Nat) : List F := P ++ (B.take i ++ A.drop i) ++ M ++ (A.take i ++ B.drop i) ++ Q
theorem swap_step {P A M B Q : List F} {n i a b : Nat} {x y : F} (hA : A.length = n) (hB : B.length = n) (hP : P.length = a) (hb : b = a + n + M.length) (hx : A[i]? = some x) (hy : B[i]? = some y) :
    (swL P A M B Q i)[a + i]? = some x ∧ (swL P A M B Q i)[b + i]? = some y ∧ ((swL P A M B Q i).set (a + i) y).set (b + i) x = swL P A M B Q (i + 1) := by
  have hi : i < A.length := (List.getElem?_eq_some_iff.1 hx).1
  have e1 : swL P A M B Q i = (P ++ B.take i) ++ x :: (A.drop (i + 1) ++ M ++ (A.take i ++ B.drop i) ++ Q) := by
    unfold swL
    rw [drop_cons hx]
    simp
  have l1 : (P ++ B.take i).length = a + i := by simp; omega
  have e2 : swL P A M B Q i = (P ++ (B.take i ++ A.drop i) ++ M ++ A.take i) ++ y :: (B.drop (i + 1) ++ Q) := by
    unfold swL
    rw [drop_cons hy]
    simp
  have l2 : (P ++ (B.take i ++ A.drop i) ++ M ++ A.take i).length = b + i := by simp; omega
  refine ⟨?_, ?_, ?_⟩
  · rw [e1, ← l1, mid_get]
  · rw [e2, ← l2, mid_get]
  · rw [e1, ← l1, mid_set]
    have e3 : (P ++ B.take i) ++ y :: (A.drop (i + 1) ++ M ++ (A.take i ++ B.drop i) ++ Q) = (P ++ (B.take (i + 1) ++ A.drop (i + 1)) ++ M ++ A.take i) ++ y :: (B.drop (i + 1) ++ Q) := by
      rw [take_snoc hy, drop_cons hy]
      simp
    have l3 : (P ++ (B.take (i + 1) ++ A.drop (i + 1)) ++ M ++ A.take i).length = b + i := by simp; omega
    rw [e3, ← l3, mid_set]
    unfold swL
    rw [take_snoc hx]
    simp
theorem swL_zero (P A M B Q : List F) : swL P A M B Q 0 = P ++ A ++ M ++ B ++ Q := by simp [swL]
theorem swL_all {P A M B Q : List F} {n : Nat} (hA : A.length = n) (hB : B.length = n) : swL P A M B Q n = P ++ B ++ M ++ A ++ Q := by
  unfold swL
  rw [List.take_of_length_le (by omega), List.take_of_length_le (by omega), List.drop_of_length_le (by omega), List.drop_of_length_le (by omega)]
  simp
end Tr
end Go.Proofs.YtbefgplaaghlbaaGreatDoor
