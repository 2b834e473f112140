/-
  Plain: what a name is, over bytes and over runes (layer 4).
-/
import Derived.Test.YtipcockcndnipaaDoorSxA
import Derived.Shelf.GgClosure.StringsIndexFuncTop
import Derived.Laws.RangeString
import Derived.Laws.RangeAny
import Derived.Lib.ItoaMem
import Derived.Lib.ItoaLen
import Derived.Lib.AtoiAllCases
import Derived.Test.YtipcockcndnipaaDoorRows
import Derived.Test.YtipcockcndnipaaDoorCodeP
namespace Go.Proofs.YtipcockcndnipaaDoor
open Go.RowKit
namespace Nm

def nameR (r : Nat) : Bool := (decide (97 ≤ r) && decide (r ≤ 122)) || (decide (48 ≤ r) && decide (r ≤ 57)) || decide (r = 45) || decide (r = 95) || decide (r = 46)
theorem nameR_high {r : Nat} (h : 128 ≤ r) : nameR r = false := by
  simp only [nameR, Bool.or_eq_false_iff, Bool.and_eq_false_iff, decide_eq_false_iff_not]
  omega
/-- is it a name? -/
def nameL (l : List UInt8) : Bool := decide (1 ≤ l.length) && decide (l.length ≤ 32) && l.all (fun c => nameR c.toNat) && decide (l.head? ≠ some 46)
theorem idx_from (s : ByteArray) : ∀ (f pos : Nat), s.size ≤ pos + f → (Lib.idxFuncFrom (fun r => !nameR r) true s f pos = -1 ↔ ∀ (i : Nat) (h : i < s.size), pos ≤ i → nameR s[i].toNat = true)
  | 0, pos, hf => by
    rw [Lib.idxFuncFrom_end _ _ _ _ _ (by omega)]
    exact ⟨fun _ i h hp => by omega, fun _ => rfl⟩
  | f + 1, pos, hf => by
    by_cases hp : pos < s.size
    · unfold Lib.idxFuncFrom
      rw [if_pos hp]
      by_cases ha : s[pos].toNat < 128
      · rw [decode_ascii s pos hp ha]
        by_cases hn : nameR s[pos].toNat = true
        · dsimp only
          rw [hn, if_neg (by decide), idx_from s f (pos + 1) (by omega)]
          constructor
          · intro h i hi hpi
            by_cases e : i = pos
            · subst e; exact hn
            · exact h i hi (by omega)
          · exact fun h i hi hpi => h i hi (by omega)
        · have hn' : nameR s[pos].toNat = false := by simpa using hn
          dsimp only
          rw [hn', if_pos (by decide)]
          constructor
          · intro h; omega
          · intro h; exact absurd (h pos hp (Nat.le_refl _)) hn
      · have hd := (decode_high s pos hp (by omega)).1
        rw [nameR_high hd, if_pos (by decide)]
        constructor
        · intro h; omega
        · intro h
          have := h pos hp (Nat.le_refl _)
          rw [nameR_high (by omega)] at this
          cases this
    · rw [Lib.idxFuncFrom_end _ _ _ _ _ hp]
      exact ⟨fun _ i h hpi => by omega, fun _ => rfl⟩
theorem all_get {s : ByteArray} : s.data.toList.all (fun c => nameR c.toNat) = true ↔ ∀ (i : Nat) (h : i < s.size), nameR s[i].toNat = true := by
  rw [List.all_eq_true]
  have hz := Lib.size_eq s
  constructor
  · intro h i hi
    exact h _ (List.mem_of_getElem? (i := i) (by rw [List.getElem?_eq_getElem (by omega)]; rfl))
  · intro h c hc
    obtain ⟨k, hk⟩ := List.mem_iff_getElem?.1 hc
    have hkl := (List.getElem?_eq_some_iff.1 hk).1
    have := h k (by omega)
    rw [List.getElem?_eq_getElem hkl] at hk
    cases hk
    exact this
theorem idx_all (s : ByteArray) : decide (0 ≤ Lib.idxFunc (fun r => !nameR r) true s) = !(s.data.toList.all (fun c => nameR c.toNat)) := by
  have h1 := idx_from s s.size 0 (by omega)
  have h2 := Lib.idxFunc_range (fun r => !nameR r) true s
  have h3 := @all_get s
  change Lib.idxFunc _ _ _ = _ ↔ _ at h1
  cases ha : s.data.toList.all (fun c => nameR c.toNat)
  · have : ¬ Lib.idxFunc (fun r => !nameR r) true s = -1 := fun e => by
      have := h3.2 (fun i hi => h1.1 e i hi (Nat.zero_le _))
      rw [this] at ha
      cases ha
    simp only [Bool.not_false, decide_eq_true_eq]
    omega
  · have := h1.2 (fun i hi _ => h3.1 ha i hi)
    simp only [Bool.not_true, decide_eq_false_iff_not]
    omega
theorem head_get {s : ByteArray} (h : 0 < s.size) : s.data.toList.head? = some s[0] := by
  have hz := Lib.size_eq s
  rw [List.head?_eq_getElem?, List.getElem?_eq_getElem (by omega)]
  rfl
end Nm
end Go.Proofs.YtipcockcndnipaaDoor

/-
  Plain law of numerals: a number's digits are read back. No program in sight.
-/
namespace Go.Proofs.YtipcockcndnipaaDoor
open Go.RowKit
namespace Nu

def isD (c : UInt8) : Bool := decide (48 ≤ c.toNat) && decide (c.toNat ≤ 57)
def val (l : List UInt8) : Nat := l.foldl (fun n c => n * 10 + (c.toNat - 48)) 0
theorem isD_iff (c : UInt8) : isD c = true ↔ 48 ≤ c.toNat ∧ c.toNat ≤ 57 := by simp [isD]
theorem val_snoc (l : List UInt8) (c : UInt8) : val (l ++ [c]) = val l * 10 + (c.toNat - 48) := by simp [val]
theorem rev_ind {P : List UInt8 → Prop} (h0 : P []) (h1 : ∀ l c, P l → P (l ++ [c])) : ∀ l, P l := by
  intro l
  have : ∀ r : List UInt8, P r.reverse := fun r => by
    induction r with
    | nil => exact h0
    | cons c r ih => rw [List.reverse_cons]; exact h1 _ _ ih
  simpa using this l.reverse
theorem val_lt : ∀ l : List UInt8, (∀ c ∈ l, isD c = true) → val l < 10 ^ l.length := by
  intro l
  refine rev_ind (P := fun l => (∀ c ∈ l, isD c = true) → val l < 10 ^ l.length) (fun _ => by simp [val]) (fun l c ih h => ?_) l
  have h1 := ih (fun d hd => h d (by simp [hd]))
  have h2 := (isD_iff c).1 (h c (by simp))
  rw [val_snoc, List.length_append, List.length_singleton, Nat.pow_succ]
  omega
theorem val_ge : ∀ l : List UInt8, (∀ c ∈ l, isD c = true) → l.head? ≠ some 48 → l ≠ [] → 10 ^ (l.length - 1) ≤ val l := by
  intro l
  refine rev_ind (P := fun l => (∀ c ∈ l, isD c = true) → l.head? ≠ some 48 → l ≠ [] → 10 ^ (l.length - 1) ≤ val l) (fun _ _ h => absurd rfl h) (fun l c ih h hh _ => ?_) l
  have h2 := (isD_iff c).1 (h c (by simp))
  rw [val_snoc, List.length_append, List.length_singleton, Nat.add_sub_cancel]
  cases l with
  | nil =>
    have : c.toNat ≠ 48 := fun e => hh (by
      have : c = 48 := UInt8.toNat_inj.1 e
      simp [this])
    simp [val]
    omega
  | cons d l =>
    have h1 := ih (fun d hd => h d (by
      rw [List.mem_append]; exact .inl hd)) (by simpa using hh) (by simp)
    simp only [List.length_cons, Nat.add_sub_cancel] at h1 ⊢
    rw [Nat.pow_succ]
    omega
theorem dec_small {u : Nat} (h : u < 10) : Lib.decDigits u = [UInt8.ofNat (48 + u)] := by rw [Lib.decDigits, dif_pos h]
theorem dec_big {u : Nat} (h : ¬ u < 10) : Lib.decDigits u = Lib.decDigits (u / 10) ++ [UInt8.ofNat (48 + u % 10)] := by rw [Lib.decDigits, dif_neg h]
theorem digit_of {c : UInt8} (h : isD c = true) : UInt8.ofNat (48 + (c.toNat - 48)) = c := by
  have := (isD_iff c).1 h
  rw [show 48 + (c.toNat - 48) = c.toNat by omega]
  simp
theorem isD_of {k : Nat} (h : k < 10) : isD (UInt8.ofNat (48 + k)) = true := by
  rw [isD_iff, UInt8.toNat_ofNat_of_lt' (by show 48 + k < 256; omega)]
  omega
theorem toNat_of {k : Nat} (h : k < 10) : (UInt8.ofNat (48 + k)).toNat = 48 + k := UInt8.toNat_ofNat_of_lt' (by show 48 + k < 256; omega)
theorem dec_digits (u : Nat) : ∀ c ∈ Lib.decDigits u, isD c = true := by
  induction u using Nat.strongRecOn with
  | _ u ih =>
    by_cases h : u < 10
    · rw [dec_small h]
      intro c hc
      obtain rfl := List.mem_singleton.1 hc
      exact isD_of h
    · rw [dec_big h]
      intro c hc
      rw [List.mem_append, List.mem_singleton] at hc
      rcases hc with hc | rfl
      · exact ih (u / 10) (by omega) c hc
      · exact isD_of (by omega)
theorem dec_val (u : Nat) : val (Lib.decDigits u) = u := by
  induction u using Nat.strongRecOn with
  | _ u ih =>
    by_cases h : u < 10
    · rw [dec_small h]; simp only [val, List.foldl_cons, List.foldl_nil, toNat_of h]; omega
    · rw [dec_big h, val_snoc, ih (u / 10) (by omega), toNat_of (by omega)]; omega
theorem dec_ne (u : Nat) : Lib.decDigits u ≠ [] := fun h => by
  have h1 := Lib.decDigits_length u
  rw [h] at h1
  have := Lib.nDigits_pos u
  simp at h1
  omega
theorem vl_ge : ∀ (l : List UInt8) (acc : Nat), acc ≤ l.foldl (fun n c => n * 10 + (c.toNat - 48)) acc
  | [], acc => Nat.le_refl _
  | c :: l, acc => by
    have := vl_ge l (acc * 10 + (c.toNat - 48))
    simp only [List.foldl_cons]
    omega
theorem parse_digits : ∀ (l : List UInt8) (acc : Nat), (∀ c ∈ l, isD c = true) → l.foldl (fun n c => n * 10 + (c.toNat - 48)) acc < 18446744073709551616 → Lib.parseUint10 acc l = .ok (l.foldl (fun n c => n * 10 + (c.toNat - 48)) acc)
  | [], acc, _, _ => rfl
  | c :: l, acc, hd, hv => by
    have hc := (isD_iff c).1 (hd c (by simp))
    simp only [List.foldl_cons] at hv ⊢
    have hg := vl_ge l (acc * 10 + (c.toNat - 48))
    rw [Lib.parseUint10, if_pos hc, if_neg (by omega), if_neg (by omega)]
    exact parse_digits l _ (fun d hd' => hd d (by simp [hd'])) hv
theorem mag_dec (u : Nat) (h : u < 18446744073709551616) : Lib.parseMag (Lib.decDigits u) = .ok u := by
  unfold Lib.parseMag
  rw [if_neg (dec_ne u)]
  have hv : (Lib.decDigits u).foldl (fun n c => n * 10 + (c.toNat - 48)) 0 = u := dec_val u
  rw [parse_digits _ _ (dec_digits u) (by rw [hv]; exact h), hv]
theorem atoi_itoa (n : Int) (h0 : -9223372036854775808 ≤ n) (h1 : n ≤ 9223372036854775807) : Lib.atoiAll (Lib.itoa n) = .ok n := by
  by_cases hn : n < 0
  · obtain ⟨u, rfl⟩ : ∃ u : Nat, n = -(u : Int) := ⟨n.natAbs, by omega⟩
    rw [Lib.itoa_neg u (by omega), Lib.atoiAll_minus, mag_dec u (by omega)]
    simp only [Lib.signed]
    rw [if_neg (by omega)]
  · obtain ⟨u, rfl⟩ : ∃ u : Nat, n = (u : Int) := ⟨n.toNat, by omega⟩
    rw [Lib.itoa_nonneg]
    cases hd : Lib.decDigits u with
    | nil => exact absurd hd (dec_ne u)
    | cons c r =>
      have hc := (isD_iff c).1 (dec_digits u c (by rw [hd]; simp))
      rw [Lib.atoiAll_plain c r (by omega) (by omega), ← hd, mag_dec u (by omega)]
      simp only [Lib.signless]
      rw [if_neg (by omega)]
theorem itoa_inj {n m : Int} (h0 : -9223372036854775808 ≤ n) (h1 : n ≤ 9223372036854775807) (g0 : -9223372036854775808 ≤ m) (g1 : m ≤ 9223372036854775807) (h : Lib.itoa n = Lib.itoa m) : n = m := by
  have e1 := atoi_itoa n h0 h1
  have e2 := atoi_itoa m g0 g1
  rw [h, e2] at e1
  injection e1 with e1
  exact e1.symm
theorem itoa_chars (n : Int) : ∀ c ∈ Lib.itoa n, c = 45 ∨ isD c = true := by
  intro c hc
  by_cases hn : n < 0
  · obtain ⟨u, rfl⟩ : ∃ u : Nat, n = -(u : Int) := ⟨n.natAbs, by omega⟩
    rw [Lib.itoa_neg u (by omega)] at hc
    rcases List.mem_cons.1 hc with h | h
    · exact .inl h
    · exact .inr (dec_digits u c h)
  · obtain ⟨u, rfl⟩ : ∃ u : Nat, n = (u : Int) := ⟨n.toNat, by omega⟩
    rw [Lib.itoa_nonneg] at hc
    exact .inr (dec_digits u c hc)
theorem itoa_nat_chars (u : Nat) : ∀ c ∈ Lib.itoa (u : Int), isD c = true := by
  intro c hc
  rw [Lib.itoa_nonneg] at hc
  exact dec_digits u c hc

end Nu
end Go.Proofs.YtipcockcndnipaaDoor

/-
  Plain: a text's pieces between line feeds.
-/
namespace Go.Proofs.YtipcockcndnipaaDoor
namespace As

/-- a text's pieces between line feeds -/
def linesL : List UInt8 → List (List UInt8)
  | [] => [[]]
  | c :: l => if c = 10 then [] :: linesL l else match linesL l with
    | [] => [[c]]
    | h :: t => (c :: h) :: t
theorem lines_one : ∀ (a : List UInt8), (∀ c ∈ a, c ≠ 10) → linesL a = [a]
  | [], _ => rfl
  | c :: a, h => by
    rw [linesL, if_neg (h c (.head _)), lines_one a fun x hx => h x (.tail _ hx)]
theorem lines_cat : ∀ (a b : List UInt8), (∀ c ∈ a, c ≠ 10) → linesL (a ++ 10 :: b) = a :: linesL b
  | [], b, _ => by rw [List.nil_append, linesL, if_pos rfl]
  | c :: a, b, h => by
    rw [List.cons_append, linesL, if_neg (h c (.head _)), lines_cat a b fun x hx => h x (.tail _ hx)]

theorem lines_of : ∀ (ls : List (List UInt8)), (∀ l ∈ ls, ∀ c ∈ l, c ≠ 10) → linesL (ls.flatMap fun l => l ++ [10]) = ls ++ [[]]
  | [], _ => rfl
  | l :: ls, h => by
    rw [List.flatMap_cons, List.append_assoc, List.singleton_append, lines_cat l _ (h l (.head _)), lines_of ls fun x hx => h x (.tail _ hx)]
    rfl

end As
end Go.Proofs.YtipcockcndnipaaDoor

/-
  Plain law of the machine's texts (layer 9): lines, quotes, instructions, labels; what a text's program is. No program in sight.
-/
namespace Go.Proofs.YtipcockcndnipaaDoor
open Go.RowKit
namespace As

/-- a digit's number; 16: it is none -/
def hexv (c : UInt8) : Nat := if 48 ≤ c.toNat ∧ c.toNat ≤ 57 then c.toNat - 48 else if 97 ≤ c.toNat ∧ c.toNat ≤ 102 then c.toNat - 87 else 16
def hexDig (n : Nat) : UInt8 := if n < 10 then UInt8.ofNat (48 + n) else UInt8.ofNat (87 + n)
theorem hexv_dig : ∀ n : Fin 16, hexv (hexDig n.1) = n.1 := by decide +kernel
def escB (c : UInt8) : List UInt8 := if c.toNat < 32 ∨ 126 < c.toNat ∨ c = 34 ∨ c = 92 then [92, hexDig (c.toNat / 16), hexDig (c.toNat % 16)] else [c]
def quoteL (s : List UInt8) : List UInt8 := 34 :: (s.flatMap escB ++ [34])
/-- what stands between the quotes, read -/
def unqF : Nat → List UInt8 → Option (List UInt8)
  | 0, _ => none
  | _ + 1, [] => some []
  | f + 1, c :: l => if c.toNat < 32 ∨ 126 < c.toNat ∨ c = 34 then none else if c = 92 then (match l with
      | a :: b :: r => if hexv a = 16 ∨ hexv b = 16 then none else (unqF f r).map (UInt8.ofNat (16 * hexv a + hexv b) :: ·)
      | _ => none) else (unqF f l).map (c :: ·)
def unqL (l : List UInt8) : Option (List UInt8) := unqF (l.length + 1) l
def unq (s : List UInt8) : Option (List UInt8) := if s.length < 2 ∨ s.head? ≠ some 34 ∨ s.getLast? ≠ some 34 then none else unqL ((s.drop 1).dropLast)
theorem byte_back (c : UInt8) : UInt8.ofNat (16 * (c.toNat / 16) + c.toNat % 16) = c := by
  have h : 16 * (c.toNat / 16) + c.toNat % 16 = c.toNat := by omega
  rw [h]
  exact UInt8.ofNat_toNat
theorem unqF_esc : ∀ (s : List UInt8) (f : Nat), (s.flatMap escB).length < f → unqF f (s.flatMap escB) = some s
  | [], 0, h => by simp at h
  | [], f + 1, _ => rfl
  | c :: s, 0, h => by omega
  | c :: s, f + 1, h => by
    have hlt := c.toNat_lt
    have h1 : hexv (hexDig (c.toNat / 16)) = c.toNat / 16 := hexv_dig ⟨c.toNat / 16, by omega⟩
    have h2 : hexv (hexDig (c.toNat % 16)) = c.toNat % 16 := hexv_dig ⟨c.toNat % 16, by omega⟩
    rw [List.flatMap_cons] at h ⊢
    unfold escB at h ⊢
    by_cases hc : c.toNat < 32 ∨ 126 < c.toNat ∨ c = 34 ∨ c = 92
    · rw [if_pos hc] at h ⊢
      have ih := unqF_esc s f (by simp only [List.cons_append, List.nil_append, List.length_cons] at h; unfold escB; omega)
      show unqF (f + 1) (92 :: hexDig (c.toNat / 16) :: hexDig (c.toNat % 16) :: s.flatMap escB) = _
      rw [unqF.eq_def]
      dsimp only
      rw [if_neg (by decide), if_pos rfl, if_neg (by rw [h1, h2]; omega), ih, h1, h2, byte_back]
      rfl
    · rw [if_neg hc] at h ⊢
      have ih := unqF_esc s f (by simp only [List.cons_append, List.nil_append, List.length_cons] at h; unfold escB; omega)
      show unqF (f + 1) (c :: s.flatMap escB) = _
      rw [unqF.eq_def]
      dsimp only
      rw [if_neg (fun g => hc (by rcases g with g | g | g; exact .inl g; exact .inr (.inl g); exact .inr (.inr (.inl g)))), if_neg (fun g => hc (.inr (.inr (.inr g)))), ih]
      rfl
/-- what is put between quotes is read back -/
theorem unq_quote (s : List UInt8) : unq (quoteL s) = some s := by
  unfold unq quoteL
  have hl : (34 :: (s.flatMap escB ++ [34])).getLast? = some 34 := by rw [← List.cons_append, List.getLast?_concat]
  rw [if_neg (by rw [hl]; simp)]
  simp only [List.drop_succ_cons, List.drop_zero, List.dropLast_concat]
  exact unqF_esc s _ (Nat.lt_succ_self _)

/-- a line's word, what stands behind its first blank, and whether there is one -/
def word (l : List UInt8) : List UInt8 := l.takeWhile (· != 32)
def arg (l : List UInt8) : List UInt8 := (l.dropWhile (· != 32)).drop 1
def more (l : List UInt8) : Bool := l.any (· == 32)
theorem word_none : ∀ (l : List UInt8), (∀ c ∈ l, c ≠ 32) → word l = l ∧ arg l = [] ∧ more l = false
  | [], _ => ⟨rfl, rfl, rfl⟩
  | c :: l, h => by
    have hc := h c (.head _)
    have ih := word_none l fun x hx => h x (.tail _ hx)
    unfold word arg more at *
    refine ⟨?_, ?_, ?_⟩
    · simp [hc, ih.1]
    · simp [hc, ih.2.1]
    · simpa [hc] using ih.2.2
theorem word_some : ∀ (a b : List UInt8), (∀ c ∈ a, c ≠ 32) → word (a ++ 32 :: b) = a ∧ arg (a ++ 32 :: b) = b ∧ more (a ++ 32 :: b) = true
  | [], b, _ => ⟨by simp [word], by simp [arg], by simp [more]⟩
  | c :: a, b, h => by
    have hc := h c (.head _)
    have ih := word_some a b fun x hx => h x (.tail _ hx)
    unfold word arg more at *
    refine ⟨?_, ?_, ?_⟩
    · simp [hc, ih.1]
    · simp [hc, ih.2.1]
    · simp
/-- the instruction of a line, and the label that it names -/
def insL (l : List UInt8) : Option (Cd.I × List UInt8) :=
  if Cd.opN (word l) = 0 ∨ more l = decide (Cd.takes (Cd.opN (word l)) = 0) then none
  else if Cd.takes (Cd.opN (word l)) = 2 then (unq (arg l)).map fun t => (⟨Cd.opN (word l), 0, ⟨t.toArray⟩⟩, [])
  else if Cd.takes (Cd.opN (word l)) = 4 then (if Nm.nameL (arg l) = true then some (⟨Cd.opN (word l), 0, ⟨#[]⟩⟩, arg l) else none)
  else if Cd.takes (Cd.opN (word l)) = 0 then some (⟨Cd.opN (word l), 0, ⟨#[]⟩⟩, [])
  else match Lib.atoiAll (arg l) with
    | .ok n => if Lib.itoa n = arg l then some (⟨Cd.opN (word l), n, ⟨#[]⟩⟩, []) else none
    | _ => none

/-- an assembling under way -/
structure St where
  prog : List Cd.I
  wants : List (List UInt8)
  lines : List Nat
  labs : List (List UInt8 × Nat)
inductive Stp
  | ok (st : St)
  | bad (e : Int)
def at? (labs : List (List UInt8 × Nat)) (l : List UInt8) : Option Nat := (labs.find? fun x => x.1 == l).map (·.2)
def isLab (l : List UInt8) : Bool := decide (l.getLast? = some 58) && Nm.nameL l.dropLast
def lineP (n : Nat) (l : List UInt8) (st : St) : Stp :=
  if l = [] ∨ l.head? = some 59 then .ok st
  else if isLab l = true then (if (at? st.labs l.dropLast).isSome = true then .bad 11 else .ok { st with labs := st.labs ++ [(l.dropLast, st.prog.length)] })
  else match insL l with
    | none => .bad 50
    | some (x, want) => .ok ⟨st.prog ++ [x], st.wants ++ [want], st.lines ++ [n], st.labs⟩
inductive Scn
  | ok (st : St)
  | bad (n : Nat) (e : Int)
def scan : Nat → List (List UInt8) → St → Scn
  | _, [], st => .ok st
  | n, l :: ls, st => match lineP (n + 1) l st with
    | .bad e => .bad (n + 1) e
    | .ok st' => scan (n + 1) ls st'

theorem scan_append : ∀ (a b : List (List UInt8)) (n : Nat) (st : St), scan n (a ++ b) st = match scan n a st with
    | .bad k e => .bad k e
    | .ok st' => scan (n + a.length) b st'
  | [], b, n, st => by rw [List.nil_append, scan]; rfl
  | l :: a, b, n, st => by
    rw [List.cons_append, scan, scan]
    cases hl : lineP (n + 1) l st with
    | bad e => rfl
    | ok st' =>
      dsimp only
      rw [scan_append a b (n + 1) st']
      cases scan (n + 1) a st' with
      | bad k e => rfl
      | ok st2 => dsimp only; rw [List.length_cons, show n + 1 + a.length = n + (a.length + 1) by omega]
/-- the labels' places put in -/
inductive Rs
  | ok (p : List Cd.I)
  | bad (n : Nat) (e : Int)
def resolve (labs : List (List UInt8 × Nat)) : List Cd.I → List (List UInt8) → List Nat → Rs
  | x :: p, w :: ws, k :: ks =>
    if w = [] then (match resolve labs p ws ks with
      | .ok q => .ok (x :: q)
      | r => r)
    else match at? labs w with
      | none => .bad k 31
      | some a => match resolve labs p ws ks with
        | .ok q => .ok ({ x with n := (a : Int) } :: q)
        | r => r
  | p, _, _ => .ok p
/-- a text's program; or the line of the first fault -/
def asmP (s : List UInt8) : List Cd.I × Int × Int :=
  if 65536 < s.length then ([], 0, 3)
  else match scan 0 (linesL s) ⟨[], [], [], []⟩ with
    | .bad n e => ([], (n : Int), e)
    | .ok st => match resolve st.labs st.prog st.wants st.lines with
      | .bad n e => ([], (n : Int), e)
      | .ok p => if (Cd.check p).2 = 13 then ([], 0, 13)
        else if (Cd.check p).2 ≠ 0 then ([], ((st.lines.getD (Cd.check p).1.toNat 0 : Nat) : Int), (Cd.check p).2)
        else (p, 0, 0)
/-- what stands behind an instruction's word -/
def argT (x : Cd.I) : List UInt8 :=
  if Cd.takes x.op = 1 ∨ Cd.takes x.op = 3 then 32 :: Lib.itoa x.n
  else if Cd.takes x.op = 2 then 32 :: quoteL x.s.data.toList
  else if Cd.takes x.op = 4 then 32 :: 108 :: Lib.itoa x.n
  else []
def insT (x : Cd.I) : List UInt8 := Cd.wordL x.op ++ argT x
def labT (i : Nat) : List UInt8 := 108 :: (Lib.itoa (i : Int) ++ [58])
def aim (p : List Cd.I) (i : Nat) : Bool := p.any fun y => decide (Cd.takes y.op = 4) && decide (y.n = (i : Int))
def bitL (p : List Cd.I) (i : Nat) (x : Cd.I) : List (List UInt8) := (if aim p i = true then [labT i] else []) ++ [insT x]
def disF (p : List Cd.I) : Nat → List Cd.I → List (List UInt8)
  | _, [] => []
  | i, x :: r => bitL p i x ++ disF p (i + 1) r
def disL (p : List Cd.I) : List UInt8 := (disF p 0 p).flatMap fun l => l ++ [10]
end As
end Go.Proofs.YtipcockcndnipaaDoor

/-
  Plain law of the machine's texts: an instruction's line is read back; a label's line.
-/
namespace Go.Proofs.YtipcockcndnipaaDoor
open Go.RowKit
namespace As
open Nu

theorem wl_chars : ∀ k : Fin 31, (Cd.wl k.1).all (fun c => decide (97 ≤ c.toNat) && decide (c.toNat ≤ 122)) = true := by decide +kernel
theorem word_chars (n : Int) : ∀ c ∈ Cd.wordL n, 97 ≤ c.toNat ∧ c.toNat ≤ 122 := by
  intro c hc
  unfold Cd.wordL at hc
  by_cases h : 0 ≤ n ∧ n < 31
  · rw [if_pos h] at hc
    have h1 := List.all_eq_true.1 (wl_chars ⟨n.toNat, by omega⟩) c hc
    simpa using h1
  · rw [if_neg h] at hc
    cases hc
theorem esc_chars_all : ∀ k : Fin 256, (escB (UInt8.ofNat k.1)).all (fun c => decide (32 ≤ c.toNat) && decide (c.toNat ≤ 126)) = true := by decide +kernel
theorem esc_chars (c : UInt8) : ∀ x ∈ escB c, 32 ≤ x.toNat ∧ x.toNat ≤ 126 := by
  intro x hx
  have h := esc_chars_all ⟨c.toNat, c.toNat_lt⟩
  have hc : UInt8.ofNat c.toNat = c := UInt8.ofNat_toNat
  dsimp only at h
  rw [hc] at h
  simpa using List.all_eq_true.1 h x hx
theorem quote_chars (s : List UInt8) : ∀ x ∈ quoteL s, 32 ≤ x.toNat ∧ x.toNat ≤ 126 := by
  intro x hx
  unfold quoteL at hx
  rcases List.mem_cons.1 hx with rfl | hx
  · decide
  · rcases List.mem_append.1 hx with hx | hx
    · obtain ⟨c, _, hc⟩ := List.mem_flatMap.1 hx
      exact esc_chars c x hc
    · obtain rfl := List.mem_singleton.1 hx
      decide
theorem itoa_lim (n : Int) : ∀ c ∈ Lib.itoa n, 45 ≤ c.toNat ∧ c.toNat ≤ 57 := by
  intro c hc
  rcases itoa_chars n c hc with rfl | h
  · decide
  · have := (isD_iff c).1 h
    omega
theorem arg_chars (x : Cd.I) : ∀ c ∈ argT x, 32 ≤ c.toNat ∧ c.toNat ≤ 126 := by
  intro c hc
  unfold argT at hc
  split at hc
  · rcases List.mem_cons.1 hc with rfl | hc
    · decide
    · have := itoa_lim _ c hc; omega
  · split at hc
    · rcases List.mem_cons.1 hc with rfl | hc
      · decide
      · exact quote_chars _ c hc
    · split at hc
      · rcases List.mem_cons.1 hc with rfl | hc
        · decide
        · rcases List.mem_cons.1 hc with rfl | hc
          · decide
          · have := itoa_lim _ c hc; omega
      · cases hc
theorem ins_chars (x : Cd.I) : ∀ c ∈ insT x, 32 ≤ c.toNat ∧ c.toNat ≤ 126 := by
  intro c hc
  rcases List.mem_append.1 hc with hc | hc
  · have := word_chars _ c hc; omega
  · exact arg_chars x c hc
theorem lab_chars (i : Nat) : ∀ c ∈ labT i, 45 ≤ c.toNat ∧ c.toNat ≤ 126 := by
  intro c hc
  unfold labT at hc
  rcases List.mem_cons.1 hc with rfl | hc
  · decide
  · rcases List.mem_append.1 hc with hc | hc
    · have := itoa_lim _ c hc; omega
    · obtain rfl := List.mem_singleton.1 hc
      decide
/-- a place's name is a name -/
theorem name_of (i : Nat) (h : i < 10 ^ 18) : Nm.nameL (108 :: Lib.itoa (i : Int)) = true := by
  have hl := Lib.itoa_length_le (i : Int) (by omega) (by omega)
  unfold Nm.nameL
  simp only [Bool.and_eq_true, decide_eq_true_eq, List.length_cons, List.head?_cons]
  refine ⟨⟨⟨by omega, by omega⟩, ?_⟩, by simp⟩
  rw [List.all_eq_true]
  intro c hc
  rcases List.mem_cons.1 hc with rfl | hc
  · decide
  · have := (isD_iff c).1 (itoa_nat_chars i c hc)
    simp [Nm.nameR, this]
theorem lab_is (i : Nat) (h : i < 10 ^ 18) : isLab (labT i) = true ∧ (labT i).dropLast = 108 :: Lib.itoa (i : Int) := by
  have h1 : labT i = (108 :: Lib.itoa (i : Int)) ++ [58] := rfl
  have h2 : (labT i).dropLast = 108 :: Lib.itoa (i : Int) := by rw [h1, List.dropLast_concat]
  refine ⟨?_, h2⟩
  have hg : (labT i).getLast? = some 58 := by rw [h1, List.getLast?_concat]
  unfold isLab
  rw [h2, name_of i h, hg]
  rfl
/-- the instruction with its place left out, and the place's name -/
def bare (x : Cd.I) : Cd.I := if Cd.takes x.op = 4 then { x with n := 0 } else x
def wantT (x : Cd.I) : List UInt8 := if Cd.takes x.op = 4 then 108 :: Lib.itoa x.n else []

end As
end Go.Proofs.YtipcockcndnipaaDoor

/-
  Plain law of the machine's texts: the line of an instruction that can stand somewhere is read as it, its place left out.
-/
namespace Go.Proofs.YtipcockcndnipaaDoor
open Go.RowKit
namespace As
open Nu

def N64 (x : Cd.I) : Prop := -9223372036854775808 ≤ x.n ∧ x.n ≤ 9223372036854775807
theorem takes_cases (n : Int) : Cd.takes n = 0 ∨ Cd.takes n = 1 ∨ Cd.takes n = 2 ∨ Cd.takes n = 3 ∨ Cd.takes n = 4 := by
  unfold Cd.takes
  split
  · simp
  · split
    · simp
    · split
      · simp
      · split <;> simp
structure RF (x : Cd.I) (c : Int) : Prop where
  word : Cd.wordB x.op ≠ ⟨#[]⟩
  num : Cd.takes x.op = 0 ∨ Cd.takes x.op = 2 → x.n = 0
  txt : Cd.takes x.op ≠ 2 → x.s = ⟨#[]⟩
  place : Cd.takes x.op = 4 → 0 ≤ x.n ∧ x.n < c
theorem right_facts {x : Cd.I} {c : Int} (h : Cd.right x c = true) : RF x c := by
  unfold Cd.right at h
  by_cases hw : Cd.wordB x.op = ⟨#[]⟩
  · rw [if_pos hw] at h; cases h
  rw [if_neg hw] at h
  by_cases h2 : Cd.takes x.op = 2
  · rw [if_pos h2] at h
    simp only [Bool.and_eq_true, decide_eq_true_eq] at h
    exact ⟨hw, fun _ => h.1, fun g => absurd h2 g, fun g => by omega⟩
  rw [if_neg h2] at h
  by_cases hs : x.s = ⟨#[]⟩
  · rw [if_neg (by simpa using hs)] at h
    by_cases h0 : Cd.takes x.op = 0
    · rw [if_pos h0] at h
      exact ⟨hw, fun _ => by simpa using h, fun _ => hs, fun g => by omega⟩
    rw [if_neg h0] at h
    by_cases h3 : Cd.takes x.op = 3
    · exact ⟨hw, fun g => by omega, fun _ => hs, fun g => by omega⟩
    rw [if_neg h3] at h
    by_cases h4 : Cd.takes x.op = 4
    · rw [if_pos h4] at h
      simp only [Bool.and_eq_true, decide_eq_true_eq] at h
      exact ⟨hw, fun g => by omega, fun _ => hs, fun _ => h⟩
    · exact ⟨hw, fun g => by omega, fun _ => hs, fun g => absurd g h4⟩
  · rw [if_pos (by simpa using hs)] at h; cases h
theorem op_back {n : Int} (h : Cd.wordB n ≠ ⟨#[]⟩) : (Cd.opN (Cd.wordL n) : Int) = n := Cd.op_word h
theorem op_ne {n : Int} (h : Cd.wordB n ≠ ⟨#[]⟩) : Cd.opN (Cd.wordL n) ≠ 0 := fun e => by
  have h1 := op_back h
  rw [e] at h1
  subst h1
  exact h rfl
theorem word_bare (n : Int) : word (Cd.wordL n) = Cd.wordL n ∧ arg (Cd.wordL n) = [] ∧ more (Cd.wordL n) = false :=
  word_none _ fun c hc e => by have := word_chars n c hc; subst e; exact absurd this (by decide)
theorem word_with (n : Int) (b : List UInt8) : word (Cd.wordL n ++ 32 :: b) = Cd.wordL n ∧ arg (Cd.wordL n ++ 32 :: b) = b ∧ more (Cd.wordL n ++ 32 :: b) = true :=
  word_some _ _ fun c hc e => by have := word_chars n c hc; subst e; exact absurd this (by decide)
/-- the line of an instruction that can stand somewhere is read as it -/
theorem ins_back {x : Cd.I} {c : Int} (h : Cd.right x c = true) (hn : N64 x) (hc : c ≤ 256) : insL (insT x) = some (bare x, wantT x) := by
  have hf := right_facts h
  have ho := op_back hf.word
  have h0 := op_ne hf.word
  obtain ⟨op, n, s⟩ := x
  dsimp only [N64] at *
  rcases takes_cases op with ht | ht | ht | ht | ht
  · have hs := hf.txt (by dsimp only; omega)
    have hz := hf.num (.inl ht)
    dsimp only at hs hz
    subst hs hz
    have e : insT ⟨op, 0, ⟨#[]⟩⟩ = Cd.wordL op := by simp [insT, argT, ht]
    rw [e, insL, (word_bare op).1, (word_bare op).2.2, ho, if_neg (by simp [h0, ht]), if_neg (by omega), if_neg (by omega), if_pos ht]
    simp [bare, wantT, ht]
  · have hs := hf.txt (by dsimp only; omega)
    dsimp only at hs
    subst hs
    have e : insT ⟨op, n, ⟨#[]⟩⟩ = Cd.wordL op ++ 32 :: Lib.itoa n := by simp [insT, argT, ht]
    rw [e, insL, (word_with op _).1, (word_with op _).2.1, (word_with op _).2.2, ho, if_neg (by simp [h0, ht]), if_neg (by omega), if_neg (by omega), if_neg (by omega), atoi_itoa n hn.1 hn.2]
    simp [bare, wantT, ht]
  · have hz := hf.num (.inr ht)
    dsimp only at hz
    subst hz
    have e : insT ⟨op, 0, s⟩ = Cd.wordL op ++ 32 :: quoteL s.data.toList := by simp [insT, argT, ht]
    rw [e, insL, (word_with op _).1, (word_with op _).2.1, (word_with op _).2.2, ho, if_neg (by simp [h0, ht]), if_pos ht, unq_quote]
    simp [bare, wantT, ht]
  · have hs := hf.txt (by dsimp only; omega)
    dsimp only at hs
    subst hs
    have e : insT ⟨op, n, ⟨#[]⟩⟩ = Cd.wordL op ++ 32 :: Lib.itoa n := by simp [insT, argT, ht]
    rw [e, insL, (word_with op _).1, (word_with op _).2.1, (word_with op _).2.2, ho, if_neg (by simp [h0, ht]), if_neg (by omega), if_neg (by omega), if_neg (by omega), atoi_itoa n hn.1 hn.2]
    simp [bare, wantT, ht]
  · have hs := hf.txt (by dsimp only; omega)
    have hp := hf.place ht
    dsimp only at hs hp
    subst hs
    obtain ⟨i, rfl⟩ : ∃ i : Nat, n = i := ⟨n.toNat, by omega⟩
    have e : insT ⟨op, (i : Int), ⟨#[]⟩⟩ = Cd.wordL op ++ 32 :: 108 :: Lib.itoa (i : Int) := by simp [insT, argT, ht]
    rw [e, insL, (word_with op _).1, (word_with op _).2.1, (word_with op _).2.2, ho, if_neg (by simp [h0, ht]), if_neg (by omega), if_pos ht, if_pos (name_of i (by omega))]
    simp [bare, wantT, ht]

end As
end Go.Proofs.YtipcockcndnipaaDoor

/-
  Plain law of the machine's texts: what a line of a written program does to an assembling under way.
-/
namespace Go.Proofs.YtipcockcndnipaaDoor
open Go.RowKit
namespace As
open Nu

theorem word_ne {n : Int} (h : Cd.wordB n ≠ ⟨#[]⟩) : Cd.wordL n ≠ [] := fun e => h (by unfold Cd.wordB; rw [e])
theorem ins_head {x : Cd.I} (hw : Cd.wordB x.op ≠ ⟨#[]⟩) : insT x ≠ [] ∧ (insT x).head? ≠ some 59 := by
  have h1 := word_ne hw
  have h2 := word_chars x.op
  unfold insT
  cases hl : Cd.wordL x.op with
  | nil => exact absurd hl h1
  | cons c r =>
    rw [hl] at h2
    have h3 := h2 c (.head _)
    refine ⟨by simp, fun e => ?_⟩
    rw [List.cons_append, List.head?_cons] at e
    injection e with e
    subst e
    exact absurd h3 (by decide)
theorem ins_colon {x : Cd.I} (h : Cd.takes x.op ≠ 2) : ∀ c ∈ insT x, c ≠ 58 := by
  intro c hc e
  subst e
  rcases List.mem_append.1 hc with hc | hc
  · exact absurd (word_chars _ _ hc) (by decide)
  · unfold argT at hc
    split at hc
    · rcases List.mem_cons.1 hc with hc | hc
      · exact absurd hc (by decide)
      · exact absurd (itoa_lim _ _ hc) (by decide)
    · split at hc
      · rcases List.mem_cons.1 hc with hc | hc
        · exact absurd hc (by decide)
        · rcases List.mem_cons.1 hc with hc | hc
          · exact absurd hc (by decide)
          · exact absurd (itoa_lim _ _ hc) (by decide)
      · cases hc
theorem ins_last (x : Cd.I) : (insT x).getLast? ≠ some 58 := by
  by_cases h : Cd.takes x.op = 2
  · have e : insT x = (Cd.wordL x.op ++ 32 :: 34 :: x.s.data.toList.flatMap escB) ++ [34] := by simp [insT, argT, h, quoteL]
    rw [e, List.getLast?_concat]
    simp
  · exact fun e => ins_colon h 58 (List.mem_of_getLast? e) rfl
theorem line_nil (n : Nat) (st : St) : lineP n [] st = .ok st := by simp [lineP]
theorem line_note (n : Nat) (l : List UInt8) (st : St) : lineP n (59 :: l) st = .ok st := by simp [lineP]
theorem line_ins {x : Cd.I} {c : Int} (h : Cd.right x c = true) (hn : N64 x) (hc : c ≤ 256) (n : Nat) (st : St) :
    lineP n (insT x) st = .ok ⟨st.prog ++ [bare x], st.wants ++ [wantT x], st.lines ++ [n], st.labs⟩ := by
  have h1 := ins_head (right_facts h).word
  have h2 : isLab (insT x) = false := by
    unfold isLab
    rw [decide_eq_false (ins_last x)]
    rfl
  unfold lineP
  rw [if_neg (by rintro (e | e); exact h1.1 e; exact h1.2 e), if_neg (by rw [h2]; decide), ins_back h hn hc]
theorem line_lab (i n : Nat) (st : St) (h : i < 10 ^ 18) (hno : at? st.labs (108 :: Lib.itoa (i : Int)) = none) :
    lineP n (labT i) st = .ok { st with labs := st.labs ++ [(108 :: Lib.itoa (i : Int), st.prog.length)] } := by
  have h1 := lab_is i h
  unfold lineP
  rw [if_neg (by rintro (e | e); exact absurd e (by simp [labT]); exact absurd e (by simp [labT])), if_pos h1.1, h1.2, hno]
  rfl

end As
end Go.Proofs.YtipcockcndnipaaDoor

/-
  Plain law of the machine's texts: the lines of a written program are gone over: its instructions with their places left out, and its labels.
-/
namespace Go.Proofs.YtipcockcndnipaaDoor
open Go.RowKit
namespace As
open Nu

theorem at_snoc {labs : List (List UInt8 × Nat)} {l m : List UInt8} {k : Nat} (h : at? labs m = none) (hne : l ≠ m) : at? (labs ++ [(l, k)]) m = none := by
  unfold at? at *
  rw [Option.map_eq_none_iff] at *
  rw [List.find?_append, h, List.find?_cons_of_neg (by simpa using hne)]
  rfl
def labsF (p : List Cd.I) : Nat → List Cd.I → List (List UInt8 × Nat)
  | _, [] => []
  | i, _ :: r => (if aim p i = true then [(108 :: Lib.itoa (i : Int), i)] else []) ++ labsF p (i + 1) r
theorem scan_dis (p : List Cd.I) (c : Int) (hc : c ≤ 256) : ∀ (r : List Cd.I) (i n : Nat) (st : St), (∀ x ∈ r, Cd.right x c = true ∧ N64 x) → i + r.length ≤ 256 → st.prog.length = i →
    (∀ j : Nat, i ≤ j → j ≤ 256 → at? st.labs (108 :: Lib.itoa (j : Int)) = none) →
    ∃ ks, ks.length = r.length ∧ scan n (disF p i r) st = .ok ⟨st.prog ++ r.map bare, st.wants ++ r.map wantT, st.lines ++ ks, st.labs ++ labsF p i r⟩
  | [], i, n, st, _, _, _, _ => ⟨[], rfl, by simp [disF, scan, labsF]⟩
  | x :: r, i, n, st, hr, hl, hi, hno => by
    have hx := hr x (.head _)
    have hr' : ∀ y ∈ r, Cd.right y c = true ∧ N64 y := fun y hy => hr y (.tail _ hy)
    rw [List.length_cons] at hl
    by_cases ha : aim p i = true
    · obtain ⟨ks, hk, he⟩ := scan_dis p c hc r (i + 1) (n + 2) ⟨st.prog ++ [bare x], st.wants ++ [wantT x], st.lines ++ [n + 2], st.labs ++ [(108 :: Lib.itoa (i : Int), i)]⟩ hr' (by omega) (by simp [hi])
        (fun j h1 h2 => at_snoc (hno j (by omega) h2) (fun e => by
          injection e with _ e
          have := itoa_inj (by omega) (by omega) (by omega) (by omega) e
          omega))
      refine ⟨(n + 2) :: ks, by simp [hk], ?_⟩
      have e1 : disF p i (x :: r) = labT i :: insT x :: disF p (i + 1) r := by simp [disF, bitL, ha]
      rw [e1, scan, line_lab i (n + 1) st (by omega) (hno i (Nat.le_refl _) (by omega))]
      dsimp only
      rw [scan, line_ins hx.1 hx.2 hc]
      dsimp only
      rw [hi, show n + 1 + 1 = n + 2 from rfl, he]
      simp [labsF, ha]
    · obtain ⟨ks, hk, he⟩ := scan_dis p c hc r (i + 1) (n + 1) ⟨st.prog ++ [bare x], st.wants ++ [wantT x], st.lines ++ [n + 1], st.labs⟩ hr' (by omega) (by simp [hi]) (fun j h1 h2 => hno j (by omega) h2)
      refine ⟨(n + 1) :: ks, by simp [hk], ?_⟩
      have e1 : disF p i (x :: r) = insT x :: disF p (i + 1) r := by simp [disF, bitL, ha]
      rw [e1, scan, line_ins hx.1 hx.2 hc]
      dsimp only
      rw [he]
      simp [labsF, ha]

end As
end Go.Proofs.YtipcockcndnipaaDoor

/-
  Plain law of the machine's texts: a program that can be is read from its text as it is.
-/
namespace Go.Proofs.YtipcockcndnipaaDoor
open Go.RowKit
namespace As
open Nu

theorem at_labs (p : List Cd.I) (k : Nat) (hk : k ≤ 256) (ha : aim p k = true) : ∀ (r : List Cd.I) (i : Nat), i ≤ k → k < i + r.length → at? (labsF p i r) (108 :: Lib.itoa (k : Int)) = some k
  | [], i, h1, h2 => by simp at h2; omega
  | x :: r, i, h1, h2 => by
    rw [List.length_cons] at h2
    by_cases e : k = i
    · subst e
      simp [at?, labsF, ha]
    · have ih := at_labs p k hk ha r (i + 1) (by omega) (by omega)
      have hne : (108 :: Lib.itoa (i : Int)) ≠ (108 :: Lib.itoa (k : Int)) := fun g => by
        injection g with _ g
        have := itoa_inj (by omega) (by omega) (by omega) (by omega) g
        omega
      by_cases hi : aim p i = true
      · rw [labsF, if_pos hi, List.singleton_append]
        unfold at? at *
        rw [List.find?_cons_of_neg (by simpa using hne)]
        exact ih
      · rw [labsF, if_neg hi, List.nil_append]
        exact ih
theorem resolve_back (labs : List (List UInt8 × Nat)) : ∀ (r : List Cd.I) (ks : List Nat), ks.length = r.length →
    (∀ x ∈ r, Cd.takes x.op = 4 → ∃ k : Nat, x.n = (k : Int) ∧ at? labs (108 :: Lib.itoa (k : Int)) = some k) → resolve labs (r.map bare) (r.map wantT) ks = .ok r
  | [], ks, _, _ => by rw [List.map_nil, resolve.eq_def]
  | x :: r, [], h, _ => by simp at h
  | x :: r, k :: ks, h, hr => by
    have ih := resolve_back labs r ks (by simpa using h) fun y hy => hr y (.tail _ hy)
    rw [List.map_cons, List.map_cons, resolve, ih]
    by_cases h4 : Cd.takes x.op = 4
    · obtain ⟨j, hj, hat⟩ := hr x (.head _) h4
      have hw : wantT x = 108 :: Lib.itoa (j : Int) := by unfold wantT; rw [if_pos h4, hj]
      rw [hw, if_neg (by simp), hat]
      obtain ⟨op, n, s⟩ := x
      dsimp only at hj h4
      subst hj
      simp [bare, h4]
    · have hw : wantT x = [] := by unfold wantT; rw [if_neg h4]
      rw [hw, if_pos rfl]
      simp [bare, h4]
theorem dis_chars (p : List Cd.I) : ∀ (r : List Cd.I) (i : Nat), ∀ l ∈ disF p i r, ∀ c ∈ l, c ≠ 10
  | [], i, l, hl => by cases hl
  | x :: r, i, l, hl => by
    rw [disF] at hl
    rcases List.mem_append.1 hl with hl | hl
    · unfold bitL at hl
      rcases List.mem_append.1 hl with hl | hl
      · split at hl
        · obtain rfl := List.mem_singleton.1 hl
          intro c hc e
          subst e
          exact absurd (lab_chars i _ hc) (by decide)
        · cases hl
      · obtain rfl := List.mem_singleton.1 hl
        intro c hc e
        subst e
        exact absurd (ins_chars x _ hc) (by decide)
    · exact dis_chars p r (i + 1) l hl
/-- a program that can be is read from its text as it is -/
theorem asm_dis {p : List Cd.I} (hc : Cd.check p = (0, 0)) (hl : p.length ≤ 256) (hr : ∀ x ∈ p, Cd.right x p.length = true ∧ N64 x) (hs : (disL p).length ≤ 65536) : asmP (disL p) = (p, 0, 0) := by
  obtain ⟨ks, hk, he⟩ := scan_dis p p.length (by omega) p 0 0 ⟨[], [], [], []⟩ hr (by omega) rfl (fun _ _ _ => rfl)
  have h1 : scan 0 (linesL (disL p)) ⟨[], [], [], []⟩ = .ok ⟨p.map bare, p.map wantT, ks, labsF p 0 p⟩ := by
    unfold disL
    rw [lines_of _ (dis_chars p p 0), scan_append, he]
    dsimp only
    rw [scan, line_nil]
    dsimp only
    rw [scan]
    simp
  have h2 := resolve_back (labsF p 0 p) p ks hk (fun x hx h4 => by
    have hp := (right_facts (hr x hx).1).place h4
    obtain ⟨k, hk⟩ : ∃ k : Nat, x.n = (k : Int) := ⟨x.n.toNat, by omega⟩
    refine ⟨k, hk, at_labs p k (by omega) ?_ p 0 (Nat.zero_le _) (by omega)⟩
    unfold aim
    rw [List.any_eq_true]
    exact ⟨x, hx, by simp [h4, hk]⟩)
  unfold asmP
  rw [if_neg (by omega), h1]
  dsimp only
  rw [h2]
  dsimp only
  rw [hc]
  rfl

end As
end Go.Proofs.YtipcockcndnipaaDoor

/-
  Plain law of the machine's texts: two programs without places, one text behind the other, are read as the one program behind the other.
-/
namespace Go.Proofs.YtipcockcndnipaaDoor
open Go.RowKit
namespace As
open Nu

theorem right_any {x : Cd.I} (h : Cd.takes x.op ≠ 4) (c d : Int) : Cd.right x c = Cd.right x d := by
  unfold Cd.right
  simp only [h, if_false]
theorem none_bad (c : Int) : ∀ (p : List Cd.I), (∀ x ∈ p, Cd.right x c = true) → Cd.firstBad c p = none
  | [], _ => rfl
  | x :: p, h => by
    rw [Cd.firstBad, if_pos (h x (.head _)), none_bad c p fun y hy => h y (.tail _ hy)]
    rfl
theorem check_ok {p : List Cd.I} (h0 : p ≠ []) (hl : p.length ≤ 256) (h : ∀ x ∈ p, Cd.right x p.length = true) : Cd.check p = (0, 0) := by
  have h1 : 0 < p.length := List.length_pos_iff.2 h0
  unfold Cd.check
  rw [if_neg (by omega), none_bad _ p h]
theorem aim_none {p : List Cd.I} (h : ∀ x ∈ p, Cd.takes x.op ≠ 4) (i : Nat) : aim p i = false := by
  unfold aim
  rw [List.any_eq_false]
  intro x hx
  simp [h x hx]
theorem dis_plain {p : List Cd.I} (h : ∀ x ∈ p, Cd.takes x.op ≠ 4) : ∀ (r : List Cd.I) (i : Nat), disF p i r = r.map insT
  | [], _ => rfl
  | x :: r, i => by
    rw [disF, dis_plain h r (i + 1), bitL, aim_none h i]
    rfl
theorem join_text {a b : List Cd.I} (ha : ∀ x ∈ a, Cd.takes x.op ≠ 4) (hb : ∀ x ∈ b, Cd.takes x.op ≠ 4) : disL a ++ disL b = disL (a ++ b) := by
  have hab : ∀ x ∈ a ++ b, Cd.takes x.op ≠ 4 := fun x hx => by
    rcases List.mem_append.1 hx with hx | hx
    · exact ha x hx
    · exact hb x hx
  unfold disL
  rw [dis_plain ha, dis_plain hb, dis_plain hab, List.map_append, List.flatMap_append]
/-- two programs without places, one text behind the other -/
theorem asm_join {a b : List Cd.I} (ha : ∀ x ∈ a, Cd.takes x.op ≠ 4 ∧ Cd.right x a.length = true ∧ N64 x) (hb : ∀ x ∈ b, Cd.takes x.op ≠ 4 ∧ Cd.right x b.length = true ∧ N64 x) (h0 : a ≠ [])
    (la : a.length ≤ 128) (lb : b.length ≤ 128) (hs : (disL a ++ disL b).length ≤ 65536) : asmP (disL a ++ disL b) = (a ++ b, 0, 0) := by
  have hlen : (a ++ b).length ≤ 256 := by rw [List.length_append]; omega
  have hr : ∀ x ∈ a ++ b, Cd.right x (a ++ b).length = true ∧ N64 x := fun x hx => by
    rcases List.mem_append.1 hx with hx | hx
    · exact ⟨(right_any (ha x hx).1 _ _).trans (ha x hx).2.1, (ha x hx).2.2⟩
    · exact ⟨(right_any (hb x hx).1 _ _).trans (hb x hx).2.1, (hb x hx).2.2⟩
  rw [join_text (fun x hx => (ha x hx).1) (fun x hx => (hb x hx).1)] at hs ⊢
  exact asm_dis (check_ok (by simp [h0]) hlen fun x hx => (hr x hx).1) hlen hr hs

end As
end Go.Proofs.YtipcockcndnipaaDoor

/-
  Plain law of the machine's texts: lines that are nothing, put between the lines of a text, change nothing but the numbers of the lines behind them.
-/
namespace Go.Proofs.YtipcockcndnipaaDoor
open Go.RowKit
namespace As

/-- the state with each line's number behind `at` two greater -/
def up (k : Nat) (n : Nat) : Nat := if k < n then n + 2 else n
def upS (k : Nat) (st : St) : St := { st with lines := st.lines.map (up k) }
def upR (k : Nat) : Scn → Scn
  | .ok st => .ok (upS k st)
  | .bad n e => .bad (up k n) e
theorem line_up (k n : Nat) (l : List UInt8) (st : St) : lineP (up k n) l (upS k st) = match lineP n l st with
    | .ok st' => .ok (upS k st')
    | .bad e => .bad e := by
  unfold lineP
  by_cases h1 : l = [] ∨ l.head? = some 59
  · rw [if_pos h1, if_pos h1]
  · rw [if_neg h1, if_neg h1]
    by_cases h2 : isLab l = true
    · rw [if_pos h2, if_pos h2]
      show (if (at? st.labs l.dropLast).isSome = true then _ else _) = _
      by_cases h3 : (at? st.labs l.dropLast).isSome = true
      · rw [if_pos h3, if_pos h3]
      · rw [if_neg h3, if_neg h3]
        rfl
    · rw [if_neg h2, if_neg h2]
      cases insL l with
      | none => rfl
      | some xw =>
        obtain ⟨x, w⟩ := xw
        simp [upS]
/-- behind the place: each line's number is two greater -/
theorem scan_up (k : Nat) : ∀ (ls : List (List UInt8)) (n : Nat) (st : St), k ≤ n → scan (n + 2) ls (upS k st) = upR k (scan n ls st)
  | [], n, st, _ => rfl
  | l :: ls, n, st, h => by
    have e : n + 2 + 1 = up k (n + 1) := by unfold up; rw [if_pos (by omega)]
    rw [scan, scan, e, line_up]
    cases lineP (n + 1) l st with
    | bad g => rfl
    | ok st' => dsimp only; rw [← e]; exact scan_up k ls (n + 1) st' (by omega)

end As
end Go.Proofs.YtipcockcndnipaaDoor

/-
  Plain law of the machine's texts: a note and an empty line put between two lines.
-/
namespace Go.Proofs.YtipcockcndnipaaDoor
open Go.RowKit
namespace As

theorem line_low {k n : Nat} {l : List UInt8} {st st' : St} (hn : n ≤ k) (h : ∀ m ∈ st.lines, m ≤ k) (he : lineP n l st = .ok st') : ∀ m ∈ st'.lines, m ≤ k := by
  unfold lineP at he
  by_cases h1 : l = [] ∨ l.head? = some 59
  · rw [if_pos h1] at he
    injection he with he
    subst he
    exact h
  · rw [if_neg h1] at he
    by_cases h2 : isLab l = true
    · rw [if_pos h2] at he
      by_cases h3 : (at? st.labs l.dropLast).isSome = true
      · rw [if_pos h3] at he
        cases he
      · rw [if_neg h3] at he
        injection he with he
        subst he
        exact h
    · rw [if_neg h2] at he
      cases hi : insL l with
      | none => rw [hi] at he; cases he
      | some xw =>
        obtain ⟨x, w⟩ := xw
        rw [hi] at he
        injection he with he
        subst he
        intro m hm
        rcases List.mem_append.1 hm with hm | hm
        · exact h m hm
        · obtain rfl := List.mem_singleton.1 hm
          exact hn
theorem scan_low (k : Nat) : ∀ (ls : List (List UInt8)) (n : Nat) (st : St), n + ls.length ≤ k → (∀ m ∈ st.lines, m ≤ k) → (∀ st', scan n ls st = .ok st' → ∀ m ∈ st'.lines, m ≤ k) ∧ (∀ m e, scan n ls st = .bad m e → m ≤ k)
  | [], n, st, _, h => ⟨fun st' he => (by rw [scan] at he; injection he with he; subst he; exact h), fun m e he => (by rw [scan] at he; cases he)⟩
  | l :: ls, n, st, hn, h => by
    rw [List.length_cons] at hn
    rw [scan]
    cases hl : lineP (n + 1) l st with
    | bad g =>
      refine ⟨fun st' he => (by cases he), fun m e he => ?_⟩
      injection he with he _
      omega
    | ok st1 =>
      dsimp only
      exact scan_low k ls (n + 1) st1 (by omega) (line_low (by omega) h hl)
theorem up_low {k : Nat} : ∀ {l : List Nat}, (∀ m ∈ l, m ≤ k) → l.map (up k) = l
  | [], _ => rfl
  | m :: l, h => by
    rw [List.map_cons, up_low fun x hx => h x (.tail _ hx), up, if_neg (by have := h m (.head _); omega)]
/-- a note and an empty line put between two lines: each line behind them is two later -/
theorem scan_notes (a b : List (List UInt8)) (note : List UInt8) : scan 0 (a ++ ((59 :: note) :: [] :: b)) ⟨[], [], [], []⟩ = upR a.length (scan 0 (a ++ b) ⟨[], [], [], []⟩) := by
  rw [scan_append, scan_append]
  have hlow := scan_low a.length a 0 ⟨[], [], [], []⟩ (by omega) (fun m hm => by cases hm)
  cases hs : scan 0 a ⟨[], [], [], []⟩ with
  | bad m e =>
    have h1 := hlow.2 m e hs
    show Scn.bad m e = .bad (up a.length m) e
    rw [up, if_neg (by omega)]
  | ok st =>
    have h1 : upS a.length st = st := by
      unfold upS
      rw [up_low (hlow.1 st hs)]
    dsimp only
    rw [scan, line_note]
    dsimp only
    rw [scan, line_nil]
    dsimp only
    have h2 := scan_up a.length b (0 + a.length) st (by omega)
    rw [h1] at h2
    exact h2

end As
end Go.Proofs.YtipcockcndnipaaDoor

/-
  Plain law of the machine's texts: labels' places put in, where lines stand two later.
-/
namespace Go.Proofs.YtipcockcndnipaaDoor
open Go.RowKit
namespace As

def upQ (k : Nat) : Rs → Rs
  | .ok p => .ok p
  | .bad n e => .bad (up k n) e
theorem resolve_up (k : Nat) (labs : List (List UInt8 × Nat)) : ∀ (p : List Cd.I) (ws : List (List UInt8)) (ks : List Nat), resolve labs p ws (ks.map (up k)) = upQ k (resolve labs p ws ks)
  | [], ws, ks => by simp [resolve, upQ]
  | x :: p, [], ks => by simp [resolve, upQ]
  | x :: p, w :: ws, [] => by simp [resolve, upQ]
  | x :: p, w :: ws, m :: ks => by
    have ih := resolve_up k labs p ws ks
    rw [List.map_cons, resolve, resolve, ih]
    by_cases hw : w = []
    · rw [if_pos hw, if_pos hw]
      cases resolve labs p ws ks <;> rfl
    · rw [if_neg hw, if_neg hw]
      cases at? labs w with
      | none => rfl
      | some a => cases resolve labs p ws ks <;> rfl

end As
end Go.Proofs.YtipcockcndnipaaDoor

/-
  Plain law of the machine's texts: what is answered, where lines stand two later.
-/
namespace Go.Proofs.YtipcockcndnipaaDoor
open Go.RowKit
namespace As

def ans : Scn → List Cd.I × Int × Int
  | .bad n e => ([], (n : Int), e)
  | .ok st => match resolve st.labs st.prog st.wants st.lines with
      | .bad n e => ([], (n : Int), e)
      | .ok p => if (Cd.check p).2 = 13 then ([], 0, 13)
        else if (Cd.check p).2 ≠ 0 then ([], ((st.lines.getD (Cd.check p).1.toNat 0 : Nat) : Int), (Cd.check p).2)
        else (p, 0, 0)
theorem asm_ans (s : List UInt8) : asmP s = if 65536 < s.length then ([], 0, 3) else ans (scan 0 (linesL s) ⟨[], [], [], []⟩) := by
  unfold asmP
  by_cases h : 65536 < s.length
  · rw [if_pos h, if_pos h]
  · rw [if_neg h, if_neg h]
    cases scan 0 (linesL s) ⟨[], [], [], []⟩ <;> rfl
def upI (k : Nat) (n : Int) : Int := if (k : Int) < n then n + 2 else n
theorem up_int (k n : Nat) : ((up k n : Nat) : Int) = upI k n := by
  unfold up upI
  by_cases h : k < n
  · rw [if_pos h, if_pos (by omega)]; rfl
  · rw [if_neg h, if_neg (by omega)]
theorem getD_up (k i : Nat) (l : List Nat) : (l.map (up k)).getD i 0 = up k (l.getD i 0) := by
  rw [List.getD_eq_getElem?_getD, List.getD_eq_getElem?_getD, List.getElem?_map]
  cases l[i]? with
  | none => simp [up]
  | some m => rfl
theorem upI_zero (k : Nat) : upI k 0 = 0 := by unfold upI; rw [if_neg (by omega)]
theorem ans_up (k : Nat) (r : Scn) : ans (upR k r) = ((ans r).1, upI k (ans r).2.1, (ans r).2.2) := by
  cases r with
  | bad n e => simp [upR, ans, up_int]
  | ok st =>
    have h := resolve_up k st.labs st.prog st.wants st.lines
    simp only [upR, upS, ans]
    rw [h]
    cases resolve st.labs st.prog st.wants st.lines with
    | bad n e => simp [upQ, up_int]
    | ok p =>
      simp only [upQ]
      by_cases h1 : (Cd.check p).2 = 13
      · simp [h1, upI_zero]
      · by_cases h2 : (Cd.check p).2 = 0
        · simp [h2, upI_zero]
        · simp only [if_neg h1, getD_up, up_int, ne_eq, not_false_eq_true, if_true, h2]

end As
end Go.Proofs.YtipcockcndnipaaDoor

/-
  Plain law of the machine's texts: a text that is its lines joined by line feeds; a note and an empty line put between them.
-/
namespace Go.Proofs.YtipcockcndnipaaDoor
open Go.RowKit
namespace As

def joinL : List (List UInt8) → List UInt8
  | [] => []
  | [l] => l
  | l :: m :: ls => l ++ 10 :: joinL (m :: ls)
theorem lines_join : ∀ (ls : List (List UInt8)), ls ≠ [] → (∀ l ∈ ls, ∀ c ∈ l, c ≠ 10) → linesL (joinL ls) = ls
  | [], h, _ => absurd rfl h
  | [l], _, h => lines_one l (h l (.head _))
  | l :: m :: ls, _, h => by
    rw [joinL, lines_cat l _ (h l (.head _)), lines_join (m :: ls) (by simp) fun x hx => h x (.tail _ hx)]
/-- a note and an empty line put between the lines of a text -/
theorem asm_notes (a b : List (List UInt8)) (note : List UInt8) (hab : a ++ b ≠ []) (h : ∀ l ∈ a ++ b, ∀ c ∈ l, c ≠ 10) (hn : ∀ c ∈ note, c ≠ 10)
    (h1 : (joinL (a ++ b)).length ≤ 65536) (h2 : (joinL (a ++ ((59 :: note) :: [] :: b))).length ≤ 65536) :
    asmP (joinL (a ++ ((59 :: note) :: [] :: b))) = ((asmP (joinL (a ++ b))).1, upI a.length (asmP (joinL (a ++ b))).2.1, (asmP (joinL (a ++ b))).2.2) := by
  have hl : linesL (joinL (a ++ ((59 :: note) :: [] :: b))) = a ++ ((59 :: note) :: [] :: b) := lines_join _ (by simp) fun l hl => by
    rcases List.mem_append.1 hl with hl | hl
    · exact h l (List.mem_append.2 (.inl hl))
    · rcases List.mem_cons.1 hl with rfl | hl
      · intro c hc
        rcases List.mem_cons.1 hc with rfl | hc
        · decide
        · exact hn c hc
      · rcases List.mem_cons.1 hl with rfl | hl
        · intro c hc; cases hc
        · exact h l (List.mem_append.2 (.inr hl))
  rw [asm_ans, asm_ans, if_neg (by omega), if_neg (by omega), hl, lines_join _ hab h, scan_notes, ans_up]

end As
end Go.Proofs.YtipcockcndnipaaDoor

/-
  Plain law of the machine's texts: a program's text with lines behind it that are nothing; a program's text without its last line feed.
-/
namespace Go.Proofs.YtipcockcndnipaaDoor
open Go.RowKit
namespace As
open Nu

theorem scan_void : ∀ (ls : List (List UInt8)) (n : Nat) (st : St), (∀ l ∈ ls, l = [] ∨ l.head? = some 59) → scan n ls st = .ok st
  | [], _, _, _ => rfl
  | l :: ls, n, st, h => by
    have h1 : lineP (n + 1) l st = .ok st := by unfold lineP; rw [if_pos (h l (.head _))]
    rw [scan, h1]
    exact scan_void ls (n + 1) st fun x hx => h x (.tail _ hx)
/-- a text whose lines are a program's, and behind them such as are nothing -/
theorem asm_void {p : List Cd.I} (hc : Cd.check p = (0, 0)) (hl : p.length ≤ 256) (hr : ∀ x ∈ p, Cd.right x p.length = true ∧ N64 x) (t : List UInt8) (more : List (List UInt8)) (ht : linesL t = disF p 0 p ++ more)
    (hm : ∀ l ∈ more, l = [] ∨ l.head? = some 59) (hs : t.length ≤ 65536) : asmP t = (p, 0, 0) := by
  obtain ⟨ks, hk, he⟩ := scan_dis p p.length (by omega) p 0 0 ⟨[], [], [], []⟩ hr (by omega) rfl (fun _ _ _ => rfl)
  have h1 : scan 0 (linesL t) ⟨[], [], [], []⟩ = .ok ⟨p.map bare, p.map wantT, ks, labsF p 0 p⟩ := by
    rw [ht, scan_append, he]
    dsimp only
    rw [scan_void _ _ _ hm]
    simp
  have h2 := resolve_back (labsF p 0 p) p ks hk (fun x hx h4 => by
    have hp := (right_facts (hr x hx).1).place h4
    obtain ⟨k, hk⟩ : ∃ k : Nat, x.n = (k : Int) := ⟨x.n.toNat, by omega⟩
    refine ⟨k, hk, at_labs p k (by omega) ?_ p 0 (Nat.zero_le _) (by omega)⟩
    unfold aim
    rw [List.any_eq_true]
    exact ⟨x, hx, by simp [h4, hk]⟩)
  unfold asmP
  rw [if_neg (by omega), h1]
  dsimp only
  rw [h2]
  dsimp only
  rw [hc]
  rfl
theorem lines_behind : ∀ (ls : List (List UInt8)) (b : List UInt8), (∀ l ∈ ls, ∀ c ∈ l, c ≠ 10) → linesL ((ls.flatMap fun l => l ++ [10]) ++ b) = ls ++ linesL b
  | [], _, _ => rfl
  | l :: ls, b, h => by
    rw [List.flatMap_cons, List.append_assoc, List.append_assoc, List.singleton_append, lines_cat l _ (h l (.head _)), lines_behind ls b fun x hx => h x (.tail _ hx)]
    rfl
theorem dis_snoc (p : List Cd.I) : ∀ (r : List Cd.I) (i : Nat), r ≠ [] → ∃ ls l, disF p i r = ls ++ [l]
  | [], _, h => absurd rfl h
  | [x], i, _ => ⟨if aim p i = true then [labT i] else [], insT x, by simp [disF, bitL]⟩
  | x :: y :: r, i, _ => by
    obtain ⟨ls, l, h⟩ := dis_snoc p (y :: r) (i + 1) (by simp)
    exact ⟨bitL p i x ++ ls, l, by rw [disF, h, List.append_assoc]⟩
/-- with a note behind it -/
theorem asm_behind {p : List Cd.I} (hc : Cd.check p = (0, 0)) (hl : p.length ≤ 256) (hr : ∀ x ∈ p, Cd.right x p.length = true ∧ N64 x) (note : List UInt8) (hn : ∀ c ∈ note, c ≠ 10) (hs : (disL p ++ 59 :: note).length ≤ 65536) :
    asmP (disL p ++ 59 :: note) = (p, 0, 0) := by
  refine asm_void hc hl hr _ [59 :: note] ?_ (fun l h => by obtain rfl := List.mem_singleton.1 h; exact .inr rfl) hs
  unfold disL
  rw [lines_behind _ _ (dis_chars p p 0), lines_one]
  intro c hc
  rcases List.mem_cons.1 hc with rfl | hc
  · decide
  · exact hn c hc
/-- without its last line feed -/
theorem asm_cut {p : List Cd.I} (h0 : p ≠ []) (hc : Cd.check p = (0, 0)) (hl : p.length ≤ 256) (hr : ∀ x ∈ p, Cd.right x p.length = true ∧ N64 x) (hs : (disL p).dropLast.length ≤ 65536) :
    asmP (disL p).dropLast = (p, 0, 0) := by
  obtain ⟨ls, l, h⟩ := dis_snoc p p 0 h0
  have hch := dis_chars p p 0
  rw [h] at hch
  have e : (disL p).dropLast = (ls.flatMap fun l => l ++ [10]) ++ l := by
    unfold disL
    rw [h, List.flatMap_append, List.flatMap_singleton, ← List.append_assoc, List.dropLast_concat]
  refine asm_void hc hl hr _ [] ?_ (fun l h => by cases h) hs
  rw [e, lines_behind _ _ (fun x hx => hch x (List.mem_append.2 (.inl hx))), lines_one l (hch l (List.mem_append.2 (.inr (.head _)))), h, List.append_nil]

end As
end Go.Proofs.YtipcockcndnipaaDoor

/-
  Plain law of the machine's texts: labels with another letter.
-/
namespace Go.Proofs.YtipcockcndnipaaDoor
open Go.RowKit
namespace As
open Nu

theorem itoa_ne (n : Int) : Lib.itoa n ≠ [] := by
  by_cases hn : n < 0
  · obtain ⟨u, rfl⟩ : ∃ u : Nat, n = -(u : Int) := ⟨n.natAbs, by omega⟩
    rw [Lib.itoa_neg u (by omega)]
    simp
  · obtain ⟨u, rfl⟩ : ∃ u : Nat, n = (u : Int) := ⟨n.toNat, by omega⟩
    rw [Lib.itoa_nonneg]
    exact dec_ne u
/-- the name's letter, and the place's, turned into c -/
def renA (c : UInt8) (l : List UInt8) : List UInt8 := if 2 < l.length ∧ l.getLast? = some 58 then l.set 0 c else l
def jmp (l : List UInt8) : Prop := 5 < l.length ∧ (l.take 5 = [106, 117, 109, 112, 32] ∨ l.take 5 = [122, 101, 114, 111, 32] ∨ l.take 5 = [99, 97, 108, 108, 32])
instance (l : List UInt8) : Decidable (jmp l) := by unfold jmp; exact inferInstance
def ren (c : UInt8) (l : List UInt8) : List UInt8 := if jmp l then (renA c l).set 5 c else renA c l
def labC (c : UInt8) (i : Nat) : List UInt8 := c :: (Lib.itoa (i : Int) ++ [58])
def insC (c : UInt8) (x : Cd.I) : List UInt8 := if Cd.takes x.op = 4 then Cd.wordL x.op ++ 32 :: c :: Lib.itoa x.n else insT x
def wantC (c : UInt8) (x : Cd.I) : List UInt8 := if Cd.takes x.op = 4 then c :: Lib.itoa x.n else []
theorem take_word {l w : List UInt8} (h : l.take 5 = w ++ [32]) (hw : ∀ c ∈ w, c ≠ 32) : word l = w := by
  have e : l = w ++ 32 :: l.drop 5 := by
    conv => lhs; rw [← List.take_append_drop 5 l, h]
    simp
  rw [e]
  exact (word_some w _ hw).1
theorem jmp_word {l : List UInt8} (h : jmp l) : word l = [106, 117, 109, 112] ∨ word l = [122, 101, 114, 111] ∨ word l = [99, 97, 108, 108] := by
  rcases h.2 with h | h | h
  · exact .inl (take_word (w := [106, 117, 109, 112]) h (by decide))
  · exact .inr (.inl (take_word (w := [122, 101, 114, 111]) h (by decide)))
  · exact .inr (.inr (take_word (w := [99, 97, 108, 108]) h (by decide)))
theorem word_ins (x : Cd.I) : word (insT x) = Cd.wordL x.op := by
  unfold insT argT
  split
  · exact (word_with _ _).1
  · split
    · exact (word_with _ _).1
    · split
      · exact (word_with _ _).1
      · rw [List.append_nil]; exact (word_bare _).1
theorem takes_word {n : Int} (hw : Cd.wordB n ≠ ⟨#[]⟩) (h : Cd.wordL n = [106, 117, 109, 112] ∨ Cd.wordL n = [122, 101, 114, 111] ∨ Cd.wordL n = [99, 97, 108, 108]) : Cd.takes n = 4 := by
  have ho := op_back hw
  rcases h with h | h | h
  · rw [h, show Cd.opN [106, 117, 109, 112] = 17 by decide +kernel] at ho
    subst ho; rfl
  · rw [h, show Cd.opN [122, 101, 114, 111] = 18 by decide +kernel] at ho
    subst ho; rfl
  · rw [h, show Cd.opN [99, 97, 108, 108] = 19 by decide +kernel] at ho
    subst ho; rfl
theorem ren_ins (c : UInt8) {x : Cd.I} (hw : Cd.wordB x.op ≠ ⟨#[]⟩) : ren c (insT x) = insC c x := by
  have hA : renA c (insT x) = insT x := by unfold renA; rw [if_neg fun h => ins_last x h.2]
  by_cases h4 : Cd.takes x.op = 4
  · have hop : x.op = 17 ∨ x.op = 18 ∨ x.op = 19 := by unfold Cd.takes at h4; split at h4 <;> (try split at h4) <;> (try split at h4) <;> (try split at h4) <;> first | assumption | omega
    have hl : 1 ≤ (Lib.itoa x.n).length := by
      have := itoa_ne x.n
      cases hh : Lib.itoa x.n with
      | nil => exact absurd hh this
      | cons a r => simp
    have e : insT x = Cd.wordL x.op ++ 32 :: 108 :: Lib.itoa x.n := by unfold insT argT; rw [if_neg (by omega), if_neg (by omega), if_pos h4]
    have e2 : insC c x = Cd.wordL x.op ++ 32 :: c :: Lib.itoa x.n := by unfold insC; rw [if_pos h4]
    unfold ren
    rw [hA, e2]
    rcases hop with h | h | h
    · have hwl : Cd.wordL x.op = [106, 117, 109, 112] := by rw [h]; decide +kernel
      rw [e, hwl, if_pos ⟨by simp only [List.length_cons, List.length_append]; omega, .inl rfl⟩]
      rfl
    · have hwl : Cd.wordL x.op = [122, 101, 114, 111] := by rw [h]; decide +kernel
      rw [e, hwl, if_pos ⟨by simp only [List.length_cons, List.length_append]; omega, .inr (.inl rfl)⟩]
      rfl
    · have hwl : Cd.wordL x.op = [99, 97, 108, 108] := by rw [h]; decide +kernel
      rw [e, hwl, if_pos ⟨by simp only [List.length_cons, List.length_append]; omega, .inr (.inr rfl)⟩]
      rfl
  · unfold ren insC
    rw [hA, if_neg h4, if_neg]
    intro h
    have h1 := jmp_word h
    rw [word_ins] at h1
    exact h4 (takes_word hw h1)
theorem ren_lab (c : UInt8) (i : Nat) : ren c (labT i) = labC c i := by
  have hj : ¬ jmp (labT i) := fun h => by
    rcases h.2 with h | h | h <;> (unfold labT at h; rw [List.take_succ_cons] at h; injection h with h _; exact absurd h (by decide))
  have hl : 1 ≤ (Lib.itoa (i : Int)).length := by
    have := itoa_ne (i : Int)
    cases hh : Lib.itoa (i : Int) with
    | nil => exact absurd hh this
    | cons a r => simp
  unfold ren renA
  rw [if_neg hj, if_pos ⟨by simp [labT]; omega, (by unfold labT; rw [← List.cons_append, List.getLast?_concat])⟩]
  rfl
theorem ren_nil (c : UInt8) : ren c [] = [] := rfl
section
variable {c : UInt8} (hc : 97 ≤ c.toNat ∧ c.toNat ≤ 122)
include hc
theorem name_c (i : Nat) (h : i < 10 ^ 18) : Nm.nameL (c :: Lib.itoa (i : Int)) = true := by
  have hl := Lib.itoa_length_le (i : Int) (by omega) (by omega)
  unfold Nm.nameL
  have hd : c ≠ 46 := fun e => by subst e; exact absurd hc (by decide)
  simp only [Bool.and_eq_true, decide_eq_true_eq, List.length_cons, List.head?_cons]
  refine ⟨⟨⟨by omega, by omega⟩, ?_⟩, by simpa using hd⟩
  rw [List.all_eq_true]
  intro x hx
  rcases List.mem_cons.1 hx with rfl | hx
  · simp [Nm.nameR, hc]
  · have := (isD_iff x).1 (itoa_nat_chars i x hx)
    simp [Nm.nameR, this]
theorem line_labC (i n : Nat) (st : St) (h : i < 10 ^ 18) (hno : at? st.labs (c :: Lib.itoa (i : Int)) = none) :
    lineP n (labC c i) st = .ok { st with labs := st.labs ++ [(c :: Lib.itoa (i : Int), st.prog.length)] } := by
  have h1 : labC c i = (c :: Lib.itoa (i : Int)) ++ [58] := rfl
  have h2 : (labC c i).dropLast = c :: Lib.itoa (i : Int) := by rw [h1, List.dropLast_concat]
  have h3 : isLab (labC c i) = true := by
    unfold isLab
    rw [h2, name_c hc i h, h1, List.getLast?_concat]
    rfl
  have h59 : c ≠ 59 := fun e => by subst e; exact absurd hc (by decide)
  unfold lineP
  rw [if_neg (by rintro (e | e); exact absurd e (by simp [labC]); exact absurd e (by simpa [labC] using h59)), if_pos h3, h2, hno]
  rfl
theorem line_insC {x : Cd.I} {m : Int} (h : Cd.right x m = true) (hn : N64 x) (hm : m ≤ 256) (n : Nat) (st : St) :
    lineP n (insC c x) st = .ok ⟨st.prog ++ [bare x], st.wants ++ [wantC c x], st.lines ++ [n], st.labs⟩ := by
  by_cases h4 : Cd.takes x.op = 4
  · have hf := right_facts h
    have hp := hf.place h4
    have hs := hf.txt (by omega)
    have ho := op_back hf.word
    have h0 := op_ne hf.word
    have hwc := word_chars x.op
    have hwn := word_ne hf.word
    obtain ⟨op, k, s⟩ := x
    dsimp only at *
    subst hs
    obtain ⟨i, rfl⟩ : ∃ i : Nat, k = i := ⟨k.toNat, by omega⟩
    have e : insC c ⟨op, (i : Int), ⟨#[]⟩⟩ = Cd.wordL op ++ 32 :: c :: Lib.itoa (i : Int) := by simp [insC, h4]
    have hno : ∀ y ∈ insC c ⟨op, (i : Int), ⟨#[]⟩⟩, y ≠ 58 := by
      rw [e]
      intro y hy e
      subst e
      rcases List.mem_append.1 hy with hy | hy
      · exact absurd (hwc _ hy) (by decide)
      · rcases List.mem_cons.1 hy with hy | hy
        · exact absurd hy (by decide)
        · rcases List.mem_cons.1 hy with hy | hy
          · rw [← hy] at hc; exact absurd hc (by decide)
          · exact absurd (itoa_lim _ _ hy) (by decide)
    have h2 : isLab (insC c ⟨op, (i : Int), ⟨#[]⟩⟩) = false := by
      unfold isLab
      rw [decide_eq_false fun g => hno 58 (List.mem_of_getLast? g) rfl]
      rfl
    have hh : insC c ⟨op, (i : Int), ⟨#[]⟩⟩ ≠ [] ∧ (insC c ⟨op, (i : Int), ⟨#[]⟩⟩).head? ≠ some 59 := by
      rw [e]
      cases hl : Cd.wordL op with
      | nil => exact absurd hl hwn
      | cons a r =>
        rw [hl] at hwc
        have h3 := hwc a (.head _)
        refine ⟨by simp, fun g => ?_⟩
        rw [List.cons_append, List.head?_cons] at g
        injection g with g
        subst g
        exact absurd h3 (by decide)
    have h5 : insL (insC c ⟨op, (i : Int), ⟨#[]⟩⟩) = some (bare ⟨op, (i : Int), ⟨#[]⟩⟩, wantC c ⟨op, (i : Int), ⟨#[]⟩⟩) := by
      rw [e, insL, (word_with op _).1, (word_with op _).2.1, (word_with op _).2.2, ho, if_neg (by simp [h0, h4]), if_neg (by omega), if_pos h4, if_pos (name_c hc i (by omega))]
      simp [bare, wantC, h4]
    unfold lineP
    rw [if_neg (by rintro (g | g); exact hh.1 g; exact hh.2 g), if_neg (by rw [h2]; decide), h5]
  · have e1 : insC c x = insT x := by unfold insC; rw [if_neg h4]
    have e2 : wantC c x = wantT x := by unfold wantC wantT; rw [if_neg h4, if_neg h4]
    rw [e1, e2]
    exact line_ins h hn hm n st
end
def labsC (c : UInt8) (p : List Cd.I) : Nat → List Cd.I → List (List UInt8 × Nat)
  | _, [] => []
  | i, _ :: r => (if aim p i = true then [(c :: Lib.itoa (i : Int), i)] else []) ++ labsC c p (i + 1) r
def disC (c : UInt8) (p : List Cd.I) : Nat → List Cd.I → List (List UInt8)
  | _, [] => []
  | i, x :: r => (if aim p i = true then [labC c i] else []) ++ insC c x :: disC c p (i + 1) r
theorem ren_dis (c : UInt8) (p : List Cd.I) : ∀ (r : List Cd.I) (i : Nat), (∀ x ∈ r, Cd.wordB x.op ≠ ⟨#[]⟩) → (disF p i r).map (ren c) = disC c p i r
  | [], _, _ => rfl
  | x :: r, i, h => by
    rw [disF, List.map_append, ren_dis c p r (i + 1) fun y hy => h y (.tail _ hy), disC, bitL]
    by_cases ha : aim p i = true
    · rw [if_pos ha, if_pos ha]
      simp [ren_lab, ren_ins c (h x (.head _))]
    · rw [if_neg ha, if_neg ha]
      simp [ren_ins c (h x (.head _))]
theorem scan_disC {l : UInt8} (hl' : 97 ≤ l.toNat ∧ l.toNat ≤ 122) (p : List Cd.I) (c : Int) (hc : c ≤ 256) : ∀ (r : List Cd.I) (i n : Nat) (st : St), (∀ x ∈ r, Cd.right x c = true ∧ N64 x) → i + r.length ≤ 256 → st.prog.length = i →
    (∀ j : Nat, i ≤ j → j ≤ 256 → at? st.labs (l :: Lib.itoa (j : Int)) = none) →
    ∃ ks, ks.length = r.length ∧ scan n (disC l p i r) st = .ok ⟨st.prog ++ r.map bare, st.wants ++ r.map (wantC l), st.lines ++ ks, st.labs ++ labsC l p i r⟩
  | [], i, n, st, _, _, _, _ => ⟨[], rfl, by simp [disC, scan, labsC]⟩
  | x :: r, i, n, st, hr, hl, hi, hno => by
    have hx := hr x (.head _)
    have hr' : ∀ y ∈ r, Cd.right y c = true ∧ N64 y := fun y hy => hr y (.tail _ hy)
    rw [List.length_cons] at hl
    by_cases ha : aim p i = true
    · obtain ⟨ks, hk, he⟩ := scan_disC hl' p c hc r (i + 1) (n + 2) ⟨st.prog ++ [bare x], st.wants ++ [wantC l x], st.lines ++ [n + 2], st.labs ++ [(l :: Lib.itoa (i : Int), i)]⟩ hr' (by omega) (by simp [hi])
        (fun j h1 h2 => at_snoc (hno j (by omega) h2) (fun e => by
          injection e with _ e
          have := itoa_inj (by omega) (by omega) (by omega) (by omega) e
          omega))
      refine ⟨(n + 2) :: ks, by simp [hk], ?_⟩
      have e1 : disC l p i (x :: r) = labC l i :: insC l x :: disC l p (i + 1) r := by simp [disC, ha]
      rw [e1, scan, line_labC hl' i (n + 1) st (by omega) (hno i (Nat.le_refl _) (by omega))]
      dsimp only
      rw [scan, line_insC hl' hx.1 hx.2 hc]
      dsimp only
      rw [hi, show n + 1 + 1 = n + 2 from rfl, he]
      simp [labsC, ha]
    · obtain ⟨ks, hk, he⟩ := scan_disC hl' p c hc r (i + 1) (n + 1) ⟨st.prog ++ [bare x], st.wants ++ [wantC l x], st.lines ++ [n + 1], st.labs⟩ hr' (by omega) (by simp [hi]) (fun j h1 h2 => hno j (by omega) h2)
      refine ⟨(n + 1) :: ks, by simp [hk], ?_⟩
      have e1 : disC l p i (x :: r) = insC l x :: disC l p (i + 1) r := by simp [disC, ha]
      rw [e1, scan, line_insC hl' hx.1 hx.2 hc]
      dsimp only
      rw [he]
      simp [labsC, ha]
theorem at_labsC (l : UInt8) (p : List Cd.I) (k : Nat) (hk : k ≤ 256) (ha : aim p k = true) : ∀ (r : List Cd.I) (i : Nat), i ≤ k → k < i + r.length → at? (labsC l p i r) (l :: Lib.itoa (k : Int)) = some k
  | [], i, h1, h2 => by simp at h2; omega
  | x :: r, i, h1, h2 => by
    rw [List.length_cons] at h2
    by_cases e : k = i
    · subst e
      simp [at?, labsC, ha]
    · have ih := at_labsC l p k hk ha r (i + 1) (by omega) (by omega)
      have hne : (l :: Lib.itoa (i : Int)) ≠ (l :: Lib.itoa (k : Int)) := fun g => by
        injection g with _ g
        have := itoa_inj (by omega) (by omega) (by omega) (by omega) g
        omega
      by_cases hi : aim p i = true
      · rw [labsC, if_pos hi, List.singleton_append]
        unfold at? at *
        rw [List.find?_cons_of_neg (by simpa using hne)]
        exact ih
      · rw [labsC, if_neg hi, List.nil_append]
        exact ih
theorem resolve_backC (l : UInt8) (labs : List (List UInt8 × Nat)) : ∀ (r : List Cd.I) (ks : List Nat), ks.length = r.length →
    (∀ x ∈ r, Cd.takes x.op = 4 → ∃ k : Nat, x.n = (k : Int) ∧ at? labs (l :: Lib.itoa (k : Int)) = some k) → resolve labs (r.map bare) (r.map (wantC l)) ks = .ok r
  | [], ks, _, _ => by rw [List.map_nil, resolve.eq_def]
  | x :: r, [], h, _ => by simp at h
  | x :: r, k :: ks, h, hr => by
    have ih := resolve_backC l labs r ks (by simpa using h) fun y hy => hr y (.tail _ hy)
    rw [List.map_cons, List.map_cons, resolve, ih]
    by_cases h4 : Cd.takes x.op = 4
    · obtain ⟨j, hj, hat⟩ := hr x (.head _) h4
      have hw : wantC l x = l :: Lib.itoa (j : Int) := by unfold wantC; rw [if_pos h4, hj]
      rw [hw, if_neg (by simp), hat]
      obtain ⟨op, n, s⟩ := x
      dsimp only at hj h4
      subst hj
      simp [bare, h4]
    · have hw : wantC l x = [] := by unfold wantC; rw [if_neg h4]
      rw [hw, if_pos rfl]
      simp [bare, h4]
theorem disC_chars {l : UInt8} (hl' : 97 ≤ l.toNat ∧ l.toNat ≤ 122) (p : List Cd.I) : ∀ (r : List Cd.I) (i : Nat), ∀ t ∈ disC l p i r, ∀ c ∈ t, c ≠ 10
  | [], i, t, ht => by cases ht
  | x :: r, i, t, ht => by
    have h10 : l ≠ 10 := fun e => by subst e; exact absurd hl' (by decide)
    rw [disC] at ht
    rcases List.mem_append.1 ht with ht | ht
    · split at ht
      · obtain rfl := List.mem_singleton.1 ht
        intro c hc
        rcases List.mem_cons.1 hc with rfl | hc
        · exact h10
        · exact fun e => by subst e; exact absurd (lab_chars i 10 (.tail _ hc)) (by decide)
      · cases ht
    · rcases List.mem_cons.1 ht with rfl | ht
      · intro c hc e
        subst e
        unfold insC at hc
        split at hc
        · rcases List.mem_append.1 hc with hc | hc
          · exact absurd (word_chars _ _ hc) (by decide)
          · rcases List.mem_cons.1 hc with hc | hc
            · exact absurd hc (by decide)
            · rcases List.mem_cons.1 hc with hc | hc
              · exact h10 hc.symm
              · exact absurd (itoa_lim _ _ hc) (by decide)
        · exact absurd (ins_chars x _ hc) (by decide)
      · exact disC_chars hl' p r (i + 1) t ht
/-- a program's text, its labels' letter turned into another, and a line feed more behind -/
theorem asm_ren {l : UInt8} (hl' : 97 ≤ l.toNat ∧ l.toNat ≤ 122) {p : List Cd.I} (hc : Cd.check p = (0, 0)) (hl : p.length ≤ 256) (hr : ∀ x ∈ p, Cd.right x p.length = true ∧ N64 x)
    (hs : (((linesL (disL p)).map (ren l)).flatMap fun t => t ++ [10]).length ≤ 65536) : asmP (((linesL (disL p)).map (ren l)).flatMap fun t => t ++ [10]) = (p, 0, 0) := by
  obtain ⟨ks, hk, he⟩ := scan_disC hl' p p.length (by omega) p 0 0 ⟨[], [], [], []⟩ hr (by omega) rfl (fun _ _ _ => rfl)
  have h0 : (linesL (disL p)).map (ren l) = disC l p 0 p ++ [[]] := by
    unfold disL
    rw [lines_of _ (dis_chars p p 0), List.map_append, ren_dis l p p 0 fun x hx => (right_facts (hr x hx).1).word]
    rfl
  rw [h0] at hs ⊢
  have h1 : scan 0 (linesL ((disC l p 0 p ++ [[]]).flatMap fun t => t ++ [10])) ⟨[], [], [], []⟩ = .ok ⟨p.map bare, p.map (wantC l), ks, labsC l p 0 p⟩ := by
    have hch : ∀ t ∈ disC l p 0 p ++ [[]], ∀ c ∈ t, c ≠ 10 := fun t ht => by
      rcases List.mem_append.1 ht with ht | ht
      · exact disC_chars hl' p p 0 t ht
      · obtain rfl := List.mem_singleton.1 ht
        intro c hc
        cases hc
    rw [lines_of _ hch, List.append_assoc, scan_append, he]
    dsimp only
    rw [scan_void _ _ _ (fun t ht => by
      rcases List.mem_append.1 ht with ht | ht <;> exact .inl (List.mem_singleton.1 ht))]
    simp
  have h2 := resolve_backC l (labsC l p 0 p) p ks hk (fun x hx h4 => by
    have hp := (right_facts (hr x hx).1).place h4
    obtain ⟨k, hk⟩ : ∃ k : Nat, x.n = (k : Int) := ⟨x.n.toNat, by omega⟩
    refine ⟨k, hk, at_labsC l p k (by omega) ?_ p 0 (Nat.zero_le _) (by omega)⟩
    unfold aim
    rw [List.any_eq_true]
    exact ⟨x, hx, by simp [h4, hk]⟩)
  unfold asmP
  rw [if_neg (by omega), h1]
  dsimp only
  rw [h2]
  dsimp only
  rw [hc]
  rfl

end As
end Go.Proofs.YtipcockcndnipaaDoor
