/-
  Plain law of numerals: a number's digits are read back. No program in sight.
-/
import Derived.Lib.ItoaMem
import Derived.Lib.ItoaLen
import Derived.Lib.AtoiAllCases
import Derived.Test.YtbefgplaaghlbaaGreatDoorRows
namespace Go.Proofs.YtbefgplaaghlbaaGreatDoor
open Go.RowKit
namespace Nu

def isD (c : UInt8) : Bool := decide (48 ≤ c.toNat) && decide (c.toNat ≤ 57)
def val (l : List UInt8) : Nat := l.foldl (fun n c => n * 10 + (c.toNat - 48)) 0
theorem isD_iff (c : UInt8) : isD c = true ↔ 48 ≤ c.toNat ∧ c.toNat ≤ 57 := by simp [isD]
theorem val_snoc (l : List UInt8) (c : UInt8) : val (l ++ [c]) = val l * 10 + (c.toNat - 48) := by simp [val]
theorem rev_ind {P : List UInt8 → Prop} (h0 : P []) (h1 : ∀ l c, P l → P (l ++ [c])) : ∀ l, P l := by
  intro l
  have : ∀ r : List UInt8, P r.reverse := fun r => by
    induction r with
    | nil => exact h0
    | cons c r ih => rw [List.reverse_cons]; exact h1 _ _ ih
  simpa using this l.reverse
theorem val_lt : ∀ l : List UInt8, (∀ c ∈ l, isD c = true) → val l < 10 ^ l.length := by
  intro l
  refine rev_ind (P := fun l => (∀ c ∈ l, isD c = true) → val l < 10 ^ l.length) (fun _ => by simp [val]) (fun l c ih h => ?_) l
  have h1 := ih (fun d hd => h d (by simp [hd]))
  have h2 := (isD_iff c).1 (h c (by simp))
  rw [val_snoc, List.length_append, List.length_singleton, Nat.pow_succ]
  omega
theorem val_ge : ∀ l : List UInt8, (∀ c ∈ l, isD c = true) → l.head? ≠ some 48 → l ≠ [] → 10 ^ (l.length - 1) ≤ val l := by
  intro l
  refine rev_ind (P := fun l => (∀ c ∈ l, isD c = true) → l.head? ≠ some 48 → l ≠ [] → 10 ^ (l.length - 1) ≤ val l) (fun _ _ h => absurd rfl h) (fun l c ih h hh _ => ?_) l
  have h2 := (isD_iff c).1 (h c (by simp))
  rw [val_snoc, List.length_append, List.length_singleton, Nat.add_sub_cancel]
  cases l with
  | nil =>
    have : c.toNat ≠ 48 := fun e => hh (by
      have : c = 48 := UInt8.toNat_inj.1 e
      simp [this])
    simp [val]
    omega
  | cons d l =>
    have h1 := ih (fun d hd => h d (by
      rw [List.mem_append]; exact .inl hd)) (by simpa using hh) (by simp)
    simp only [List.length_cons, Nat.add_sub_cancel] at h1 ⊢
    rw [Nat.pow_succ]
    omega
theorem dec_small {u : Nat} (h : u < 10) : Lib.decDigits u = [UInt8.ofNat (48 + u)] := by rw [Lib.decDigits, dif_pos h]
theorem dec_big {u : Nat} (h : ¬ u < 10) : Lib.decDigits u = Lib.decDigits (u / 10) ++ [UInt8.ofNat (48 + u % 10)] := by rw [Lib.decDigits, dif_neg h]
theorem digit_of {c : UInt8} (h : isD c = true) : UInt8.ofNat (48 + (c.toNat - 48)) = c := by
  have := (isD_iff c).1 h
  rw [show 48 + (c.toNat - 48) = c.toNat by omega]
  simp
theorem isD_of {k : Nat} (h : k < 10) : isD (UInt8.ofNat (48 + k)) = true := by
  rw [isD_iff, UInt8.toNat_ofNat_of_lt' (by show 48 + k < 256; omega)]
  omega
theorem toNat_of {k : Nat} (h : k < 10) : (UInt8.ofNat (48 + k)).toNat = 48 + k := UInt8.toNat_ofNat_of_lt' (by show 48 + k < 256; omega)
theorem dec_digits (u : Nat) : ∀ c ∈ Lib.decDigits u, isD c = true := by
  induction u using Nat.strongRecOn with
  | _ u ih =>
    by_cases h : u < 10
    · rw [dec_small h]
      intro c hc
      obtain rfl := List.mem_singleton.1 hc
      exact isD_of h
    · rw [dec_big h]
      intro c hc
      rw [List.mem_append, List.mem_singleton] at hc
      rcases hc with hc | rfl
      · exact ih (u / 10) (by omega) c hc
      · exact isD_of (by omega)
theorem dec_val (u : Nat) : val (Lib.decDigits u) = u := by
  induction u using Nat.strongRecOn with
  | _ u ih =>
    by_cases h : u < 10
    · rw [dec_small h]; simp only [val, List.foldl_cons, List.foldl_nil, toNat_of h]; omega
    · rw [dec_big h, val_snoc, ih (u / 10) (by omega), toNat_of (by omega)]; omega
theorem dec_ne (u : Nat) : Lib.decDigits u ≠ [] := fun h => by
  have h1 := Lib.decDigits_length u
  rw [h] at h1
  have := Lib.nDigits_pos u
  simp at h1
  omega
theorem vl_ge : ∀ (l : List UInt8) (acc : Nat), acc ≤ l.foldl (fun n c => n * 10 + (c.toNat - 48)) acc
  | [], acc => Nat.le_refl _
  | c :: l, acc => by
    have := vl_ge l (acc * 10 + (c.toNat - 48))
    simp only [List.foldl_cons]
    omega
theorem parse_digits : ∀ (l : List UInt8) (acc : Nat), (∀ c ∈ l, isD c = true) → l.foldl (fun n c => n * 10 + (c.toNat - 48)) acc < 18446744073709551616 → Lib.parseUint10 acc l = .ok (l.foldl (fun n c => n * 10 + (c.toNat - 48)) acc)
  | [], acc, _, _ => rfl
  | c :: l, acc, hd, hv => by
    have hc := (isD_iff c).1 (hd c (by simp))
    simp only [List.foldl_cons] at hv ⊢
    have hg := vl_ge l (acc * 10 + (c.toNat - 48))
    rw [Lib.parseUint10, if_pos hc, if_neg (by omega), if_neg (by omega)]
    exact parse_digits l _ (fun d hd' => hd d (by simp [hd'])) hv
theorem mag_dec (u : Nat) (h : u < 18446744073709551616) : Lib.parseMag (Lib.decDigits u) = .ok u := by
  unfold Lib.parseMag
  rw [if_neg (dec_ne u)]
  have hv : (Lib.decDigits u).foldl (fun n c => n * 10 + (c.toNat - 48)) 0 = u := dec_val u
  rw [parse_digits _ _ (dec_digits u) (by rw [hv]; exact h), hv]
theorem atoi_itoa (n : Int) (h0 : -9223372036854775808 ≤ n) (h1 : n ≤ 9223372036854775807) : Lib.atoiAll (Lib.itoa n) = .ok n := by
  by_cases hn : n < 0
  · obtain ⟨u, rfl⟩ : ∃ u : Nat, n = -(u : Int) := ⟨n.natAbs, by omega⟩
    rw [Lib.itoa_neg u (by omega), Lib.atoiAll_minus, mag_dec u (by omega)]
    simp only [Lib.signed]
    rw [if_neg (by omega)]
  · obtain ⟨u, rfl⟩ : ∃ u : Nat, n = (u : Int) := ⟨n.toNat, by omega⟩
    rw [Lib.itoa_nonneg]
    cases hd : Lib.decDigits u with
    | nil => exact absurd hd (dec_ne u)
    | cons c r =>
      have hc := (isD_iff c).1 (dec_digits u c (by rw [hd]; simp))
      rw [Lib.atoiAll_plain c r (by omega) (by omega), ← hd, mag_dec u (by omega)]
      simp only [Lib.signless]
      rw [if_neg (by omega)]
theorem itoa_inj {n m : Int} (h0 : -9223372036854775808 ≤ n) (h1 : n ≤ 9223372036854775807) (g0 : -9223372036854775808 ≤ m) (g1 : m ≤ 9223372036854775807) (h : Lib.itoa n = Lib.itoa m) : n = m := by
  have e1 := atoi_itoa n h0 h1
  have e2 := atoi_itoa m g0 g1
  rw [h, e2] at e1
  injection e1 with e1
  exact e1.symm
theorem itoa_chars (n : Int) : ∀ c ∈ Lib.itoa n, c = 45 ∨ isD c = true := by
  intro c hc
  by_cases hn : n < 0
  · obtain ⟨u, rfl⟩ : ∃ u : Nat, n = -(u : Int) := ⟨n.natAbs, by omega⟩
    rw [Lib.itoa_neg u (by omega)] at hc
    rcases List.mem_cons.1 hc with h | h
    · exact .inl h
    · exact .inr (dec_digits u c h)
  · obtain ⟨u, rfl⟩ : ∃ u : Nat, n = (u : Int) := ⟨n.toNat, by omega⟩
    rw [Lib.itoa_nonneg] at hc
    exact .inr (dec_digits u c hc)
theorem itoa_nat_chars (u : Nat) : ∀ c ∈ Lib.itoa (u : Int), isD c = true := by
  intro c hc
  rw [Lib.itoa_nonneg] at hc
  exact dec_digits u c hc

end Nu
end Go.Proofs.YtbefgplaaghlbaaGreatDoor
