/-
  Plain laws on versions' texts: a text is read back, what is read is written as it was, and the reference's part is Atoi's and Itoa's.
-/
import Derived.Test.YtlmmhhkhoaoheaaGreatDoorVersionT
namespace Go.Proofs.YtlmmhhkhoaoheaaGreatDoor
namespace Vs
open Go.Lib

theorem itoa_small : ∀ n : Fin 1000, partV (itoa ((n.val : Nat) : Int)) = some ((n.val : Nat) : Int) ∧ (46 : UInt8) ∉ itoa ((n.val : Nat) : Int) := by decide +kernel
theorem part_small {n : Int} (h0 : 0 ≤ n) (h1 : n ≤ 999) : partV (itoa n) = some n ∧ (46 : UInt8) ∉ itoa n := by
  have h := itoa_small ⟨n.toNat, by omega⟩
  rw [show ((n.toNat : Nat) : Int) = n by omega] at h
  exact h
theorem pieces_no (c : UInt8) : ∀ l : List UInt8, c ∉ l → pieces c l = [l]
  | [], _ => rfl
  | b :: l, h => by
    rw [List.mem_cons, not_or] at h
    rw [pieces, if_neg (fun e => h.1 e.symm), pieces_no c l h.2]
theorem pieces_app (c : UInt8) (m : List UInt8) : ∀ l : List UInt8, c ∉ l → pieces c (l ++ c :: m) = l :: pieces c m
  | [], _ => by simp [pieces]
  | b :: l, h => by
    rw [List.mem_cons, not_or] at h
    rw [List.cons_append, pieces, if_neg (fun e => h.1 e.symm), pieces_app c m l h.2]
theorem parse_text {a b c : Int} (h : goodB a b c = true) : parseL (textL a b c) = some (a, b, c) := by
  obtain ⟨a0, a1, b0, b1, c0, c1⟩ := of_good h
  obtain ⟨pa, na⟩ := part_small a0 a1
  obtain ⟨pb, nb⟩ := part_small b0 b1
  obtain ⟨pc, nc⟩ := part_small c0 c1
  rw [parseL, textL, if_pos h]
  have e : itoa a ++ ([46] ++ (itoa b ++ ([46] ++ itoa c))) = itoa a ++ 46 :: (itoa b ++ 46 :: itoa c) := by simp
  rw [e, pieces_app 46 _ _ na, pieces_app 46 _ _ nb, pieces_no 46 _ nc]
  simp [parseP, parse3, pa, pb, pc, h]
theorem join_pieces (c : UInt8) : ∀ l : List UInt8, [c].intercalate (pieces c l) = l
  | [] => by simp [pieces, List.intercalate]
  | b :: l => by
    have ih := join_pieces c l
    obtain ⟨p, ps, hp⟩ := pieces_ne c l
    rw [hp] at ih
    rw [pieces]
    split
    · rename_i h
      subst h
      rw [hp]
      cases ps with
      | nil => simpa [List.intercalate, List.intersperse] using ih
      | cons q qs => simpa [List.intercalate, List.intersperse] using ih
    · rw [hp]
      cases ps with
      | nil => simpa [List.intercalate, List.intersperse] using ih
      | cons q qs => simpa [List.intercalate, List.intersperse] using ih
theorem text_parse {s : List UInt8} {a b c : Int} (h : parseL s = some (a, b, c)) : textL a b c = s ∧ goodB a b c = true := by
  have hj := join_pieces 46 s
  unfold parseL parseP at h
  split at h
  · rename_i p q r hp
    unfold parse3 at h
    simp only [Option.bind_eq_some_iff] at h
    obtain ⟨x, hx, y, hy, z, hz, h⟩ := h
    split at h
    · rename_i hg
      simp only [Option.some.injEq, Prod.mk.injEq] at h
      obtain ⟨rfl, rfl, rfl⟩ := h
      refine ⟨?_, hg⟩
      rw [textL, if_pos hg, (partV_some hx).2, (partV_some hy).2, (partV_some hz).2, ← hj, hp]
      simp [List.intercalate, List.intersperse]
    · cases h
  · cases h

/-- the reference's part of a text -/
def digits (l : List UInt8) : Bool := l.all fun c => decide (48 ≤ c.toNat) && decide (c.toNat ≤ 57)
def value (l : List UInt8) : Int := l.foldl (fun n c => n * 10 + ((c.toNat : Int) - 48)) 0
def partR (l : List UInt8) : Int :=
  if l = [] ∨ 3 < l.length ∨ (l.head? = some 48 ∧ 1 < l.length) then -1 else if digits l = true then value l else -1
theorem partR_small : ∀ n : Fin 1000, partR (itoa ((n.val : Nat) : Int)) = ((n.val : Nat) : Int) := by decide +kernel
theorem one_small : ∀ x : Fin 10, itoa (value [UInt8.ofNat (48 + x.val)]) = [UInt8.ofNat (48 + x.val)] := by decide +kernel
theorem two_small : ∀ x y : Fin 10, x.val ≠ 0 → itoa (value [UInt8.ofNat (48 + x.val), UInt8.ofNat (48 + y.val)]) = [UInt8.ofNat (48 + x.val), UInt8.ofNat (48 + y.val)] := by decide +kernel
theorem three_small : ∀ x y z : Fin 10, x.val ≠ 0 → itoa (value [UInt8.ofNat (48 + x.val), UInt8.ofNat (48 + y.val), UInt8.ofNat (48 + z.val)]) = [UInt8.ofNat (48 + x.val), UInt8.ofNat (48 + y.val), UInt8.ofNat (48 + z.val)] := by decide +kernel
theorem digit_of {c : UInt8} (h0 : 48 ≤ c.toNat) (h1 : c.toNat ≤ 57) : ∃ x : Fin 10, c = UInt8.ofNat (48 + x.val) := by
  refine ⟨⟨c.toNat - 48, by omega⟩, ?_⟩
  have : 48 + (c.toNat - 48) = c.toNat := by omega
  simp [this]
theorem head_zero (x : Fin 10) : UInt8.ofNat (48 + x.val) = 48 → x.val = 0 := by
  revert x; decide
theorem partR_itoa {l : List UInt8} (h : partR l ≠ -1) : itoa (partR l) = l ∧ 0 ≤ partR l ∧ partR l ≤ 999 := by
  unfold partR at h ⊢
  split at h
  · exact absurd rfl h
  · rename_i hc
    rw [if_neg hc]
    split at h
    · rename_i hd
      rw [if_pos hd]
      clear h
      simp only [not_or, not_and] at hc
      obtain ⟨c1, c2, c3⟩ := hc
      match l, c1, c2, c3, hd with
      | [x], _, _, _, hd =>
        simp [digits] at hd
        obtain ⟨x, rfl⟩ := digit_of hd.1 hd.2
        refine ⟨one_small x, ?_⟩
        revert x; decide +kernel
      | [x, y], _, _, c3, hd =>
        simp [digits] at hd
        obtain ⟨x, rfl⟩ := digit_of hd.1.1 hd.1.2
        obtain ⟨y, rfl⟩ := digit_of hd.2.1 hd.2.2
        have hx : x.val ≠ 0 := fun e => by have := c3 (by simp [e]); simp at this
        refine ⟨two_small x y hx, ?_⟩
        clear hx c3 hd
        revert x y; decide +kernel
      | [x, y, z], _, _, c3, hd =>
        simp [digits] at hd
        obtain ⟨x, rfl⟩ := digit_of hd.1.1 hd.1.2
        obtain ⟨y, rfl⟩ := digit_of hd.2.1.1 hd.2.1.2
        obtain ⟨z, rfl⟩ := digit_of hd.2.2.1 hd.2.2.2
        have hx : x.val ≠ 0 := fun e => by have := c3 (by simp [e]); simp at this
        refine ⟨three_small x y z hx, ?_⟩
        clear hx c3 hd
        revert x y z; decide +kernel
      | _ :: _ :: _ :: _ :: _, _, c2, _, _ => simp at c2
    · exact absurd rfl h
theorem partV_partR (l : List UInt8) : (partV l).bind (fun n => if 0 ≤ n ∧ n ≤ 999 then some n else none) = if partR l = -1 then none else some (partR l) := by
  by_cases h : partR l = -1
  · rw [if_pos h]
    cases hv : partV l with
    | none => rfl
    | some n =>
      show (if 0 ≤ n ∧ n ≤ 999 then some n else none) = none
      rw [if_neg]
      rintro ⟨h0, h1⟩
      have e := (partV_some hv).2
      have h2 := partR_small ⟨n.toNat, by omega⟩
      rw [show ((n.toNat : Nat) : Int) = n by omega, e, h] at h2
      omega
  · rw [if_neg h]
    obtain ⟨e, h0, h1⟩ := partR_itoa h
    have hp := (part_small h0 h1).1
    rw [e] at hp
    rw [hp]
    show (if 0 ≤ partR l ∧ partR l ≤ 999 then some (partR l) else none) = _
    rw [if_pos ⟨h0, h1⟩]
theorem partR_bd (l : List UInt8) : partR l = -1 ∨ (0 ≤ partR l ∧ partR l ≤ 999) := by
  by_cases h : partR l = -1
  · exact Or.inl h
  · exact Or.inr (partR_itoa h).2
theorem parse3_R (p q r : List UInt8) : parse3 p q r = if goodB (partR p) (partR q) (partR r) = true then some (partR p, partR q, partR r) else none := by
  have hp := partV_partR p
  have hq := partV_partR q
  have hr := partV_partR r
  have key : parse3 p q r = ((partV p).bind fun n => if 0 ≤ n ∧ n ≤ 999 then some n else none).bind fun a => ((partV q).bind fun n => if 0 ≤ n ∧ n ≤ 999 then some n else none).bind fun b => ((partV r).bind fun n => if 0 ≤ n ∧ n ≤ 999 then some n else none).bind fun c => some (a, b, c) := by
    unfold parse3
    cases partV p with
    | none => rfl
    | some a =>
      cases partV q with
      | none => simp only [Option.bind_some, Option.bind_none]; split <;> rfl
      | some b =>
        cases partV r with
        | none => simp only [Option.bind_some, Option.bind_none]; split <;> simp
        | some c =>
          simp only [Option.bind_some]
          by_cases ha : 0 ≤ a ∧ a ≤ 999
          · by_cases hb : 0 ≤ b ∧ b ≤ 999
            · by_cases hc : 0 ≤ c ∧ c ≤ 999
              · simp [ha, hb, hc, good_tt ha hb hc]
              · simp [ha, hb, hc, good_ff (a := a) (b := b) (c := c) (by omega)]
            · simp [ha, hb, good_ff (a := a) (b := b) (c := c) (by omega)]
          · simp [ha, good_ff (a := a) (b := b) (c := c) (by omega)]
  rw [key, hp, hq, hr]
  by_cases h1 : partR p = -1
  · rw [if_pos h1, good_ff (by rw [h1]; omega)]; simp
  · by_cases h2 : partR q = -1
    · rw [if_neg h1, if_pos h2, good_ff (by rw [h2]; omega)]; simp
    · by_cases h3 : partR r = -1
      · rw [if_neg h1, if_neg h2, if_pos h3, good_ff (by rw [h3]; omega)]; simp
      · rw [if_neg h1, if_neg h2, if_neg h3, good_tt (partR_itoa h1).2 (partR_itoa h2).2 (partR_itoa h3).2]; simp

end Vs
end Go.Proofs.YtlmmhhkhoaoheaaGreatDoor
