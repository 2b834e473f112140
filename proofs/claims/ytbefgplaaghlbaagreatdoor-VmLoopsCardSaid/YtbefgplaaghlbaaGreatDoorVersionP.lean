/-
  Plain lists: the pieces between the points of a text, a part of a version, and what version.Parse answers. No program in sight.
-/
import Derived.Lib.SplitLaws
import Derived.Lib.ItoaLen
import Derived.Lib.AtoiAll
import Derived.Test.YtbefgplaaghlbaaGreatDoorVersionA
namespace Go.Proofs.YtbefgplaaghlbaaGreatDoor
namespace Vs
open Go.Lib

/-- what stands between the bytes c -/
def pieces (c : UInt8) : List UInt8 → List (List UInt8)
  | [] => [[]]
  | b :: l => if b = c then [] :: pieces c l else match pieces c l with
    | p :: ps => (b :: p) :: ps
    | [] => [[b]]
theorem pieces_ne (c : UInt8) (l : List UInt8) : ∃ p ps, pieces c l = p :: ps := by
  cases l with
  | nil => exact ⟨[], [], rfl⟩
  | cons b l =>
    unfold pieces
    split
    · exact ⟨_, _, rfl⟩
    · split <;> exact ⟨_, _, rfl⟩
theorem split_pieces (c : UInt8) : ∀ l : List UInt8, splitK [c] 0 (count l [c]) l = pieces c l
  | [] => by rw [count_miss (by simp [index])]; rfl
  | b :: l => by
    have ih := split_pieces c l
    by_cases h : b = c
    · subst h
      have hix : index (b :: l) [b] = 0 := by rw [index]; simp [List.isPrefixOf]
      rw [count_cons_eq, Nat.add_comm, splitK, hix, pieces, if_pos rfl]
      simp [ih]
    · have hp : ([c] : List UInt8).isPrefixOf (b :: l) = false := by simp [List.isPrefixOf, Ne.symm h]
      have hix : index (b :: l) [c] = if index l [c] == -1 then -1 else index l [c] + 1 := by rw [index, hp]; simp
      rw [count_cons_ne b c l h, pieces, if_neg h]
      by_cases hm : index l [c] = -1
      · rw [count_miss hm] at ih ⊢
        rw [← ih]
        rfl
      · have hge := index_ge l [c]
        obtain ⟨j, hj⟩ : ∃ j : Nat, index l [c] = j := ⟨(index l [c]).toNat, by omega⟩
        have hix' : index (b :: l) [c] = ((j + 1 : Nat) : Int) := by rw [hix, if_neg (fun e => hm (beq_iff_eq.1 e)), hj]; omega
        rw [count_hit (by simp) hj] at ih ⊢
        rw [Nat.add_comm, splitK] at ih ⊢
        rw [if_neg (by rw [hj]; simp), hj] at ih
        rw [if_neg (by rw [hix']; simp; omega), hix', ← ih]
        have e2 : ((j + 1 : Nat) : Int).toNat = j + 1 := by omega
        rw [e2]
        simp
theorem pieces_snoc_hit (c : UInt8) : ∀ l : List UInt8, pieces c (l ++ [c]) = pieces c l ++ [[]]
  | [] => by simp [pieces]
  | b :: l => by
    have ih := pieces_snoc_hit c l
    obtain ⟨p, ps, hp⟩ := pieces_ne c l
    by_cases h : b = c
    · subst h; simp [pieces, ih]
    · simp [pieces, h, ih, hp]
def addLast (x : UInt8) : List (List UInt8) → List (List UInt8)
  | [] => []
  | [p] => [p ++ [x]]
  | p :: q :: r => p :: addLast x (q :: r)
theorem pieces_snoc_miss (c x : UInt8) (hx : x ≠ c) : ∀ l : List UInt8, pieces c (l ++ [x]) = addLast x (pieces c l)
  | [] => by simp [pieces, hx, addLast]
  | b :: l => by
    have ih := pieces_snoc_miss c x hx l
    obtain ⟨p, ps, hp⟩ := pieces_ne c l
    by_cases h : b = c
    · subst h; simp [pieces, ih, hp, addLast]
    · simp only [List.cons_append, pieces, if_neg h, ih, hp]
      cases ps <;> simp [addLast]

theorem pieces_len (c : UInt8) : ∀ (l p : List UInt8), p ∈ pieces c l → p.length ≤ l.length
  | [], p, h => by simp [pieces] at h; simp [h]
  | b :: l, p, h => by
    have ih := pieces_len c l
    unfold pieces at h
    split at h
    · rcases List.mem_cons.1 h with h | h
      · simp [h]
      · have := ih p h; simp only [List.length_cons]; omega
    · split at h
      · rename_i q qs hq
        rcases List.mem_cons.1 h with h | h
        · have := ih q (by rw [hq]; simp); subst h; simp only [List.length_cons]; omega
        · have := ih p (by rw [hq]; exact List.mem_cons_of_mem _ h); simp only [List.length_cons]; omega
      · simp at h; subst h; simp
theorem pieces_len' (c : UInt8) (l : List UInt8) : 1 ≤ (pieces c l).length ∧ (pieces c l).length ≤ l.length + 1 := by
  induction l with
  | nil => simp [pieces]
  | cons b l ih =>
    unfold pieces
    split
    · simp; omega
    · split
      · rename_i q qs hq
        rw [hq] at ih
        simp at ih ⊢
        omega
      · simp
/-- a part, as strconv.Atoi and strconv.Itoa tell it -/
def partV (l : List UInt8) : Option Int := match atoiAll l with
  | .ok n => if itoa n = l then some n else none
  | _ => none
def parse3 (p q r : List UInt8) : Option (Int × Int × Int) := (partV p).bind fun a => (partV q).bind fun b => (partV r).bind fun c => if goodB a b c = true then some (a, b, c) else none
def parseP : List (List UInt8) → Option (Int × Int × Int)
  | [p, q, r] => parse3 p q r
  | _ => none
def parseL (s : List UInt8) : Option (Int × Int × Int) := parseP (pieces 46 s)
theorem partV_some {l : List UInt8} {n : Int} (h : partV l = some n) : atoiAll l = .ok n ∧ itoa n = l := by
  unfold partV at h
  split at h
  · rename_i m hm
    split at h
    · rename_i hi
      cases h
      exact ⟨hm, hi⟩
    · cases h
  · cases h
theorem partV_ok {l : List UInt8} {n : Int} (h : atoiAll l = .ok n) (hi : itoa n = l) : partV l = some n := by simp [partV, h, hi]
theorem partV_off {l : List UInt8} {n : Int} (h : atoiAll l = .ok n) (hi : itoa n ≠ l) : partV l = none := by simp [partV, h, hi]
theorem partV_bad {l : List UInt8} (h : ∀ n, atoiAll l ≠ .ok n) : partV l = none := by
  unfold partV
  split
  · rename_i n hn; exact absurd hn (h n)
  · rfl
theorem atoi_bd {l : List UInt8} {n : Int} (h : atoiAll l = .ok n) : -9223372036854775808 ≤ n ∧ n ≤ 9223372036854775807 := by
  unfold atoiAll at h
  split at h
  · cases h
  · simp only at h
    split at h
    · cases h
    · cases h
    · split at h
      · cases h
      · split at h
        · cases h
        · injection h with h
          split at h <;> omega

/-- what Parse answers -/
def PV : Option (Int × Int × Int) → Value
  | some (a, b, c) => .tuple #[V a b c, .int .i64 0]
  | none => .tuple #[V 0 0 0, .int .i64 20]
theorem PV_none : PV none = .tuple #[V 0 0 0, .int .i64 20] := rfl
theorem PV_some (a b c : Int) : PV (some (a, b, c)) = .tuple #[V a b c, .int .i64 0] := rfl

end Vs
end Go.Proofs.YtbefgplaaghlbaaGreatDoor
