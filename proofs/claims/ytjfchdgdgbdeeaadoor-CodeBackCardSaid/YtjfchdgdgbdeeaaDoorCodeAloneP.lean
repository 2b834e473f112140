/-
  Plain law of CodeAlone: an instruction put into a program without places. No program in sight.
-/
import Derived.Test.YtjfchdgdgbdeeaaDoorCodeD
namespace Go.Proofs.YtjfchdgdgbdeeaaDoor
open Go.RowKit
namespace Cd

def halt : I := ⟨1, 0, ⟨#[]⟩⟩
theorem right_halt (c : Int) : right halt c = true := by
  rw [right_0 (by decide +kernel) (by decide) rfl]
  rfl
theorem right_free {x : I} (h : takes x.op ≠ 4) (c d : Int) : right x c = right x d := by
  unfold right
  split
  · rfl
  · split
    · rfl
    · split
      · rfl
      · split
        · rfl
        · split
          · rfl
          · rfl
theorem bad_free (c d : Int) : ∀ p : List I, (∀ y ∈ p, takes y.op ≠ 4) → firstBad c p = firstBad d p
  | [], _ => rfl
  | y :: p, h => by
    have ih := bad_free c d p (fun z hz => h z (List.mem_cons_of_mem _ hz))
    unfold firstBad
    rw [right_free (h y (by simp)) c d, ih]
theorem bad_app (c : Int) : ∀ a b : List I, firstBad c (a ++ b) = match firstBad c a with
    | some i => some i
    | none => (firstBad c b).map (· + a.length)
  | [], b => by simp [firstBad]
  | y :: a, b => by
    have ih := bad_app c a b
    simp only [List.cons_append, firstBad]
    cases hr : right y c
    · simp
    · simp only [if_pos, ih]
      cases firstBad c a with
      | some i => simp
      | none =>
        simp only [Option.map_none, Option.map_map]
        cases firstBad c b <;> simp; omega
/-- x put into p at the place k -/
def into (p : List I) (k : Nat) (x : I) : List I := p.take k ++ [x] ++ p.drop k
theorem into_len {p : List I} {k : Nat} {x : I} (h : k ≤ p.length) : (into p k x).length = p.length + 1 := by simp [into]; omega
theorem into_free {p : List I} {k : Nat} {x : I} (hp : ∀ y ∈ p, takes y.op ≠ 4) (hx : takes x.op ≠ 4) : ∀ y ∈ into p k x, takes y.op ≠ 4 := by
  intro y hy
  simp only [into, List.mem_append, List.mem_cons, List.not_mem_nil, or_false] at hy
  rcases hy with (hy | rfl) | hy
  · exact hp y (List.mem_of_mem_take hy)
  · exact hx
  · exact hp y (List.mem_of_mem_drop hy)
theorem check_sml {p : List I} (h0 : p.length ≠ 0) (h1 : p.length ≤ 256) : check p = match firstBad p.length p with
    | some i => ((i : Int), 30)
    | none => (0, 0) := by
  unfold check
  rw [if_neg (by omega)]
  cases firstBad p.length p <;> rfl
/-- the law -/
theorem alone_plain (x : I) (p : List I) (k : Nat) (hk : k ≤ p.length) (hl : p.length < 256) (hx : takes x.op ≠ 4) (hp : ∀ y ∈ p, takes y.op ≠ 4) :
    if p.length = 0 ∨ (check p).2 = 0 then (check (into p k x)).2 = (check [x, halt]).2 ∧ ((check [x, halt]).2 = 0 ∨ (check (into p k x)).1 = (k : Int)) else (check (into p k x)).2 = 30 := by
  have hlen := into_len (x := x) hk
  have e1 := check_sml (p := into p k x) (by omega) (by omega)
  have e2 : check [x, halt] = if right x 2 = true then (0, 0) else (0, 30) := by
    rw [check_sml (by simp) (by simp)]
    cases hr : right x 2 <;> simp [firstBad, hr, right_halt]
  have hf := bad_free ((into p k x).length : Int) 2 (into p k x) (into_free hp hx)
  have hfp := bad_free (p.length : Int) 2 p hp
  have hsplit : firstBad 2 p = match firstBad 2 (p.take k) with
      | some i => some i
      | none => (firstBad 2 (p.drop k)).map (· + (p.take k).length) := by
    rw [← bad_app, List.take_append_drop]
  have htl : (p.take k).length = k := by simp; omega
  have hinto : firstBad 2 (into p k x) = match firstBad 2 (p.take k) with
      | some i => some i
      | none => if right x 2 = true then (firstBad 2 (p.drop k)).map (· + (k + 1)) else some k := by
    unfold into
    rw [bad_app, bad_app]
    cases firstBad 2 (p.take k) with
    | some i => rfl
    | none =>
      cases hr : right x 2
      · simp [firstBad, hr, htl]
      · simp only [firstBad, hr, if_pos, Option.map_none, List.length_append, htl, List.length_cons, List.length_nil]
  rw [hf, hinto] at e1
  by_cases hc : p.length = 0 ∨ (check p).2 = 0
  · rw [if_pos hc, e2, e1]
    have hnone : firstBad 2 p = none := by
      rcases hc with h0 | h0
      · rw [List.eq_nil_of_length_eq_zero h0]; rfl
      · by_cases hz : p.length = 0
        · rw [List.eq_nil_of_length_eq_zero hz]; rfl
        · rw [check_sml hz (by omega), hfp] at h0
          cases hb : firstBad 2 p with
          | none => rfl
          | some i => rw [hb] at h0; simp at h0
    rw [hnone] at hsplit
    cases ht : firstBad 2 (p.take k) with
    | some i => rw [ht] at hsplit; simp at hsplit
    | none =>
      rw [ht] at hsplit
      have hd : firstBad 2 (p.drop k) = none := by
        cases hb : firstBad 2 (p.drop k) with
        | none => rfl
        | some i => rw [hb] at hsplit; simp at hsplit
      rw [hd]
      cases right x 2 <;> simp
  · rw [if_neg hc, e1]
    have hz : p.length ≠ 0 := fun h => hc (.inl h)
    have hsome : ∃ j, firstBad 2 p = some j := by
      cases hb : firstBad 2 p with
      | some j => exact ⟨j, rfl⟩
      | none =>
        exact absurd (.inr (by rw [check_sml hz (by omega), hfp, hb])) hc
    obtain ⟨j, hj⟩ := hsome
    rw [hj] at hsplit
    cases ht : firstBad 2 (p.take k) with
    | some i => rfl
    | none =>
      rw [ht] at hsplit
      cases hb : firstBad 2 (p.drop k) with
      | none => rw [hb] at hsplit; simp at hsplit
      | some i => cases right x 2 <;> simp
end Cd
end Go.Proofs.YtjfchdgdgbdeeaaDoor
