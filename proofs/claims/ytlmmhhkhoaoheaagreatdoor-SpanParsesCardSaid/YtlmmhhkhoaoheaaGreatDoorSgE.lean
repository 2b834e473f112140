/-
  Plain law of ranges: the ends of gaps; what is put together of pieces is the normal form. No program in sight.
-/
import Derived.Test.YtlmmhhkhoaoheaaGreatDoorSgP
namespace Go.Proofs.YtlmmhhkhoaoheaaGreatDoor
namespace Sg

/-- one more, at its place -/
def withF (l : List Int) (n : Int) : List Int := if n < 0 ∨ 1000000000 < n then l else l.filter (fun x => decide (x < n)) ++ (n :: l.filter (fun x => decide (n < x)))
def endsF (gs : List G) : List Int := gs.foldl (fun l g => withF (withF l g.1) g.2) [0, 1000000000]
/-- rising, from 0 to 10^9 -/
structure Es (l : List Int) : Prop where
  srt : l.Pairwise (· < ·)
  lo : (0 : Int) ∈ l
  hi : (1000000000 : Int) ∈ l
  bd : ∀ x ∈ l, 0 ≤ x ∧ x ≤ 1000000000
theorem Es.start : Es [0, 1000000000] := ⟨by simp, by simp, by simp, fun x hx => by simp at hx; omega⟩
theorem with_mem {l : List Int} {n m : Int} : m ∈ withF l n ↔ m ∈ l ∨ (m = n ∧ 0 ≤ n ∧ n ≤ 1000000000) := by
  unfold withF
  by_cases h : n < 0 ∨ 1000000000 < n
  · rw [if_pos h]
    exact ⟨.inl, fun h1 => h1.elim id (fun h1 => by omega)⟩
  · rw [if_neg h]
    simp only [List.mem_append, List.mem_cons, List.mem_filter, decide_eq_true_eq]
    constructor
    · rintro (h1 | h1 | h1)
      · exact .inl h1.1
      · exact .inr ⟨h1, by omega, by omega⟩
      · exact .inl h1.1
    · rintro (h1 | h1)
      · by_cases h2 : m < n
        · exact .inl ⟨h1, h2⟩
        · by_cases h3 : m = n
          · exact .inr (.inl h3)
          · exact .inr (.inr ⟨h1, by omega⟩)
      · exact .inr (.inl h1.1)
theorem Es.put {l : List Int} (h : Es l) (n : Int) : Es (withF l n) := by
  refine ⟨?_, with_mem.2 (.inl h.lo), with_mem.2 (.inl h.hi), fun x hx => ?_⟩
  · unfold withF
    split
    · exact h.srt
    · rw [List.pairwise_append]
      refine ⟨h.srt.filter _, ?_, fun x hx y hy => ?_⟩
      · rw [List.pairwise_cons]
        exact ⟨fun x hx => by simpa using (List.mem_filter.1 hx).2, h.srt.filter _⟩
      · have h1 : x < n := by simpa using (List.mem_filter.1 hx).2
        rcases List.mem_cons.1 hy with rfl | hy
        · exact h1
        · have h2 : n < y := by simpa using (List.mem_filter.1 hy).2
          omega
  · rcases with_mem.1 hx with hx | hx
    · exact h.bd x hx
    · omega
theorem ends_all : ∀ (gs : List G) (l : List Int), Es l → Es (gs.foldl (fun l g => withF (withF l g.1) g.2) l) ∧ (∀ m, m ∈ l → m ∈ gs.foldl (fun l g => withF (withF l g.1) g.2) l) ∧
    ∀ g ∈ gs, ∀ m, (m = g.1 ∨ m = g.2) → 0 ≤ m → m ≤ 1000000000 → m ∈ gs.foldl (fun l g => withF (withF l g.1) g.2) l
  | [], l, h => ⟨h, fun _ hm => hm, fun g hg => by cases hg⟩
  | g :: gs, l, h => by
    obtain ⟨h1, h2, h3⟩ := ends_all gs _ ((h.put g.1).put g.2)
    refine ⟨h1, fun m hm => h2 m (with_mem.2 (.inl (with_mem.2 (.inl hm)))), fun k hk m hm h4 h5 => ?_⟩
    rcases List.mem_cons.1 hk with rfl | hk
    · refine h2 m ?_
      rcases hm with hm | hm
      · exact with_mem.2 (.inl (with_mem.2 (.inr ⟨hm, by omega, by omega⟩)))
      · exact with_mem.2 (.inr ⟨hm, by omega, by omega⟩)
    · exact h3 k hk m hm h4 h5
theorem ends_es (gs : List G) : Es (endsF gs) := (ends_all gs _ Es.start).1
theorem ends_mem {gs : List G} {g : G} (h : g ∈ gs) {m : Int} (hm : m = g.1 ∨ m = g.2) (h0 : 0 ≤ m) (h1 : m ≤ 1000000000) : m ∈ endsF gs := (ends_all gs _ Es.start).2.2 g h m hm h0 h1
/-- what hangs on the gaps alone is the same within each piece -/
theorem still_of {S : Int → Bool} : ∀ (l : List Int), l.Pairwise (· < ·) → (∀ a b n, a ∈ l → b ∈ l → (∀ x ∈ l, x ≤ a ∨ b ≤ x) → a ≤ n → n < b → S n = S a) → Still S l
  | [], _, _ => trivial
  | [_], _, _ => trivial
  | a :: b :: r, hs, h => by
    obtain ⟨h1, h2⟩ := List.pairwise_cons.1 hs
    obtain ⟨h3, _⟩ := List.pairwise_cons.1 h2
    refine ⟨⟨h1 b (.head _), fun n hn hb => h a b n (.head _) (.tail _ (.head _)) (fun x hx => ?_) hn hb⟩, still_of (b :: r) h2 fun c d n hc hd hx => h c d n (.tail _ hc) (.tail _ hd) (fun x hx' => ?_)⟩
    · rcases List.mem_cons.1 hx with rfl | hx
      · exact .inl (Int.le_refl _)
      · rcases List.mem_cons.1 hx with rfl | hx
        · exact .inr (Int.le_refl _)
        · exact .inr (Int.le_of_lt (h3 x hx))
    · rcases List.mem_cons.1 hx' with rfl | hx'
      · exact .inl (Int.le_of_lt (h1 c hc))
      · exact hx x hx'
def inB (r : List G) (n : Int) : Bool := r.any fun g => decide (g.1 ≤ n) && decide (n < g.2)
theorem inB_iff (r : List G) (n : Int) : inB r n = true ↔ inR r n := by
  unfold inB inR
  rw [List.any_eq_true]
  constructor
  · rintro ⟨g, hg, h⟩
    simp at h
    exact ⟨g, hg, h⟩
  · rintro ⟨g, hg, h⟩
    exact ⟨g, hg, by simp; exact h⟩
/-- two numbers within one piece lie in the same gaps -/
theorem in_still {gs r : List G} (hr : ∀ g ∈ r, g ∈ gs) {a b n : Int} (ha : a ∈ endsF gs) (hb : b ∈ endsF gs) (h : ∀ x ∈ endsF gs, x ≤ a ∨ b ≤ x) (hn : a ≤ n) (hb' : n < b) : inB r n = inB r a := by
  have key : inR r n ↔ inR r a := by
    have b1 := (ends_es gs).bd a ha
    have b2 := (ends_es gs).bd b hb
    constructor
    · rintro ⟨g, hg, h1, h2⟩
      refine ⟨g, hg, ?_, by omega⟩
      by_cases h3 : g.1 ≤ a
      · exact h3
      · have := h g.1 (ends_mem (hr g hg) (.inl rfl) (by omega) (by omega))
        omega
    · rintro ⟨g, hg, h1, h2⟩
      refine ⟨g, hg, by omega, ?_⟩
      by_cases h3 : n < g.2
      · exact h3
      · have := h g.2 (ends_mem (hr g hg) (.inr rfl) (by omega) (by omega))
        omega
  cases h1 : inB r n <;> cases h2 : inB r a
  · rfl
  · rw [(inB_iff r n).2 (key.2 ((inB_iff r a).1 h2))] at h1; cases h1
  · rw [(inB_iff r a).2 (key.1 ((inB_iff r n).1 h1))] at h2; cases h2
  · rfl
/-- what is put together of the pieces is the normal form of what S says -/
theorem range_is {gs r : List G} {S : Int → Bool} (hst : Still S (endsF gs)) (hr : Nm r) (h : ∀ n, inR r n ↔ (0 ≤ n ∧ n < 1000000000 ∧ S n = true)) : rangeF S (endsF gs) [] = r := by
  have hE := ends_es gs
  cases hl : endsF gs with
  | nil => rw [hl] at hE; exact absurd hE.lo (by simp)
  | cons a l =>
    rw [hl] at hE hst
    obtain ⟨hp, hs⟩ := List.pairwise_cons.1 hE.srt
    have e0 : a = 0 := by
      rcases List.mem_cons.1 hE.lo with h1 | h1
      · exact h1.symm
      · have := hp 0 h1
        have := (hE.bd a (.head _)).1
        omega
    have e1 : (a :: l).getLast (by simp) = 1000000000 := by
      have hm := List.getLast_mem (l := a :: l) (by simp)
      have hb := (hE.bd _ hm).2
      have key : ∀ (l : List Int) (hne : l ≠ []), l.Pairwise (· < ·) → ∀ x ∈ l, x ≤ l.getLast hne := by
        intro l
        induction l with
        | nil => intro h; exact absurd rfl h
        | cons y l ih =>
          intro _ hp x hx
          cases l with
          | nil => simp at hx; simp [hx]
          | cons z l =>
            rw [List.getLast_cons (by simp)]
            obtain ⟨g1, g2⟩ := List.pairwise_cons.1 hp
            rcases List.mem_cons.1 hx with rfl | hx
            · have := g1 _ (List.getLast_mem (l := z :: l) (by simp)); omega
            · exact ih (by simp) g2 x hx
      have := key (a :: l) (by simp) hE.srt _ hE.hi
      omega
    obtain ⟨h1, h2⟩ := range_inv S l a [] hst Nm.nil (fun x hx => by cases hx)
    refine nm_unique _ _ h1 hr fun n => ?_
    rw [h2, h, e1, e0]
    exact ⟨fun h3 => h3.elim (fun h3 => absurd h3 (in_nil n)) id, .inr⟩
end Sg
end Go.Proofs.YtlmmhhkhoaoheaaGreatDoor
