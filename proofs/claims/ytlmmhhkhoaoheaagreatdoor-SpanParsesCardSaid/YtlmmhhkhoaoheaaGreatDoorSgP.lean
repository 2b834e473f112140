/-
  Plain law of ranges: a list of gaps in normal form is told by what is in it; what joins gaps, what puts pieces together. No program in sight.
-/
import Derived.Test.YtlmmhhkhoaoheaaGreatDoorRows
namespace Go.Proofs.YtlmmhhkhoaoheaaGreatDoor
namespace Sg

abbrev G := Int × Int
def inR (r : List G) (n : Int) : Prop := ∃ g ∈ r, g.1 ≤ n ∧ n < g.2
theorem in_nil (n : Int) : ¬ inR [] n := fun ⟨_, h, _⟩ => by cases h
theorem in_cons (g : G) (r : List G) (n : Int) : inR (g :: r) n ↔ (g.1 ≤ n ∧ n < g.2) ∨ inR r n := by
  constructor
  · rintro ⟨x, hx, h⟩
    rcases List.mem_cons.1 hx with rfl | hx
    · exact .inl h
    · exact .inr ⟨x, hx, h⟩
  · rintro (h | ⟨x, hx, h⟩)
    · exact ⟨g, .head _, h⟩
    · exact ⟨x, .tail _ hx, h⟩
theorem in_app (a b : List G) (n : Int) : inR (a ++ b) n ↔ inR a n ∨ inR b n := by
  constructor
  · rintro ⟨x, hx, h⟩
    rcases List.mem_append.1 hx with hx | hx
    · exact .inl ⟨x, hx, h⟩
    · exact .inr ⟨x, hx, h⟩
  · rintro (⟨x, hx, h⟩ | ⟨x, hx, h⟩)
    · exact ⟨x, List.mem_append_left _ hx, h⟩
    · exact ⟨x, List.mem_append_right _ hx, h⟩
theorem in_one (g : G) (n : Int) : inR [g] n ↔ g.1 ≤ n ∧ n < g.2 := by
  rw [in_cons]
  exact ⟨fun h => h.elim id (fun h => absurd h (in_nil n)), .inl⟩
/-- rising, none empty, something between each two -/
structure Nm (r : List G) : Prop where
  pos : ∀ g ∈ r, g.1 < g.2
  sep : r.Pairwise fun g h => g.2 < h.1
theorem Nm.nil : Nm [] := ⟨fun _ h => (by cases h), List.Pairwise.nil⟩
theorem Nm.tail {g : G} {r : List G} (h : Nm (g :: r)) : Nm r := ⟨fun x hx => h.pos x (.tail _ hx), (List.pairwise_cons.1 h.sep).2⟩
theorem Nm.gap {g : G} {r : List G} (h : Nm (g :: r)) {n : Int} (hn : inR r n) : g.2 < n := by
  obtain ⟨x, hx, h1, _⟩ := hn
  have := (List.pairwise_cons.1 h.sep).1 x hx
  omega
/-- a normal list is told by what is in it -/
theorem nm_unique : ∀ (a b : List G), Nm a → Nm b → (∀ n, inR a n ↔ inR b n) → a = b
  | [], [], _, _, _ => rfl
  | [], g :: b, _, hb, h => by
    have hp := hb.pos g (.head _)
    exact absurd ((h g.1).2 ((in_cons g b g.1).2 (.inl ⟨Int.le_refl _, hp⟩))) (in_nil _)
  | g :: a, [], ha, _, h => by
    have hp := ha.pos g (.head _)
    exact absurd ((h g.1).1 ((in_cons g a g.1).2 (.inl ⟨Int.le_refl _, hp⟩))) (in_nil _)
  | g :: a, k :: b, ha, hb, h => by
    have pg := ha.pos g (.head _)
    have pk := hb.pos k (.head _)
    have low : ∀ {x : G} {r : List G}, Nm (x :: r) → ∀ n, inR (x :: r) n → x.1 ≤ n := fun {x r} hx n hn => by
      have px := hx.pos x (.head _)
      rcases (in_cons x r n).1 hn with h1 | h1
      · exact h1.1
      · have := hx.gap h1; omega
    have e1 : g.1 = k.1 := by
      have h1 := low hb g.1 ((h g.1).1 ((in_cons g a g.1).2 (.inl ⟨Int.le_refl _, pg⟩)))
      have h2 := low ha k.1 ((h k.1).2 ((in_cons k b k.1).2 (.inl ⟨Int.le_refl _, pk⟩)))
      omega
    have e2 : g.2 = k.2 := by
      have key : ∀ {x y : G} {r s : List G}, Nm (x :: r) → Nm (y :: s) → x.1 = y.1 → (∀ n, inR (x :: r) n → inR (y :: s) n) → x.2 ≤ y.2 := fun {x y r s} hx hy he hn => by
        by_cases hlt : y.2 < x.2
        · have py := hy.pos y (.head _)
          have h1 := hn y.2 ((in_cons x r y.2).2 (.inl ⟨by omega, hlt⟩))
          rcases (in_cons y s y.2).1 h1 with h1 | h1
          · omega
          · have := hy.gap h1; omega
        · omega
      have h1 := key ha hb e1 (fun n => (h n).1)
      have h2 := key hb ha e1.symm (fun n => (h n).2)
      omega
    have e : g = k := by
      obtain ⟨g1, g2⟩ := g
      obtain ⟨k1, k2⟩ := k
      simp only at e1 e2
      rw [e1, e2]
    subst e
    rw [nm_unique a b ha.tail hb.tail fun n => ?_]
    constructor
    · intro hn
      have h1 := (h n).1 ((in_cons g a n).2 (.inr hn))
      rcases (in_cons g b n).1 h1 with h1 | h1
      · have := ha.gap hn; omega
      · exact h1
    · intro hn
      have h1 := (h n).2 ((in_cons g b n).2 (.inr hn))
      rcases (in_cons g a n).1 h1 with h1 | h1
      · have := hb.gap hn; omega
      · exact h1
theorem Nm.snoc {a : List G} {g : G} (h : Nm a) (hg : g.1 < g.2) (hs : ∀ x ∈ a, x.2 < g.1) : Nm (a ++ [g]) := by
  refine ⟨fun x hx => ?_, ?_⟩
  · rcases List.mem_append.1 hx with hx | hx
    · exact h.pos x hx
    · rw [List.mem_singleton.1 hx]; exact hg
  · rw [List.pairwise_append]
    exact ⟨h.sep, List.pairwise_singleton _ _, fun x hx y hy => by rw [List.mem_singleton.1 hy]; exact hs x hx⟩
theorem Nm.init {a : List G} {g : G} (h : Nm (a ++ [g])) : Nm a ∧ g.1 < g.2 ∧ ∀ x ∈ a, x.2 < g.1 := by
  have h2 := List.pairwise_append.1 h.sep
  exact ⟨⟨fun x hx => h.pos x (List.mem_append_left _ hx), h2.1⟩, h.pos g (List.mem_append_right _ (.head _)), fun x hx => h2.2.2 x hx g (.head _)⟩
theorem snoc_cases {α : Type} (l : List α) : l = [] ∨ ∃ a x, l = a ++ [x] := by
  rcases l.eq_nil_or_concat with h | ⟨a, x, h⟩
  · exact .inl h
  · exact .inr ⟨a, x, by rw [h, List.concat_eq_append]⟩
/-- one gap more, behind those that begin no later -/
def stepJ (out : List G) (g : G) : List G :=
  if g.2 ≤ g.1 then out else match out.getLast? with
    | some l => if g.1 ≤ l.2 then out.dropLast ++ [(l.1, max l.2 g.2)] else out ++ [g]
    | none => [g]
def joinF (l : List G) : List G := l.foldl stepJ []
theorem step_inv {out : List G} {g : G} (h : Nm out) (hle : ∀ x ∈ out, x.1 ≤ g.1) : Nm (stepJ out g) ∧ (∀ n, inR (stepJ out g) n ↔ inR out n ∨ (g.1 ≤ n ∧ n < g.2)) ∧ ∀ x ∈ stepJ out g, x.1 ≤ g.1 := by
  unfold stepJ
  by_cases he : g.2 ≤ g.1
  · rw [if_pos he]
    exact ⟨h, fun n => ⟨.inl, fun h1 => h1.elim id (fun h1 => by omega)⟩, hle⟩
  rw [if_neg he]
  rcases snoc_cases out with rfl | ⟨a, l, rfl⟩
  · refine ⟨⟨fun x hx => by rw [List.mem_singleton.1 hx]; omega, List.pairwise_singleton _ _⟩, fun n => ?_, fun x hx => by rw [List.mem_singleton.1 hx]; exact Int.le_refl _⟩
    simp only [List.getLast?_nil]
    rw [in_one]
    exact ⟨.inr, fun h1 => h1.elim (fun h1 => absurd h1 (in_nil n)) id⟩
  · obtain ⟨ha, hl, hs⟩ := h.init
    have hll := hle l (List.mem_append_right _ (.head _))
    rw [List.getLast?_concat, List.dropLast_concat]
    dsimp only
    by_cases hm : g.1 ≤ l.2
    · rw [if_pos hm]
      refine ⟨ha.snoc (by simp only; omega) hs, fun n => ?_, fun x hx => ?_⟩
      · rw [in_app, in_app, in_one, in_one]
        simp only
        constructor
        · rintro (h1 | h1)
          · exact .inl (.inl h1)
          · by_cases h2 : n < l.2
            · exact .inl (.inr ⟨h1.1, h2⟩)
            · exact .inr ⟨by omega, by omega⟩
        · rintro ((h1 | h1) | h1)
          · exact .inl h1
          · exact .inr ⟨h1.1, by omega⟩
          · exact .inr ⟨by omega, by omega⟩
      · rcases List.mem_append.1 hx with hx | hx
        · exact hle x (List.mem_append_left _ hx)
        · rw [List.mem_singleton.1 hx]; exact hll
    · rw [if_neg hm]
      refine ⟨h.snoc (by omega) fun x hx => ?_, fun n => by rw [in_app, in_one], fun x hx => ?_⟩
      · rcases List.mem_append.1 hx with hx | hx
        · have := hs x hx; omega
        · rw [List.mem_singleton.1 hx]; omega
      · rcases List.mem_append.1 hx with hx | hx
        · exact hle x hx
        · rw [List.mem_singleton.1 hx]; exact Int.le_refl _
theorem fold_inv : ∀ (l out : List G), Nm out → l.Pairwise (fun g h => g.1 ≤ h.1) → (∀ x ∈ out, ∀ g ∈ l, x.1 ≤ g.1) → Nm (l.foldl stepJ out) ∧ ∀ n, inR (l.foldl stepJ out) n ↔ inR out n ∨ inR l n
  | [], out, h, _, _ => ⟨h, fun n => ⟨.inl, fun h1 => h1.elim id (fun h1 => absurd h1 (in_nil n))⟩⟩
  | g :: l, out, h, hs, hle => by
    obtain ⟨h1, h2, h3⟩ := step_inv h (fun x hx => hle x hx g (.head _))
    obtain ⟨hg, hs'⟩ := List.pairwise_cons.1 hs
    obtain ⟨h4, h5⟩ := fold_inv l (stepJ out g) h1 hs' (fun x hx k hk => by
      have := h3 x hx
      have := hg k hk
      omega)
    refine ⟨h4, fun n => ?_⟩
    rw [List.foldl_cons, h5, h2, in_cons]
    constructor
    · rintro ((h6 | h6) | h6)
      · exact .inl h6
      · exact .inr (.inl h6)
      · exact .inr (.inr h6)
    · rintro (h6 | (h6 | h6))
      · exact .inl (.inl h6)
      · exact .inl (.inr h6)
      · exact .inr h6
theorem join_nm {l : List G} (h : l.Pairwise fun g h => g.1 ≤ h.1) : Nm (joinF l) ∧ ∀ n, inR (joinF l) n ↔ inR l n := by
  obtain ⟨h1, h2⟩ := fold_inv l [] Nm.nil h (fun x hx => by cases hx)
  exact ⟨h1, fun n => (h2 n).trans ⟨fun h3 => h3.elim (fun h3 => absurd h3 (in_nil n)) id, .inr⟩⟩
/-- pieces between neighbouring ends put together -/
def stepR (out : List G) (a b : Int) (is : Bool) : List G :=
  if is = true then (match out.getLast? with
    | some l => if l.2 = a then out.dropLast ++ [(l.1, b)] else out ++ [(a, b)]
    | none => [(a, b)]) else out
def rangeF (S : Int → Bool) : List Int → List G → List G
  | a :: b :: r, out => rangeF S (b :: r) (stepR out a b (S a))
  | _, out => out
theorem stepR_inv {out : List G} {a b : Int} {is : Bool} (h : Nm out) (hle : ∀ x ∈ out, x.2 ≤ a) (hab : a < b) : Nm (stepR out a b is) ∧ (∀ n, inR (stepR out a b is) n ↔ inR out n ∨ (is = true ∧ a ≤ n ∧ n < b)) ∧ ∀ x ∈ stepR out a b is, x.2 ≤ b := by
  unfold stepR
  cases is with
  | false =>
    rw [if_neg (by decide)]
    exact ⟨h, fun n => ⟨.inl, fun h1 => h1.elim id (fun h1 => by cases h1.1)⟩, fun x hx => by have := hle x hx; omega⟩
  | true =>
    rw [if_pos rfl]
    rcases snoc_cases out with rfl | ⟨c, l, rfl⟩
    · refine ⟨⟨fun x hx => by rw [List.mem_singleton.1 hx]; exact hab, List.pairwise_singleton _ _⟩, fun n => ?_, fun x hx => by rw [List.mem_singleton.1 hx]; exact Int.le_refl _⟩
      simp only [List.getLast?_nil]
      rw [in_one]
      exact ⟨fun h1 => .inr ⟨trivial, h1⟩, fun h1 => h1.elim (fun h1 => absurd h1 (in_nil n)) (·.2)⟩
    · obtain ⟨hc, hl, hs⟩ := h.init
      have hll := hle l (List.mem_append_right _ (.head _))
      rw [List.getLast?_concat, List.dropLast_concat]
      dsimp only
      by_cases hm : l.2 = a
      · rw [if_pos hm]
        refine ⟨hc.snoc (by simp only; omega) hs, fun n => ?_, fun x hx => ?_⟩
        · rw [in_app, in_app, in_one, in_one]
          simp only
          constructor
          · rintro (h1 | h1)
            · exact .inl (.inl h1)
            · by_cases h2 : n < l.2
              · exact .inl (.inr ⟨h1.1, h2⟩)
              · exact .inr ⟨trivial, by omega, by omega⟩
          · rintro ((h1 | h1) | h1)
            · exact .inl h1
            · exact .inr ⟨h1.1, by omega⟩
            · exact .inr ⟨by omega, by omega⟩
        · rcases List.mem_append.1 hx with hx | hx
          · have := hle x (List.mem_append_left _ hx); omega
          · rw [List.mem_singleton.1 hx]; exact Int.le_refl _
      · rw [if_neg hm]
        refine ⟨h.snoc hab fun x hx => ?_, fun n => ?_, fun x hx => ?_⟩
        · rcases List.mem_append.1 hx with hx | hx
          · have := hs x hx; simp only; omega
          · rw [List.mem_singleton.1 hx]; simp only; omega
        · rw [in_app, in_one]
          simp only [true_and]
        · rcases List.mem_append.1 hx with hx | hx
          · have := hle x hx; omega
          · rw [List.mem_singleton.1 hx]; exact Int.le_refl _
/-- S is the same within each piece -/
def Still (S : Int → Bool) : List Int → Prop
  | a :: b :: r => (a < b ∧ ∀ n, a ≤ n → n < b → S n = S a) ∧ Still S (b :: r)
  | _ => True
theorem range_inv (S : Int → Bool) : ∀ (r : List Int) (a : Int) (out : List G), Still S (a :: r) → Nm out → (∀ x ∈ out, x.2 ≤ a) → Nm (rangeF S (a :: r) out) ∧ ∀ n, inR (rangeF S (a :: r) out) n ↔ inR out n ∨ (a ≤ n ∧ n < (a :: r).getLast (by simp) ∧ S n = true)
  | [], a, out, _, h, _ => ⟨h, fun n => ⟨.inl, fun h1 => h1.elim id (fun h1 => by have h2 := h1.2.1; simp at h2; omega)⟩⟩
  | b :: r, a, out, hS, h, hle => by
    obtain ⟨⟨hab, hst⟩, hS'⟩ := hS
    obtain ⟨h1, h2, h3⟩ := stepR_inv (is := S a) h hle hab
    obtain ⟨h4, h5⟩ := range_inv S r b _ hS' h1 h3
    have hlast : ∀ (r : List Int) (b : Int), Still S (b :: r) → b ≤ (b :: r).getLast (by simp) := by
      intro r
      induction r with
      | nil => intro b _; simp
      | cons c r ih =>
        intro b hb
        have := ih c hb.2
        have := hb.1.1
        rw [List.getLast_cons (by simp)]
        omega
    have hlb := hlast r b hS'
    refine ⟨h4, fun n => ?_⟩
    have e : (a :: b :: r).getLast (by simp) = (b :: r).getLast (by simp) := List.getLast_cons (by simp)
    rw [rangeF, h5, h2, e]
    constructor
    · rintro ((h6 | h6) | h6)
      · exact .inl h6
      · exact .inr ⟨h6.2.1, by omega, by rw [hst n h6.2.1 h6.2.2]; exact h6.1⟩
      · exact .inr ⟨by omega, h6.2⟩
    · rintro (h6 | h6)
      · exact .inl (.inl h6)
      · by_cases h7 : n < b
        · exact .inl (.inr ⟨by rw [← hst n h6.1 h7]; exact h6.2.2, h6.1, h7⟩)
        · exact .inr ⟨by omega, h6.2⟩
end Sg
end Go.Proofs.YtlmmhhkhoaoheaaGreatDoor
