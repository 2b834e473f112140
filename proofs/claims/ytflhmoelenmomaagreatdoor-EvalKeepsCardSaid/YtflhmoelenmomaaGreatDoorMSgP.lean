/-
  Plain law of ranges: a list of gaps in normal form is told by what is in it; what joins gaps, what puts pieces together. No program in sight.
-/
import Derived.Test.YtflhmoelenmomaaGreatDoorRows
import Derived.Test.YtflhmoelenmomaaGreatDoorMRcP
import Derived.WalkKit
import Derived.WalkLawsBesides
import Derived.WalkSpells
import Derived.WalkSmall
import Derived.Lib.Hide
import Derived.Deep.QuietTactic
import Derived.BigQuiet
import Derived.RegionTactic
import Derived.OwnWalk
namespace Go.Proofs.YtflhmoelenmomaaGreatDoor
namespace Sg

abbrev G := Int × Int
def inR (r : List G) (n : Int) : Prop := ∃ g ∈ r, g.1 ≤ n ∧ n < g.2
theorem in_nil (n : Int) : ¬ inR [] n := fun ⟨_, h, _⟩ => by cases h
theorem in_cons (g : G) (r : List G) (n : Int) : inR (g :: r) n ↔ (g.1 ≤ n ∧ n < g.2) ∨ inR r n := by
  constructor
  · rintro ⟨x, hx, h⟩
    rcases List.mem_cons.1 hx with rfl | hx
    · exact .inl h
    · exact .inr ⟨x, hx, h⟩
  · rintro (h | ⟨x, hx, h⟩)
    · exact ⟨g, .head _, h⟩
    · exact ⟨x, .tail _ hx, h⟩
theorem in_app (a b : List G) (n : Int) : inR (a ++ b) n ↔ inR a n ∨ inR b n := by
  constructor
  · rintro ⟨x, hx, h⟩
    rcases List.mem_append.1 hx with hx | hx
    · exact .inl ⟨x, hx, h⟩
    · exact .inr ⟨x, hx, h⟩
  · rintro (⟨x, hx, h⟩ | ⟨x, hx, h⟩)
    · exact ⟨x, List.mem_append_left _ hx, h⟩
    · exact ⟨x, List.mem_append_right _ hx, h⟩
theorem in_one (g : G) (n : Int) : inR [g] n ↔ g.1 ≤ n ∧ n < g.2 := by
  rw [in_cons]
  exact ⟨fun h => h.elim id (fun h => absurd h (in_nil n)), .inl⟩
/-- rising, none empty, something between each two -/
structure Nm (r : List G) : Prop where
  pos : ∀ g ∈ r, g.1 < g.2
  sep : r.Pairwise fun g h => g.2 < h.1
theorem Nm.nil : Nm [] := ⟨fun _ h => (by cases h), List.Pairwise.nil⟩
theorem Nm.tail {g : G} {r : List G} (h : Nm (g :: r)) : Nm r := ⟨fun x hx => h.pos x (.tail _ hx), (List.pairwise_cons.1 h.sep).2⟩
theorem Nm.gap {g : G} {r : List G} (h : Nm (g :: r)) {n : Int} (hn : inR r n) : g.2 < n := by
  obtain ⟨x, hx, h1, _⟩ := hn
  have := (List.pairwise_cons.1 h.sep).1 x hx
  omega
/-- a normal list is told by what is in it -/
theorem nm_unique : ∀ (a b : List G), Nm a → Nm b → (∀ n, inR a n ↔ inR b n) → a = b
  | [], [], _, _, _ => rfl
  | [], g :: b, _, hb, h => by
    have hp := hb.pos g (.head _)
    exact absurd ((h g.1).2 ((in_cons g b g.1).2 (.inl ⟨Int.le_refl _, hp⟩))) (in_nil _)
  | g :: a, [], ha, _, h => by
    have hp := ha.pos g (.head _)
    exact absurd ((h g.1).1 ((in_cons g a g.1).2 (.inl ⟨Int.le_refl _, hp⟩))) (in_nil _)
  | g :: a, k :: b, ha, hb, h => by
    have pg := ha.pos g (.head _)
    have pk := hb.pos k (.head _)
    have low : ∀ {x : G} {r : List G}, Nm (x :: r) → ∀ n, inR (x :: r) n → x.1 ≤ n := fun {x r} hx n hn => by
      have px := hx.pos x (.head _)
      rcases (in_cons x r n).1 hn with h1 | h1
      · exact h1.1
      · have := hx.gap h1; omega
    have e1 : g.1 = k.1 := by
      have h1 := low hb g.1 ((h g.1).1 ((in_cons g a g.1).2 (.inl ⟨Int.le_refl _, pg⟩)))
      have h2 := low ha k.1 ((h k.1).2 ((in_cons k b k.1).2 (.inl ⟨Int.le_refl _, pk⟩)))
      omega
    have e2 : g.2 = k.2 := by
      have key : ∀ {x y : G} {r s : List G}, Nm (x :: r) → Nm (y :: s) → x.1 = y.1 → (∀ n, inR (x :: r) n → inR (y :: s) n) → x.2 ≤ y.2 := fun {x y r s} hx hy he hn => by
        by_cases hlt : y.2 < x.2
        · have py := hy.pos y (.head _)
          have h1 := hn y.2 ((in_cons x r y.2).2 (.inl ⟨by omega, hlt⟩))
          rcases (in_cons y s y.2).1 h1 with h1 | h1
          · omega
          · have := hy.gap h1; omega
        · omega
      have h1 := key ha hb e1 (fun n => (h n).1)
      have h2 := key hb ha e1.symm (fun n => (h n).2)
      omega
    have e : g = k := by
      obtain ⟨g1, g2⟩ := g
      obtain ⟨k1, k2⟩ := k
      simp only at e1 e2
      rw [e1, e2]
    subst e
    rw [nm_unique a b ha.tail hb.tail fun n => ?_]
    constructor
    · intro hn
      have h1 := (h n).1 ((in_cons g a n).2 (.inr hn))
      rcases (in_cons g b n).1 h1 with h1 | h1
      · have := ha.gap hn; omega
      · exact h1
    · intro hn
      have h1 := (h n).2 ((in_cons g b n).2 (.inr hn))
      rcases (in_cons g a n).1 h1 with h1 | h1
      · have := hb.gap hn; omega
      · exact h1
theorem Nm.snoc {a : List G} {g : G} (h : Nm a) (hg : g.1 < g.2) (hs : ∀ x ∈ a, x.2 < g.1) : Nm (a ++ [g]) := by
  refine ⟨fun x hx => ?_, ?_⟩
  · rcases List.mem_append.1 hx with hx | hx
    · exact h.pos x hx
    · rw [List.mem_singleton.1 hx]; exact hg
  · rw [List.pairwise_append]
    exact ⟨h.sep, List.pairwise_singleton _ _, fun x hx y hy => by rw [List.mem_singleton.1 hy]; exact hs x hx⟩
theorem Nm.init {a : List G} {g : G} (h : Nm (a ++ [g])) : Nm a ∧ g.1 < g.2 ∧ ∀ x ∈ a, x.2 < g.1 := by
  have h2 := List.pairwise_append.1 h.sep
  exact ⟨⟨fun x hx => h.pos x (List.mem_append_left _ hx), h2.1⟩, h.pos g (List.mem_append_right _ (.head _)), fun x hx => h2.2.2 x hx g (.head _)⟩
theorem snoc_cases {α : Type} (l : List α) : l = [] ∨ ∃ a x, l = a ++ [x] := by
  rcases l.eq_nil_or_concat with h | ⟨a, x, h⟩
  · exact .inl h
  · exact .inr ⟨a, x, by rw [h, List.concat_eq_append]⟩
/-- one gap more, behind those that begin no later -/
def stepJ (out : List G) (g : G) : List G :=
  if g.2 ≤ g.1 then out else match out.getLast? with
    | some l => if g.1 ≤ l.2 then out.dropLast ++ [(l.1, max l.2 g.2)] else out ++ [g]
    | none => [g]
def joinF (l : List G) : List G := l.foldl stepJ []
theorem step_inv {out : List G} {g : G} (h : Nm out) (hle : ∀ x ∈ out, x.1 ≤ g.1) : Nm (stepJ out g) ∧ (∀ n, inR (stepJ out g) n ↔ inR out n ∨ (g.1 ≤ n ∧ n < g.2)) ∧ ∀ x ∈ stepJ out g, x.1 ≤ g.1 := by
  unfold stepJ
  by_cases he : g.2 ≤ g.1
  · rw [if_pos he]
    exact ⟨h, fun n => ⟨.inl, fun h1 => h1.elim id (fun h1 => by omega)⟩, hle⟩
  rw [if_neg he]
  rcases snoc_cases out with rfl | ⟨a, l, rfl⟩
  · refine ⟨⟨fun x hx => by rw [List.mem_singleton.1 hx]; omega, List.pairwise_singleton _ _⟩, fun n => ?_, fun x hx => by rw [List.mem_singleton.1 hx]; exact Int.le_refl _⟩
    simp only [List.getLast?_nil]
    rw [in_one]
    exact ⟨.inr, fun h1 => h1.elim (fun h1 => absurd h1 (in_nil n)) id⟩
  · obtain ⟨ha, hl, hs⟩ := h.init
    have hll := hle l (List.mem_append_right _ (.head _))
    rw [List.getLast?_concat, List.dropLast_concat]
    dsimp only
    by_cases hm : g.1 ≤ l.2
    · rw [if_pos hm]
      refine ⟨ha.snoc (by simp only; omega) hs, fun n => ?_, fun x hx => ?_⟩
      · rw [in_app, in_app, in_one, in_one]
        simp only
        constructor
        · rintro (h1 | h1)
          · exact .inl (.inl h1)
          · by_cases h2 : n < l.2
            · exact .inl (.inr ⟨h1.1, h2⟩)
            · exact .inr ⟨by omega, by omega⟩
        · rintro ((h1 | h1) | h1)
          · exact .inl h1
          · exact .inr ⟨h1.1, by omega⟩
          · exact .inr ⟨by omega, by omega⟩
      · rcases List.mem_append.1 hx with hx | hx
        · exact hle x (List.mem_append_left _ hx)
        · rw [List.mem_singleton.1 hx]; exact hll
    · rw [if_neg hm]
      refine ⟨h.snoc (by omega) fun x hx => ?_, fun n => by rw [in_app, in_one], fun x hx => ?_⟩
      · rcases List.mem_append.1 hx with hx | hx
        · have := hs x hx; omega
        · rw [List.mem_singleton.1 hx]; omega
      · rcases List.mem_append.1 hx with hx | hx
        · exact hle x hx
        · rw [List.mem_singleton.1 hx]; exact Int.le_refl _
theorem fold_inv : ∀ (l out : List G), Nm out → l.Pairwise (fun g h => g.1 ≤ h.1) → (∀ x ∈ out, ∀ g ∈ l, x.1 ≤ g.1) → Nm (l.foldl stepJ out) ∧ ∀ n, inR (l.foldl stepJ out) n ↔ inR out n ∨ inR l n
  | [], out, h, _, _ => ⟨h, fun n => ⟨.inl, fun h1 => h1.elim id (fun h1 => absurd h1 (in_nil n))⟩⟩
  | g :: l, out, h, hs, hle => by
    obtain ⟨h1, h2, h3⟩ := step_inv h (fun x hx => hle x hx g (.head _))
    obtain ⟨hg, hs'⟩ := List.pairwise_cons.1 hs
    obtain ⟨h4, h5⟩ := fold_inv l (stepJ out g) h1 hs' (fun x hx k hk => by
      have := h3 x hx
      have := hg k hk
      omega)
    refine ⟨h4, fun n => ?_⟩
    rw [List.foldl_cons, h5, h2, in_cons]
    constructor
    · rintro ((h6 | h6) | h6)
      · exact .inl h6
      · exact .inr (.inl h6)
      · exact .inr (.inr h6)
    · rintro (h6 | (h6 | h6))
      · exact .inl (.inl h6)
      · exact .inl (.inr h6)
      · exact .inr h6
theorem join_nm {l : List G} (h : l.Pairwise fun g h => g.1 ≤ h.1) : Nm (joinF l) ∧ ∀ n, inR (joinF l) n ↔ inR l n := by
  obtain ⟨h1, h2⟩ := fold_inv l [] Nm.nil h (fun x hx => by cases hx)
  exact ⟨h1, fun n => (h2 n).trans ⟨fun h3 => h3.elim (fun h3 => absurd h3 (in_nil n)) id, .inr⟩⟩
/-- pieces between neighbouring ends put together -/
def stepR (out : List G) (a b : Int) (is : Bool) : List G :=
  if is = true then (match out.getLast? with
    | some l => if l.2 = a then out.dropLast ++ [(l.1, b)] else out ++ [(a, b)]
    | none => [(a, b)]) else out
def rangeF (S : Int → Bool) : List Int → List G → List G
  | a :: b :: r, out => rangeF S (b :: r) (stepR out a b (S a))
  | _, out => out
theorem stepR_inv {out : List G} {a b : Int} {is : Bool} (h : Nm out) (hle : ∀ x ∈ out, x.2 ≤ a) (hab : a < b) : Nm (stepR out a b is) ∧ (∀ n, inR (stepR out a b is) n ↔ inR out n ∨ (is = true ∧ a ≤ n ∧ n < b)) ∧ ∀ x ∈ stepR out a b is, x.2 ≤ b := by
  unfold stepR
  cases is with
  | false =>
    rw [if_neg (by decide)]
    exact ⟨h, fun n => ⟨.inl, fun h1 => h1.elim id (fun h1 => by cases h1.1)⟩, fun x hx => by have := hle x hx; omega⟩
  | true =>
    rw [if_pos rfl]
    rcases snoc_cases out with rfl | ⟨c, l, rfl⟩
    · refine ⟨⟨fun x hx => by rw [List.mem_singleton.1 hx]; exact hab, List.pairwise_singleton _ _⟩, fun n => ?_, fun x hx => by rw [List.mem_singleton.1 hx]; exact Int.le_refl _⟩
      simp only [List.getLast?_nil]
      rw [in_one]
      exact ⟨fun h1 => .inr ⟨trivial, h1⟩, fun h1 => h1.elim (fun h1 => absurd h1 (in_nil n)) (·.2)⟩
    · obtain ⟨hc, hl, hs⟩ := h.init
      have hll := hle l (List.mem_append_right _ (.head _))
      rw [List.getLast?_concat, List.dropLast_concat]
      dsimp only
      by_cases hm : l.2 = a
      · rw [if_pos hm]
        refine ⟨hc.snoc (by simp only; omega) hs, fun n => ?_, fun x hx => ?_⟩
        · rw [in_app, in_app, in_one, in_one]
          simp only
          constructor
          · rintro (h1 | h1)
            · exact .inl (.inl h1)
            · by_cases h2 : n < l.2
              · exact .inl (.inr ⟨h1.1, h2⟩)
              · exact .inr ⟨trivial, by omega, by omega⟩
          · rintro ((h1 | h1) | h1)
            · exact .inl h1
            · exact .inr ⟨h1.1, by omega⟩
            · exact .inr ⟨by omega, by omega⟩
        · rcases List.mem_append.1 hx with hx | hx
          · have := hle x (List.mem_append_left _ hx); omega
          · rw [List.mem_singleton.1 hx]; exact Int.le_refl _
      · rw [if_neg hm]
        refine ⟨h.snoc hab fun x hx => ?_, fun n => ?_, fun x hx => ?_⟩
        · rcases List.mem_append.1 hx with hx | hx
          · have := hs x hx; simp only; omega
          · rw [List.mem_singleton.1 hx]; simp only; omega
        · rw [in_app, in_one]
          simp only [true_and]
        · rcases List.mem_append.1 hx with hx | hx
          · have := hle x hx; omega
          · rw [List.mem_singleton.1 hx]; exact Int.le_refl _
/-- S is the same within each piece -/
def Still (S : Int → Bool) : List Int → Prop
  | a :: b :: r => (a < b ∧ ∀ n, a ≤ n → n < b → S n = S a) ∧ Still S (b :: r)
  | _ => True
theorem range_inv (S : Int → Bool) : ∀ (r : List Int) (a : Int) (out : List G), Still S (a :: r) → Nm out → (∀ x ∈ out, x.2 ≤ a) → Nm (rangeF S (a :: r) out) ∧ ∀ n, inR (rangeF S (a :: r) out) n ↔ inR out n ∨ (a ≤ n ∧ n < (a :: r).getLast (by simp) ∧ S n = true)
  | [], a, out, _, h, _ => ⟨h, fun n => ⟨.inl, fun h1 => h1.elim id (fun h1 => by have h2 := h1.2.1; simp at h2; omega)⟩⟩
  | b :: r, a, out, hS, h, hle => by
    obtain ⟨⟨hab, hst⟩, hS'⟩ := hS
    obtain ⟨h1, h2, h3⟩ := stepR_inv (is := S a) h hle hab
    obtain ⟨h4, h5⟩ := range_inv S r b _ hS' h1 h3
    have hlast : ∀ (r : List Int) (b : Int), Still S (b :: r) → b ≤ (b :: r).getLast (by simp) := by
      intro r
      induction r with
      | nil => intro b _; simp
      | cons c r ih =>
        intro b hb
        have := ih c hb.2
        have := hb.1.1
        rw [List.getLast_cons (by simp)]
        omega
    have hlb := hlast r b hS'
    refine ⟨h4, fun n => ?_⟩
    have e : (a :: b :: r).getLast (by simp) = (b :: r).getLast (by simp) := List.getLast_cons (by simp)
    rw [rangeF, h5, h2, e]
    constructor
    · rintro ((h6 | h6) | h6)
      · exact .inl h6
      · exact .inr ⟨h6.2.1, by omega, by rw [hst n h6.2.1 h6.2.2]; exact h6.1⟩
      · exact .inr ⟨by omega, h6.2⟩
    · rintro (h6 | h6)
      · exact .inl (.inl h6)
      · by_cases h7 : n < b
        · exact .inl (.inr ⟨by rw [← hst n h6.1 h7]; exact h6.2.2, h6.1, h7⟩)
        · exact .inr ⟨by omega, h6.2⟩
end Sg
end Go.Proofs.YtflhmoelenmomaaGreatDoor

/-
  Plain law of ranges: the ends of gaps; what is put together of pieces is the normal form. No program in sight.
-/
namespace Go.Proofs.YtflhmoelenmomaaGreatDoor
namespace Sg

/-- one more, at its place -/
def withF (l : List Int) (n : Int) : List Int := if n < 0 ∨ 1000000000 < n then l else l.filter (fun x => decide (x < n)) ++ (n :: l.filter (fun x => decide (n < x)))
def endsF (gs : List G) : List Int := gs.foldl (fun l g => withF (withF l g.1) g.2) [0, 1000000000]
/-- rising, from 0 to 10^9 -/
structure Es (l : List Int) : Prop where
  srt : l.Pairwise (· < ·)
  lo : (0 : Int) ∈ l
  hi : (1000000000 : Int) ∈ l
  bd : ∀ x ∈ l, 0 ≤ x ∧ x ≤ 1000000000
theorem Es.start : Es [0, 1000000000] := ⟨by simp, by simp, by simp, fun x hx => by simp at hx; omega⟩
theorem with_mem {l : List Int} {n m : Int} : m ∈ withF l n ↔ m ∈ l ∨ (m = n ∧ 0 ≤ n ∧ n ≤ 1000000000) := by
  unfold withF
  by_cases h : n < 0 ∨ 1000000000 < n
  · rw [if_pos h]
    exact ⟨.inl, fun h1 => h1.elim id (fun h1 => by omega)⟩
  · rw [if_neg h]
    simp only [List.mem_append, List.mem_cons, List.mem_filter, decide_eq_true_eq]
    constructor
    · rintro (h1 | h1 | h1)
      · exact .inl h1.1
      · exact .inr ⟨h1, by omega, by omega⟩
      · exact .inl h1.1
    · rintro (h1 | h1)
      · by_cases h2 : m < n
        · exact .inl ⟨h1, h2⟩
        · by_cases h3 : m = n
          · exact .inr (.inl h3)
          · exact .inr (.inr ⟨h1, by omega⟩)
      · exact .inr (.inl h1.1)
theorem Es.put {l : List Int} (h : Es l) (n : Int) : Es (withF l n) := by
  refine ⟨?_, with_mem.2 (.inl h.lo), with_mem.2 (.inl h.hi), fun x hx => ?_⟩
  · unfold withF
    split
    · exact h.srt
    · rw [List.pairwise_append]
      refine ⟨h.srt.filter _, ?_, fun x hx y hy => ?_⟩
      · rw [List.pairwise_cons]
        exact ⟨fun x hx => by simpa using (List.mem_filter.1 hx).2, h.srt.filter _⟩
      · have h1 : x < n := by simpa using (List.mem_filter.1 hx).2
        rcases List.mem_cons.1 hy with rfl | hy
        · exact h1
        · have h2 : n < y := by simpa using (List.mem_filter.1 hy).2
          omega
  · rcases with_mem.1 hx with hx | hx
    · exact h.bd x hx
    · omega
theorem ends_all : ∀ (gs : List G) (l : List Int), Es l → Es (gs.foldl (fun l g => withF (withF l g.1) g.2) l) ∧ (∀ m, m ∈ l → m ∈ gs.foldl (fun l g => withF (withF l g.1) g.2) l) ∧
    ∀ g ∈ gs, ∀ m, (m = g.1 ∨ m = g.2) → 0 ≤ m → m ≤ 1000000000 → m ∈ gs.foldl (fun l g => withF (withF l g.1) g.2) l
  | [], l, h => ⟨h, fun _ hm => hm, fun g hg => by cases hg⟩
  | g :: gs, l, h => by
    obtain ⟨h1, h2, h3⟩ := ends_all gs _ ((h.put g.1).put g.2)
    refine ⟨h1, fun m hm => h2 m (with_mem.2 (.inl (with_mem.2 (.inl hm)))), fun k hk m hm h4 h5 => ?_⟩
    rcases List.mem_cons.1 hk with rfl | hk
    · refine h2 m ?_
      rcases hm with hm | hm
      · exact with_mem.2 (.inl (with_mem.2 (.inr ⟨hm, by omega, by omega⟩)))
      · exact with_mem.2 (.inr ⟨hm, by omega, by omega⟩)
    · exact h3 k hk m hm h4 h5
theorem ends_es (gs : List G) : Es (endsF gs) := (ends_all gs _ Es.start).1
theorem ends_mem {gs : List G} {g : G} (h : g ∈ gs) {m : Int} (hm : m = g.1 ∨ m = g.2) (h0 : 0 ≤ m) (h1 : m ≤ 1000000000) : m ∈ endsF gs := (ends_all gs _ Es.start).2.2 g h m hm h0 h1
/-- what hangs on the gaps alone is the same within each piece -/
theorem still_of {S : Int → Bool} : ∀ (l : List Int), l.Pairwise (· < ·) → (∀ a b n, a ∈ l → b ∈ l → (∀ x ∈ l, x ≤ a ∨ b ≤ x) → a ≤ n → n < b → S n = S a) → Still S l
  | [], _, _ => trivial
  | [_], _, _ => trivial
  | a :: b :: r, hs, h => by
    obtain ⟨h1, h2⟩ := List.pairwise_cons.1 hs
    obtain ⟨h3, _⟩ := List.pairwise_cons.1 h2
    refine ⟨⟨h1 b (.head _), fun n hn hb => h a b n (.head _) (.tail _ (.head _)) (fun x hx => ?_) hn hb⟩, still_of (b :: r) h2 fun c d n hc hd hx => h c d n (.tail _ hc) (.tail _ hd) (fun x hx' => ?_)⟩
    · rcases List.mem_cons.1 hx with rfl | hx
      · exact .inl (Int.le_refl _)
      · rcases List.mem_cons.1 hx with rfl | hx
        · exact .inr (Int.le_refl _)
        · exact .inr (Int.le_of_lt (h3 x hx))
    · rcases List.mem_cons.1 hx' with rfl | hx'
      · exact .inl (Int.le_of_lt (h1 c hc))
      · exact hx x hx'
def inB (r : List G) (n : Int) : Bool := r.any fun g => decide (g.1 ≤ n) && decide (n < g.2)
theorem inB_iff (r : List G) (n : Int) : inB r n = true ↔ inR r n := by
  unfold inB inR
  rw [List.any_eq_true]
  constructor
  · rintro ⟨g, hg, h⟩
    simp at h
    exact ⟨g, hg, h⟩
  · rintro ⟨g, hg, h⟩
    exact ⟨g, hg, by simp; exact h⟩
/-- two numbers within one piece lie in the same gaps -/
theorem in_still {gs r : List G} (hr : ∀ g ∈ r, g ∈ gs) {a b n : Int} (ha : a ∈ endsF gs) (hb : b ∈ endsF gs) (h : ∀ x ∈ endsF gs, x ≤ a ∨ b ≤ x) (hn : a ≤ n) (hb' : n < b) : inB r n = inB r a := by
  have key : inR r n ↔ inR r a := by
    have b1 := (ends_es gs).bd a ha
    have b2 := (ends_es gs).bd b hb
    constructor
    · rintro ⟨g, hg, h1, h2⟩
      refine ⟨g, hg, ?_, by omega⟩
      by_cases h3 : g.1 ≤ a
      · exact h3
      · have := h g.1 (ends_mem (hr g hg) (.inl rfl) (by omega) (by omega))
        omega
    · rintro ⟨g, hg, h1, h2⟩
      refine ⟨g, hg, by omega, ?_⟩
      by_cases h3 : n < g.2
      · exact h3
      · have := h g.2 (ends_mem (hr g hg) (.inr rfl) (by omega) (by omega))
        omega
  cases h1 : inB r n <;> cases h2 : inB r a
  · rfl
  · rw [(inB_iff r n).2 (key.2 ((inB_iff r a).1 h2))] at h1; cases h1
  · rw [(inB_iff r a).2 (key.1 ((inB_iff r n).1 h1))] at h2; cases h2
  · rfl
/-- what is put together of the pieces is the normal form of what S says -/
theorem range_is {gs r : List G} {S : Int → Bool} (hst : Still S (endsF gs)) (hr : Nm r) (h : ∀ n, inR r n ↔ (0 ≤ n ∧ n < 1000000000 ∧ S n = true)) : rangeF S (endsF gs) [] = r := by
  have hE := ends_es gs
  cases hl : endsF gs with
  | nil => rw [hl] at hE; exact absurd hE.lo (by simp)
  | cons a l =>
    rw [hl] at hE hst
    obtain ⟨hp, hs⟩ := List.pairwise_cons.1 hE.srt
    have e0 : a = 0 := by
      rcases List.mem_cons.1 hE.lo with h1 | h1
      · exact h1.symm
      · have := hp 0 h1
        have := (hE.bd a (.head _)).1
        omega
    have e1 : (a :: l).getLast (by simp) = 1000000000 := by
      have hm := List.getLast_mem (l := a :: l) (by simp)
      have hb := (hE.bd _ hm).2
      have key : ∀ (l : List Int) (hne : l ≠ []), l.Pairwise (· < ·) → ∀ x ∈ l, x ≤ l.getLast hne := by
        intro l
        induction l with
        | nil => intro h; exact absurd rfl h
        | cons y l ih =>
          intro _ hp x hx
          cases l with
          | nil => simp at hx; simp [hx]
          | cons z l =>
            rw [List.getLast_cons (by simp)]
            obtain ⟨g1, g2⟩ := List.pairwise_cons.1 hp
            rcases List.mem_cons.1 hx with rfl | hx
            · have := g1 _ (List.getLast_mem (l := z :: l) (by simp)); omega
            · exact ih (by simp) g2 x hx
      have := key (a :: l) (by simp) hE.srt _ hE.hi
      omega
    obtain ⟨h1, h2⟩ := range_inv S l a [] hst Nm.nil (fun x hx => by cases hx)
    refine nm_unique _ _ h1 hr fun n => ?_
    rw [h2, h, e1, e0]
    exact ⟨fun h3 => h3.elim (fun h3 => absurd h3 (in_nil n)) id, .inr⟩
end Sg
end Go.Proofs.YtflhmoelenmomaaGreatDoor

/-
  Ranges in memory; Good of a range, of the program and of the reference.
-/
namespace Go.Proofs.YtflhmoelenmomaaGreatDoor
open Go.RowKit
namespace Sg

abbrev N64 (n : Int) : Prop := -9223372036854775808 ≤ n ∧ n ≤ 9223372036854775807
/-- a gap's two cells -/
structure Gc (W : World) (b o : Nat) (g : G) : Prop where
  lo : W.cell? ⟨b, o, none⟩ = some (.int .i64 g.1)
  hi : W.cell? ⟨b, o + 1, none⟩ = some (.int .i64 g.2)
/-- a slice of gaps -/
structure GS (W : World) (v : Value) (r : List G) : Prop where
  small : r.length ≤ 9223372036854775807
  nb : ∀ g ∈ r, N64 g.1 ∧ N64 g.2
  form : ∃ (sl : Option Addr) (cap : Nat), v = .slice sl r.length cap ∧ (sl = none → cap = 0) ∧ ∀ k g, r[k]? = some g → ∃ b o, sl = some ⟨b, o, none⟩ ∧ b < W.heap.size ∧ Gc W b (o + k * 2) g
theorem Gc.below {W W' : World} {b o : Nat} {g : G} (hb : b < W.heap.size) (h : Gc W b o g) (hB : Below W.heap.size W W') : Gc W' b o g := ⟨(hB.cell (p := ⟨b, o, none⟩) hb).trans h.lo, (hB.cell (p := ⟨b, o + 1, none⟩) hb).trans h.hi⟩
theorem GS.below {W W' : World} {v : Value} {r : List G} (h : GS W v r) (hB : Below W.heap.size W W') : GS W' v r := by
  obtain ⟨sl, cap, hv, hn, hf⟩ := h.form
  exact ⟨h.small, h.nb, sl, cap, hv, hn, fun k g hk => by
    obtain ⟨b, o, e, hb, h3⟩ := hf k g hk
    exact ⟨b, o, e, Nat.lt_of_lt_of_le hb hB.size, h3.below hb hB⟩⟩
theorem gs_nil (W : World) : GS W (.slice none 0 0) [] := ⟨by simp, fun g h => (by cases h), none, 0, rfl, fun _ => rfl, fun k g h => by simp at h⟩
theorem obj_two {W : World} {g : Nat} {u0 u1 : Value} {T : TypeId} (h : W.heap[g]? = some (.cells #[u0, u1] T (0, 0))) : W.cell? ⟨g, 0, none⟩ = some u0 ∧ W.cell? ⟨g, 1, none⟩ = some u1 ∧ W.frozen? ⟨g, 0, none⟩ = false ∧ W.frozen? ⟨g, 1, none⟩ = false :=
  ⟨by simp [World.cell?, h], by simp [World.cell?, h], by simp [World.frozen?, h], by simp [World.frozen?, h]⟩
/-- rising from behind last, none empty, none beyond 10^9 -/
def upB (last : Int) : List G → Bool
  | [] => true
  | g :: r => decide (last < g.1) && (decide (g.1 < g.2) && (decide (g.2 ≤ 1000000000) && upB g.2 r))
def goodB (r : List G) : Bool := decide (r.length ≤ 16) && upB (-1) r
theorem up_nm : ∀ (r : List G) (last : Int), upB last r = true → Nm r ∧ (∀ g ∈ r, last < g.1 ∧ g.1 < g.2 ∧ g.2 ≤ 1000000000)
  | [], _, _ => ⟨Nm.nil, fun g h => by cases h⟩
  | g :: r, last, h => by
    simp only [upB, Bool.and_eq_true, decide_eq_true_eq] at h
    obtain ⟨h1, h2, h3, h4⟩ := h
    obtain ⟨h5, h6⟩ := up_nm r g.2 h4
    refine ⟨⟨fun x hx => ?_, List.pairwise_cons.2 ⟨fun x hx => (h6 x hx).1, h5.sep⟩⟩, fun x hx => ?_⟩
    · rcases List.mem_cons.1 hx with rfl | hx
      · exact h2
      · exact (h6 x hx).2.1
    · rcases List.mem_cons.1 hx with rfl | hx
      · exact ⟨h1, h2, h3⟩
      · have := h6 x hx
        exact ⟨by omega, this.2⟩
theorem up_of : ∀ (r : List G) (last : Int), Nm r → (∀ g ∈ r, last < g.1 ∧ g.2 ≤ 1000000000) → upB last r = true
  | [], _, _, _ => rfl
  | g :: r, last, h, hb => by
    have h1 := hb g (.head _)
    have h2 := h.pos g (.head _)
    simp only [upB, Bool.and_eq_true, decide_eq_true_eq]
    exact ⟨h1.1, h2, h1.2, up_of r g.2 h.tail fun x hx => ⟨(List.pairwise_cons.1 h.sep).1 x hx, (hb x (.tail _ hx)).2⟩⟩
theorem good_nm {r : List G} (h : goodB r = true) : Nm r ∧ r.length ≤ 16 ∧ ∀ g ∈ r, 0 ≤ g.1 ∧ g.1 < g.2 ∧ g.2 ≤ 1000000000 := by
  simp only [goodB, Bool.and_eq_true, decide_eq_true_eq] at h
  obtain ⟨h1, h2⟩ := up_nm r (-1) h.2
  exact ⟨h1, h.1, fun g hg => by have := h2 g hg; omega⟩
theorem good_of {r : List G} (h : Nm r) (hl : r.length ≤ 16) (hb : ∀ g ∈ r, 0 ≤ g.1 ∧ g.2 ≤ 1000000000) : goodB r = true := by
  simp only [goodB, Bool.and_eq_true, decide_eq_true_eq]
  exact ⟨hl, up_of r (-1) h fun g hg => by have := hb g hg; omega⟩
/-- where a list goes on from its k-th -/
def lastOf (r : List G) : Nat → Int
  | 0 => -1
  | k + 1 => (r.getD k (0, 0)).2
theorem drop_g {r : List G} {k : Nat} {g : G} (h : r[k]? = some g) : r.drop k = g :: r.drop (k + 1) := by
  obtain ⟨h1, h2⟩ := List.getElem?_eq_some_iff.1 h
  rw [List.drop_eq_getElem_cons h1, h2]
theorem last_g {r : List G} {k : Nat} {g : G} (h : r[k]? = some g) : lastOf r (k + 1) = g.2 := by
  show (r.getD k (0, 0)).2 = _
  rw [List.getD_eq_getElem?_getD, h]
  rfl
end Sg
end Go.Proofs.YtflhmoelenmomaaGreatDoor

/-
  Walks: the reference's Good, In and Same of ranges.
-/
namespace Go.Proofs.YtflhmoelenmomaaGreatDoor
open Go.RowKit
namespace Sg

theorem up_step {r : List G} {k : Nat} {g : G} (h : r[k]? = some g) : upB (lastOf r k) (r.drop k) = (decide (lastOf r k < g.1) && (decide (g.1 < g.2) && (decide (g.2 ≤ 1000000000) && upB (lastOf r (k + 1)) (r.drop (k + 1))))) := by
  rw [drop_g h, upB, last_g h]
end Sg
end Go.Proofs.YtflhmoelenmomaaGreatDoor
