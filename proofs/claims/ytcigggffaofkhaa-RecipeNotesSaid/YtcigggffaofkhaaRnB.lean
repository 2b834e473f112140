/-
  Plain: tokens that are copied, with notes and blanks between them.
-/
import Derived.Test.YtcigggffaofkhaaRnA
namespace Go.Proofs.Ytcigggffaofkhaa
open Go.RowKit
namespace Rc

theorem strF_copy : ∀ (f : Nat) (l : List UInt8) (y : List UInt8) (n : Nat), strF f l = some (y, n) → ∀ (f' : Nat) (r : List UInt8), n ≤ f' → strF f' (l.take n ++ r) = some (y, n)
  | 0, l, y, n, h => by simp [strF] at h
  | f + 1, [], y, n, h => by simp [strF] at h
  | f + 1, c :: l, y, n, h => by
    intro f' r hn
    unfold strF at h
    by_cases h1 : c = 34
    · rw [if_pos h1] at h
      simp only [Option.some.injEq, Prod.mk.injEq] at h
      obtain ⟨rfl, rfl⟩ := h
      obtain ⟨g, rfl⟩ : ∃ g, f' = g + 1 := ⟨f' - 1, by omega⟩
      simp only [List.take_succ_cons, List.take_zero, List.cons_append, List.nil_append]
      unfold strF
      rw [if_pos h1]
    · rw [if_neg h1] at h
      by_cases h2 : c.toNat < 32 ∨ 126 < c.toNat
      · rw [if_pos h2] at h; cases h
      · rw [if_neg h2] at h
        by_cases h3 : c ≠ 92
        · rw [if_pos h3] at h
          obtain ⟨⟨y', k⟩, hy, he⟩ := Option.map_eq_some_iff.1 h
          simp only [Prod.mk.injEq] at he
          obtain ⟨rfl, rfl⟩ := he
          obtain ⟨g, rfl⟩ : ∃ g, f' = g + 1 := ⟨f' - 1, by omega⟩
          have ih := strF_copy f l y' k hy g r (by omega)
          simp only [List.take_succ_cons, List.cons_append]
          unfold strF
          rw [if_neg h1, if_neg h2, if_pos h3, ih]
          rfl
        · rw [if_neg h3] at h
          match l, h with
          | a :: b :: l', h =>
            simp only at h
            split at h
            · cases h
            · rename_i hx
              obtain ⟨⟨y', k⟩, hy, he⟩ := Option.map_eq_some_iff.1 h
              simp only [Prod.mk.injEq] at he
              obtain ⟨rfl, rfl⟩ := he
              obtain ⟨g, rfl⟩ : ∃ g, f' = g + 1 := ⟨f' - 1, by omega⟩
              have ih := strF_copy f l' y' k hy g r (by omega)
              simp only [List.take_succ_cons, List.cons_append]
              unfold strF
              rw [if_neg h1, if_neg h2, if_neg h3]
              simp only
              rw [if_neg hx, ih]
              rfl
          | [a], h => simp at h
          | [], h => simp at h
theorem wordN_copy (l : List UInt8) (c : UInt8) (r : List UInt8) (hc : letter c = false) : wordN (l.take (wordN l) ++ c :: r) = wordN l := by
  unfold wordN
  induction l with
  | nil => simp [hc]
  | cons a l ih =>
    cases ha : letter a with
    | true =>
      simp only [List.takeWhile_cons, ha, if_true, List.length_cons, List.take_succ_cons, List.cons_append, Nat.add_right_cancel_iff]
      exact ih
    | false => simp [ha, hc]
/-- the bytes of a token -/
def bodyT (s : List UInt8) (t : Tk) : List UInt8 := (s.drop t.pl).take (t.fin - t.pl)
theorem tokP_pl {s : List UInt8} {p : Nat} {t : Tk} (h : tokP s p = .ok t) : t.pl = p := by
  unfold tokP at h
  split at h
  · simp only [RT.ok.injEq] at h; subst h; rfl
  · split at h
    · split at h
      · simp only [RT.ok.injEq] at h; subst h; rfl
      · cases h
    · split at h
      · simp only [RT.ok.injEq] at h; subst h; rfl
      · split at h
        · cases h
        · simp only [RT.ok.injEq] at h; subst h; rfl
/-- a token stands as it does, wherever its bytes stand with a blank behind them -/
theorem tok_copy {s : List UInt8} {p : Nat} {t : Tk} (h : tokP s p = .ok t) (hk : t.kind ≠ 0) {out r : List UInt8} {q : Nat} {c : UInt8} (hc : letter c = false) (ho : out.drop q = bodyT s t ++ c :: r) :
    tokP out q = .ok ⟨t.kind, t.s, q, q + (bodyT s t).length⟩ ∧ ∃ c0 l0, bodyT s t = c0 :: l0 ∧ blank c0 = false := by
  have hpl := tokP_pl h
  unfold bodyT at ho ⊢
  rw [hpl] at ho ⊢
  clear hpl
  unfold tokP at h
  cases hd : s.drop p with
  | nil =>
    rw [hd] at h
    simp only [RT.ok.injEq] at h
    subst h
    exact absurd rfl hk
  | cons c0 l =>
    rw [hd] at h ho
    simp only at h
    by_cases h1 : c0 = 34
    · rw [if_pos h1] at h
      cases hx : strL l with
      | none => rw [hx] at h; cases h
      | some y =>
        obtain ⟨x, n⟩ := y
        rw [hx] at h
        simp only [RT.ok.injEq] at h
        subst h
        simp only at ho ⊢
        have hn : n ≤ l.length := strF_le _ _ _ _ hx
        have e1 : p + 1 + n - p = n + 1 := by omega
        rw [e1] at ho ⊢
        simp only [List.take_succ_cons, List.cons_append] at ho ⊢
        refine ⟨?_, c0, l.take n, rfl, by rw [h1]; decide⟩
        unfold tokP
        rw [ho]
        simp only
        rw [if_pos h1]
        have hs : strL (l.take n ++ c :: r) = some (x, n) := by
          refine strF_copy _ _ _ _ hx _ _ ?_
          simp only [List.length_append, List.length_take, List.length_cons]
          omega
        rw [hs]
        simp only [List.length_cons, List.length_take, RT.ok.injEq, Tk.mk.injEq, true_and]
        omega
    · rw [if_neg h1] at h
      by_cases h2 : sign c0 = true
      · rw [if_pos h2] at h
        simp only [RT.ok.injEq] at h
        subst h
        simp only at ho ⊢
        have e1 : p + 1 - p = 0 + 1 := by omega
        rw [e1] at ho ⊢
        simp only [List.take_succ_cons, List.take_zero, List.cons_append, List.nil_append] at ho ⊢
        refine ⟨?_, c0, [], rfl, ?_⟩
        · unfold tokP
          rw [ho]
          simp only
          rw [if_neg h1, if_pos h2]
          rfl
        · simp only [sign, Bool.or_eq_true, beq_iff_eq] at h2
          rcases h2 with ((rfl | rfl) | rfl) | rfl <;> decide
      · rw [if_neg h2] at h
        by_cases h3 : wordN (c0 :: l) = 0
        · rw [if_pos h3] at h; cases h
        · rw [if_neg h3] at h
          simp only [RT.ok.injEq] at h
          subst h
          simp only at ho ⊢
          rw [Nat.add_sub_cancel_left] at ho ⊢
          obtain ⟨m, hm⟩ : ∃ m, wordN (c0 :: l) = m + 1 := ⟨wordN (c0 :: l) - 1, by omega⟩
          have hw := wordN_copy (c0 :: l) c r hc
          have hlen : wordN (c0 :: l) ≤ (c0 :: l).length := by
            unfold wordN
            exact (List.takeWhile_sublist _).length_le
          have hl : letter c0 = true := by
            cases hlc : letter c0 with
            | true => rfl
            | false => exact absurd (show wordN (c0 :: l) = 0 by unfold wordN; simp [hlc]) h3
          rw [← ho] at hw
          rw [hm] at ho hlen hw ⊢
          simp only [List.take_succ_cons, List.cons_append] at ho ⊢
          refine ⟨?_, c0, l.take m, rfl, ?_⟩
          · unfold tokP
            rw [ho] at hw ⊢
            simp only
            rw [if_neg h1, if_neg h2, hw, if_neg (by omega)]
            simp only [List.length_cons, List.length_take, List.take_succ_cons, RT.ok.injEq, Tk.mk.injEq, true_and]
            simp only [List.length_cons] at hlen
            refine ⟨?_, by omega⟩
            rw [List.take_append_of_le_length (by simp; omega), List.take_take, Nat.min_self]
          · have hn : c0 ≠ 32 ∧ c0 ≠ 10 ∧ c0 ≠ 9 ∧ c0 ≠ 35 := by
              refine ⟨?_, ?_, ?_, ?_⟩ <;> (rintro rfl; revert hl; decide)
            simp [blank, hn.1, hn.2.1, hn.2.2.1, hn.2.2.2]
/-- what may stand between tokens -/
def Sep (x : List UInt8) : Prop := (∃ c l, x = c :: l ∧ letter c = false) ∧ ∀ l, skipL false (x ++ l) = x.length + skipL false l
theorem sep_sp : Sep [32] := ⟨⟨32, [], rfl, by decide⟩, fun l => by show skipL false (32 :: l) = _; rw [skipL]; simp [blank]; omega⟩
theorem sep_nl : Sep [10] := ⟨⟨10, [], rfl, by decide⟩, fun l => by show skipL false (10 :: l) = _; rw [skipL]; simp [blank]; omega⟩
theorem skip_true (c : UInt8) (l : List UInt8) (h : c ≠ 10) : skipL true (c :: l) = skipL true l + 1 := by
  rw [skipL]
  have h2 : (c != 10) = true := by simp [h]
  simp [h2]
theorem skip_nl (l : List UInt8) : skipL true (10 :: l) = skipL false l + 1 := by
  rw [skipL]
  simp
theorem skip_note (n l : List UInt8) (h : ∀ c ∈ n, c ≠ 10) : skipL true (n ++ 10 :: l) = n.length + 1 + skipL false l := by
  induction n with
  | nil => rw [List.nil_append, skip_nl]; simp; omega
  | cons c n ih =>
    rw [List.cons_append, skip_true _ _ (h c (by simp)), ih fun d hd => h d (by simp [hd])]
    simp only [List.length_cons]
    omega
theorem sep_in : Sep [9, 35, 32, 105, 110, 10] := by
  refine ⟨⟨9, _, rfl, by decide⟩, fun l => ?_⟩
  show skipL false (9 :: 35 :: ([32, 105, 110] ++ 10 :: l)) = _
  have h1 : skipL false (9 :: 35 :: ([32, 105, 110] ++ 10 :: l)) = skipL false (35 :: ([32, 105, 110] ++ 10 :: l)) + 1 := by rw [skipL]; simp [blank]
  have h2 : skipL false (35 :: ([32, 105, 110] ++ 10 :: l)) = skipL true ([32, 105, 110] ++ 10 :: l) + 1 := by rw [skipL]; simp [blank]
  rw [h1, h2, skip_note _ _ (by decide)]
  simp only [List.length_cons, List.length_nil]
  omega
theorem sep_note {n : List UInt8} (h : ∀ c ∈ n, c ≠ 10) : Sep ([32, 35] ++ n ++ [10, 32]) := by
  refine ⟨⟨32, _, rfl, by decide⟩, fun l => ?_⟩
  have e : [32, 35] ++ n ++ [10, 32] ++ l = 32 :: 35 :: (n ++ 10 :: 32 :: l) := by simp
  rw [e]
  have h1 : skipL false (32 :: 35 :: (n ++ 10 :: 32 :: l)) = skipL false (35 :: (n ++ 10 :: 32 :: l)) + 1 := by rw [skipL]; simp [blank]
  have h2 : skipL false (35 :: (n ++ 10 :: 32 :: l)) = skipL true (n ++ 10 :: 32 :: l) + 1 := by rw [skipL]; simp [blank]
  have h3 : skipL false (32 :: l) = skipL false l + 1 := by rw [skipL]; simp [blank]
  rw [h1, h2, skip_note _ _ h, h3]
  simp only [List.length_cons, List.length_nil, List.length_append]
  omega
theorem skip_stop {c : UInt8} {l : List UInt8} (h : blank c = false) : skipL false (c :: l) = 0 := by
  rw [skipL]
  simp [h]
/-- the tokens of a text from a place on, up to its end -/
inductive Chain (s : List UInt8) : Nat → List Tk → Nat → Prop
  | nil (a : Nat) : Chain s a [] a
  | cons (a : Nat) (t : Tk) (ts : List Tk) (e : Nat) (h : tokAt s a = .ok t) (hk : t.kind ≠ 0) (r : Chain s t.fin ts e) : Chain s a (t :: ts) e
theorem Chain.snoc {s : List UInt8} {a e : Nat} {ts : List Tk} (c : Chain s a ts e) {t : Tk} (h : tokAt s e = .ok t) (hk : t.kind ≠ 0) : Chain s a (ts ++ [t]) t.fin := by
  induction c with
  | nil a => exact .cons a t [] _ h hk (.nil _)
  | cons a u us e h' hk' r ih => exact .cons a u _ _ h' hk' (ih h)
theorem Chain.len {s : List UInt8} {a e : Nat} {ts : List Tk} (c : Chain s a ts e) : a + ts.length ≤ e := by
  induction c with
  | nil a => simp
  | cons a u us e h hk r ih =>
    have := (tok_prog h).2 hk
    simp only [List.length_cons]
    omega
/-- the text with something between its tokens -/
def spread (s : List UInt8) : List Tk → List (List UInt8) → List UInt8
  | t :: ts, x :: xs => bodyT s t ++ x ++ spread s ts xs
  | _, _ => []
theorem spread_snoc (s : List UInt8) : ∀ (ts : List Tk) (xs : List (List UInt8)) (t : Tk) (x : List UInt8), ts.length = xs.length → spread s (ts ++ [t]) (xs ++ [x]) = spread s ts xs ++ (bodyT s t ++ x)
  | [], [], t, x, _ => by simp [spread]
  | u :: ts, y :: xs, t, x, h => by
    simp only [List.cons_append, spread, spread_snoc s ts xs t x (by simpa using h), List.append_assoc]
  | [], y :: xs, t, x, h => by simp at h
  | u :: ts, [], t, x, h => by simp at h
theorem tokAt_pl {s : List UInt8} {a : Nat} {t : Tk} (h : tokAt s a = .ok t) : tokP s t.pl = .ok t := by
  have := tokP_pl (show tokP s _ = .ok t from h)
  rw [this]
  exact h
theorem tok_zero {s : List UInt8} {p : Nat} {t : Tk} (h : tokP s p = .ok t) (hk : t.kind = 0) : s.drop p = [] ∧ t = ⟨0, ⟨#[]⟩, p, p⟩ := by
  unfold tokP at h
  split at h
  · rename_i hd
    simp only [RT.ok.injEq] at h
    exact ⟨hd, h.symm⟩
  · split at h
    · split at h
      · simp only [RT.ok.injEq] at h; subst h; cases hk
      · cases h
    · split at h
      · simp only [RT.ok.injEq] at h; subst h; cases hk
      · split at h
        · cases h
        · simp only [RT.ok.injEq] at h; subst h; cases hk
theorem tokAt_end {s : List UInt8} {p : Nat} (h : s.drop p = []) : tokAt s p = .ok ⟨0, ⟨#[]⟩, p, p⟩ := by
  unfold tokAt
  rw [h]
  simp only [skipL, Nat.add_zero]
  unfold tokP
  rw [h]
theorem spread_rr {s out : List UInt8} : ∀ {a e : Nat} {ts : List Tk} (_ : Chain s a ts e) {te : Tk} (_ : tokAt s e = .ok te) (_ : te.kind = 0) (xs : List (List UInt8)) (_ : ts.length = xs.length) (_ : ∀ x ∈ xs, Sep x) (pre sep : List UInt8) (_ : Sep sep) (_ : out = pre ++ sep ++ spread s ts xs) (_ : a ≤ s.length),
    ∃ t t', tokAt s a = .ok t ∧ tokAt out pre.length = .ok t' ∧ R s out t t'
  | a, _, _, .nil _, te, he, hk, xs, hl, hx, pre, sep, hsep, ho, ha => by
    have hxs : xs = [] := by cases xs with
      | nil => rfl
      | cons x xs => simp at hl
    subst hxs
    simp only [spread, List.append_nil] at ho
    obtain ⟨h1, h2⟩ := tok_zero (show tokP s _ = .ok te from he) hk
    have hlen : s.drop te.fin = [] := by rw [h2]; exact h1
    have hd : out.drop pre.length = sep := by rw [ho, List.drop_append_of_le_length (Nat.le_refl _), List.drop_length, List.nil_append]
    have hsk : skipL false sep = sep.length := by
      have := hsep.2 []
      rw [List.append_nil] at this
      rw [this, skipL]
      omega
    have hq : out.drop (pre.length + sep.length) = [] := by rw [ho, List.drop_eq_nil_iff, List.length_append]; omega
    have h' : tokAt out pre.length = .ok ⟨0, ⟨#[]⟩, pre.length + sep.length, pre.length + sep.length⟩ := by
      unfold tokAt
      rw [hd, hsk]
      unfold tokP
      rw [hq]
    have hf : te.fin ≤ s.length := by
      have := skip_le (s.drop a) false
      rw [List.length_drop] at this
      rw [h2]
      show a + skipL false (List.drop a s) ≤ s.length
      omega
    refine ⟨te, _, he, h', .fin _ _ hk rfl (by rw [h2]) ?_ (tokAt_end hq) hf ?_⟩
    · have := tokAt_end hlen
      rw [this]
      rw [h2]
    · rw [ho, List.length_append]
      exact Nat.le_refl _
  | a, e, _, .cons _ t ts _ h hkt r, te, he, hk, xs, hl, hx, pre, sep, hsep, ho, ha => by
    match xs, hl, hx, ho with
    | [], hl, _, _ => simp at hl
    | x :: xs, hl, hx, ho =>
      obtain ⟨⟨c, l, hcl, hc⟩, hsx⟩ := hx x (by simp)
      have htP := tokAt_pl h
      simp only [spread] at ho
      have hq : out.drop (pre.length + sep.length) = bodyT s t ++ c :: (l ++ spread s ts xs) := by
        rw [ho, ← List.length_append, List.drop_append_of_le_length (Nat.le_refl _), List.drop_length, List.nil_append, hcl]
        simp
      obtain ⟨h1, c0, l0, hb, hbl⟩ := tok_copy htP hkt hc hq
      have hd : out.drop pre.length = sep ++ (bodyT s t ++ x ++ spread s ts xs) := by
        rw [ho, List.append_assoc, List.drop_append_of_le_length (Nat.le_refl _), List.drop_length, List.nil_append]
      have hsk : skipL false (out.drop pre.length) = sep.length := by
        rw [hd, hsep.2, hb]
        simp only [List.cons_append]
        rw [skip_stop hbl]
        rfl
      have h' : tokAt out pre.length = .ok ⟨t.kind, t.s, pre.length + sep.length, pre.length + sep.length + (bodyT s t).length⟩ := by
        unfold tokAt
        rw [hsk]
        exact h1
      have hfin : t.fin ≤ s.length := by
        have hz := tok_tv (s := ⟨s.toArray⟩) (p := a) (by show a ≤ s.toArray.size; simpa using ha) (by simpa using h)
        have hz2 : t.fin ≤ s.toArray.size := hz.fin
        simpa using hz2
      obtain ⟨u, u', k1, k2, k3⟩ := spread_rr (out := out) r he hk xs (by simpa using hl) (fun y hy => hx y (by simp [hy])) (pre ++ sep ++ bodyT s t) x (hx x (by simp)) (by rw [ho]; simp only [List.append_assoc]) hfin
      rw [show (pre ++ sep ++ bodyT s t).length = pre.length + sep.length + (bodyT s t).length by simp only [List.length_append]] at k2
      refine ⟨t, _, h, h', .step _ _ u u' rfl rfl k1 k2 hfin ?_ k3⟩
      show pre.length + sep.length + (bodyT s t).length ≤ out.length
      rw [ho]
      simp only [List.length_append]
      omega
end Rc
end Go.Proofs.Ytcigggffaofkhaa
