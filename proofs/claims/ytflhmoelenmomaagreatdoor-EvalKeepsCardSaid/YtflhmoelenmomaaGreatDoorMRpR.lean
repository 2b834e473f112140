/-
  Plain: what is printed is read as it is.
-/
import Derived.Test.YtflhmoelenmomaaGreatDoorMRcQ
namespace Go.Proofs.YtflhmoelenmomaaGreatDoor
open Go.RowKit
namespace Rc

/-! tokens at a place -/
def okSp (l : List UInt8) : Prop := ∀ c ∈ l, c = 32 ∨ c = 10
def sepr (r : List UInt8) : Prop := ∀ c l, r = c :: l → letter c = false
theorem okSp_nil : okSp [] := fun c h => by simp at h
theorem okSp_sp : okSp [32] := fun c h => by simp at h; exact .inl h
theorem okSp_nl : okSp [10] := fun c h => by simp at h; exact .inr h
theorem sepr_nil : sepr [] := fun c l h => by simp at h
theorem sepr_cons {c : UInt8} {l : List UInt8} (h : letter c = false) : sepr (c :: l) := fun d m e => by cases e; exact h
theorem skip_sp : ∀ (sp l : List UInt8), okSp sp → skipL false (sp ++ l) = sp.length + skipL false l
  | [], l, _ => by simp
  | c :: sp, l, h => by
    have ih := skip_sp sp l fun d hd => h d (List.mem_cons_of_mem _ hd)
    have hc : blank c = true ∧ (c == 35 || (false && c != 10)) = false := by
      rcases h c (List.mem_cons_self ..) with rfl | rfl <;> decide
    rw [List.cons_append, skipL, if_pos (by simp [hc.1]), hc.2, ih, List.length_cons]
    omega
theorem skip_no {l : List UInt8} (h : ∀ c m, l = c :: m → blank c = false) : skipL false l = 0 := by
  cases l with
  | nil => rfl
  | cons c m => rw [skipL, if_neg (by simp [h c m rfl])]
theorem drop_app {s a l : List UInt8} {p : Nat} (h : s.drop p = a ++ l) : s.drop (p + a.length) = l := by
  rw [← List.drop_drop, h, List.drop_left]
theorem tokp_at {s sp l : List UInt8} {p : Nat} (hsp : okSp sp) (h : s.drop p = sp ++ l) (hl : ∀ c m, l = c :: m → blank c = false) : tokAt s p = tokP s (p + sp.length) ∧ s.drop (p + sp.length) = l := by
  refine ⟨?_, drop_app h⟩
  unfold tokAt
  rw [h, skip_sp _ _ hsp, skip_no hl, Nat.add_zero]
theorem letter_blank {c : UInt8} (h : letter c = true) : blank c = false ∧ c ≠ 34 ∧ sign c = false := by
  have key : ∀ n : Fin 256, letter (UInt8.ofNat n.1) = true → blank (UInt8.ofNat n.1) = false ∧ UInt8.ofNat n.1 ≠ 34 ∧ sign (UInt8.ofNat n.1) = false := by decide +kernel
  have := key ⟨c.toNat, c.toNat_lt⟩
  simpa using this (by simpa using h)
theorem takeW {w r : List UInt8} (hw : w.all letter = true) (hr : sepr r) : (w ++ r).takeWhile letter = w := by
  induction w with
  | nil =>
    cases r with
    | nil => rfl
    | cons c r => rw [List.nil_append, List.takeWhile_cons_of_neg (by rw [hr c r rfl]; decide)]
  | cons c w ih =>
    rw [List.all_cons, Bool.and_eq_true] at hw
    rw [List.cons_append, List.takeWhile_cons_of_pos hw.1, ih hw.2]
theorem tokp_word {s sp w r : List UInt8} {p : Nat} (hsp : okSp sp) (h : s.drop p = sp ++ (w ++ r)) (h0 : w ≠ []) (hw : w.all letter = true) (hr : sepr r) : tokAt s p = .ok ⟨1, ⟨w.toArray⟩, p + sp.length, p + sp.length + w.length⟩ := by
  obtain ⟨c, w', rfl⟩ : ∃ c w', w = c :: w' := by cases w with | nil => exact absurd rfl h0 | cons c w' => exact ⟨c, w', rfl⟩
  have hc : letter c = true := by rw [List.all_cons, Bool.and_eq_true] at hw; exact hw.1
  obtain ⟨b1, b2, b3⟩ := letter_blank hc
  obtain ⟨e1, e2⟩ := tokp_at hsp h (fun d m e => by cases e; exact b1)
  have hn : wordN (c :: (w' ++ r)) = (c :: w').length := by
    unfold wordN
    have := takeW hw hr
    rw [List.cons_append] at this
    rw [this]
  rw [e1, tokP, e2]
  simp only [List.cons_append]
  rw [if_neg b2, if_neg (by rw [b3]; decide), hn, if_neg (by simp)]
  simp
theorem tokp_sign {s sp r : List UInt8} {c : UInt8} {p : Nat} (hsp : okSp sp) (h : s.drop p = sp ++ (c :: r)) (hc : sign c = true) : tokAt s p = .ok ⟨2, ⟨#[c]⟩, p + sp.length, p + sp.length + 1⟩ := by
  have key : ∀ n : Fin 256, sign (UInt8.ofNat n.1) = true → blank (UInt8.ofNat n.1) = false ∧ UInt8.ofNat n.1 ≠ 34 := by decide +kernel
  obtain ⟨b1, b2⟩ : blank c = false ∧ c ≠ 34 := by
    have := key ⟨c.toNat, c.toNat_lt⟩
    simpa using this (by simpa using hc)
  obtain ⟨e1, e2⟩ := tokp_at hsp h (fun d m e => by cases e; exact b1)
  rw [e1, tokP, e2]
  simp only
  rw [if_neg b2, if_pos hc]
theorem hexv_dig : ∀ n : Fin 16, hexv (hexDig n.1) = n.1 := by decide +kernel
theorem esc_read : ∀ (x : List UInt8) (r : List UInt8) (f : Nat), (x.flatMap escB).length < f → strF f (x.flatMap escB ++ 34 :: r) = some (x, (x.flatMap escB).length + 1)
  | [], r, f, h => by
    cases f with
    | zero => omega
    | succ f => simp [strF]
  | c :: x, r, f, h => by
    cases f with
    | zero => omega
    | succ f =>
      rw [List.flatMap_cons, List.length_append] at h
      by_cases g : c.toNat < 32 ∨ 126 < c.toNat ∨ c = 34 ∨ c = 92
      · have he : escB c = [92, hexDig (c.toNat / 16), hexDig (c.toNat % 16)] := by unfold escB; rw [if_pos g]
        have hlt := c.toNat_lt
        have h1 := hexv_dig ⟨c.toNat / 16, by omega⟩
        have h2 := hexv_dig ⟨c.toNat % 16, by omega⟩
        simp only at h1 h2
        rw [he] at h
        simp only [List.length_cons, List.length_nil] at h
        have ih := esc_read x r f (by omega)
        rw [List.flatMap_cons, he]
        simp only [List.cons_append, List.nil_append, strF]
        rw [if_neg (by decide), if_neg (by decide), if_neg (by decide), h1, h2, if_neg (by omega), ih]
        simp only [Option.map_some, List.length_cons]
        rw [show UInt8.ofNat (16 * (c.toNat / 16) + c.toNat % 16) = c by rw [Nat.div_add_mod]; simp]
      · have he : escB c = [c] := by unfold escB; rw [if_neg g]
        rw [he] at h
        simp only [List.length_cons, List.length_nil] at h
        have ih := esc_read x r f (by omega)
        rw [List.flatMap_cons, he]
        simp only [List.cons_append, List.nil_append, strF]
        rw [if_neg (fun e => g (.inr (.inr (.inl e)))), if_neg (fun e => g (e.elim .inl (fun e => .inr (.inl e)))), if_pos (fun e => g (.inr (.inr (.inr e)))), ih]
        simp
theorem tokp_text {s sp x r : List UInt8} {p : Nat} (hsp : okSp sp) (h : s.drop p = sp ++ (quoteL x ++ r)) : tokAt s p = .ok ⟨3, ⟨x.toArray⟩, p + sp.length, p + sp.length + (quoteL x).length⟩ := by
  have hq : quoteL x ++ r = 34 :: (x.flatMap escB ++ 34 :: r) := by simp [quoteL]
  rw [hq] at h
  obtain ⟨e1, e2⟩ := tokp_at hsp h (fun d m e => by cases e; decide)
  have hs : strL (x.flatMap escB ++ 34 :: r) = some (x, (x.flatMap escB).length + 1) := esc_read x r _ (by simp; omega)
  rw [e1, tokP, e2]
  simp only
  rw [if_pos trivial, hs]
  simp only [quoteL, List.length_cons, List.length_append, List.length_nil]
  congr 2
  omega
theorem tokp_fin {s sp : List UInt8} {p : Nat} (hsp : okSp sp) (h : s.drop p = sp) : tokAt s p = .ok ⟨0, ⟨#[]⟩, p + sp.length, p + sp.length⟩ := by
  obtain ⟨e1, e2⟩ := tokp_at (l := []) hsp (by simpa using h) (fun d m e => by cases e)
  rw [e1, tokP, e2]

/-! what is read -/
def Rd {α : Type} (r : Res α) (x : α) (t : Tk) : Prop := r = .ok x t ∨ ∃ q, r = .bad q 4
theorem Rd.bind {α β : Type} {r : Res α} {x : α} {t : Tk} {f : α → Tk → Res β} {y : β} {t' : Tk} (h : Rd r x t) (g : Rd (f x t) y t') : Rd (r.bind f) y t' := by
  rcases h with rfl | ⟨q, rfl⟩
  · exact g
  · exact .inr ⟨q, rfl⟩
theorem Rd.ok {α : Type} (x : α) (t : Tk) : Rd (.ok x t) x t := .inl rfl
theorem step_of {s : List UInt8} {t t' : Tk} (h : tokAt s t.fin = .ok t') : stepT s t = .ok () t' := by unfold stepT; rw [h]
theorem step_rd {s : List UInt8} {t t' : Tk} (h : tokAt s t.fin = .ok t') : Rd (stepT s t) () t' := .inl (step_of h)
theorem want_rd {s w : List UInt8} {t t' : Tk} (hw : isW t w = true) (h : tokAt s t.fin = .ok t') : Rd (wantT s w t) () t' := by
  unfold wantT
  rw [if_pos hw]
  exact step_rd h
theorem isW_mk {k : Nat} (w : List UInt8) (p q : Nat) (hk : k = 1 ∨ k = 2) : isW ⟨k, ⟨w.toArray⟩, p, q⟩ w = true := by
  rcases hk with rfl | rfl <;> simp [isW]
theorem isW_no {k : Nat} {w u : List UInt8} (p q : Nat) (h : w ≠ u) : isW ⟨k, ⟨w.toArray⟩, p, q⟩ u = false := by simp [isW, h]
/-- read behind blanks, the text T gives x where f reads, and no + begins it; cond: no + follows -/
def Reads (f : List UInt8 → Nat → Tk → Res E) (cond : Bool) (x : E) (T : List UInt8) : Prop :=
  ∀ (s : List UInt8) (p : Nat) (sp r : List UInt8), okSp sp → s.drop p = sp ++ (T ++ r) → sepr r → ∃ t, tokAt s p = .ok t ∧ isW t [43] = false ∧ t.kind ≠ 0 ∧
    ∀ h t', tokAt s (p + sp.length + T.length) = .ok t' → (cond = true → isW t' [43] = false) → Rd (f s h t) x t'
abbrev readE (s : List UInt8) (h : Nat) (t : Tk) : Res E := exprP s (termP s h) t
theorem expr_of_term {x : E} {T : List UInt8} (H : Reads termP true x T) : Reads readE true x T := by
  intro s p sp r hsp hd hr
  obtain ⟨t, h1, h2, h3, h4⟩ := H s p sp r hsp hd hr
  refine ⟨t, h1, h2, h3, fun h t' ht hc => ?_⟩
  refine Rd.bind (h4 h t' ht hc) ?_
  refine Rd.bind (x := []) (t := t') ?_ (.inl (by simp [catE]))
  rw [sumP, if_neg (by rw [hc rfl]; decide)]
  exact Rd.ok _ _
theorem weaken {f : List UInt8 → Nat → Tk → Res E} {x : E} {T : List UInt8} (H : Reads f false x T) : Reads f true x T := by
  intro s p sp r hsp hd hr
  obtain ⟨t, h1, h2, h3, h4⟩ := H s p sp r hsp hd hr
  exact ⟨t, h1, h2, h3, fun h t' ht _ => h4 h t' ht (fun h => by cases h)⟩
theorem drop2 {s a b l : List UInt8} {p : Nat} (h : s.drop p = a ++ (b ++ l)) : s.drop (p + a.length + b.length) = l := drop_app (drop_app h)
/-- a token that begins a term: too deep, or the reading goes on -/
theorem termq_deep {s : List UInt8} {h : Nat} {t : Tk} {x : E} {t' : Tk} (ht : termOk t = true) (hg : ∀ h', h = h' + 1 → Rd (termP s (h' + 1) t) x t') : Rd (termP s h t) x t' := by
  cases h with
  | zero =>
    rw [termP, if_pos ht]
    exact .inr ⟨_, rfl⟩
  | succ h' => exact hg h' rfl
/-- between brackets -/
theorem reads_br {x : E} {T : List UInt8} (H : Reads readE true x T) : Reads termP false x ([40] ++ (T ++ [41])) := by
  intro s p sp r hsp hd hr
  have hd0 : s.drop p = sp ++ (40 :: (T ++ (41 :: r))) := by rw [hd]; simp
  have h0 := tokp_sign hsp hd0 (by decide)
  have hd1 : s.drop (p + sp.length + 1) = [] ++ (T ++ (41 :: r)) := drop_app (a := [40]) (drop_app hd0)
  obtain ⟨t1, h1, h2, h3, h4⟩ := H s _ [] _ okSp_nil hd1 (sepr_cons (by decide))
  have hd2 : s.drop (p + sp.length + 1 + T.length) = [] ++ (41 :: r) := by simpa using drop2 hd1
  have h5 := tokp_sign okSp_nil hd2 (by decide)
  refine ⟨_, h0, isW_no (w := [40]) _ _ (by decide), by simp, fun h t' ht _ => termq_deep ?_ ?_⟩
  · rfl
  · rintro h' rfl
    rw [termP, if_neg (by rw [show termOk _ = true from rfl]; decide)]
    refine Rd.bind (step_rd h1) ?_
    rw [if_neg (by simp), if_pos (by exact isW_mk (k := 2) [40] _ _ (.inr rfl))]
    refine Rd.bind (h4 h' _ (by simpa using h5) (fun _ => isW_no (w := [41]) _ _ (by decide))) ?_
    refine Rd.bind (want_rd (isW_mk (k := 2) [41] _ _ (.inr rfl)) ?_) (Rd.ok _ _)
    rw [← ht]
    congr 1
    simp
    omega
theorem reads_text (x : ByteArray) : Reads termP false (.mk 1 x []) (quoteL x.data.toList) := by
  intro s p sp r hsp hd hr
  have h0 := tokp_text hsp hd
  refine ⟨_, h0, rfl, by simp, fun h t' ht _ => termq_deep rfl ?_⟩
  rintro h' rfl
  rw [termP, if_neg (by rw [show termOk _ = true from rfl]; decide)]
  refine Rd.bind (step_rd ht) ?_
  rw [if_pos rfl]
  exact Rd.ok _ _
theorem name_parts {w : List UInt8} (h : nameL w = true) : w ≠ [] ∧ w.all letter = true ∧ keyW.contains w = false ∧ (∃ c l, w = c :: l ∧ letter c = true) := by
  simp only [nameL, Bool.and_eq_true, Bool.not_eq_true', decide_eq_true_eq] at h
  obtain ⟨⟨⟨⟨h1, h2⟩, h3⟩, h4⟩, h5⟩ := h
  refine ⟨fun e => by rw [e] at h1; simp at h1, h3, h5, ?_⟩
  cases w with
  | nil => simp at h1
  | cons c l => rw [List.all_cons, Bool.and_eq_true] at h3; exact ⟨c, l, rfl, h3.1⟩
theorem name_ne {w : List UInt8} (h : nameL w = true) : w ≠ [40] ∧ w ≠ [43] ∧ w ≠ [105, 102] ∧ w ≠ [108, 101, 116] := by
  refine ⟨?_, ?_, ?_, ?_⟩ <;> (rintro rfl; revert h; decide)
theorem reads_name {x : ByteArray} (hn : nameL x.data.toList = true) : Reads termP false (.mk 2 x []) x.data.toList := by
  intro s p sp r hsp hd hr
  obtain ⟨a1, a2, a3, a4⟩ := name_parts hn
  obtain ⟨b1, b2, b3, b4⟩ := name_ne hn
  have h0 := tokp_word hsp hd a1 a2 hr
  have hx : (⟨x.data.toList.toArray⟩ : ByteArray) = x := by simp
  have hk : termOk ⟨1, ⟨x.data.toList.toArray⟩, p + sp.length, p + sp.length + x.data.toList.length⟩ = true := by unfold termOk; simp [hn]
  refine ⟨_, h0, isW_no _ _ b2, by simp, fun h t' ht _ => termq_deep hk ?_⟩
  rintro h' rfl
  rw [termP, if_neg (by rw [hk]; decide)]
  refine Rd.bind (step_rd ht) ?_
  rw [if_neg (by simp), if_neg (by rw [isW_no _ _ b1]; decide), if_neg (by rw [isW_no _ _ b3]; decide), if_neg (by rw [isW_no _ _ b4]; decide), hx]
  exact Rd.ok _ _
theorem wordq_at {s sp w r : List UInt8} {p : Nat} (hsp : okSp sp) (h : s.drop p = sp ++ (w ++ (32 :: r))) (h0 : w ≠ []) (hw : w.all letter = true) : tokAt s p = .ok ⟨1, ⟨w.toArray⟩, p + sp.length, p + sp.length + w.length⟩ ∧ s.drop (p + sp.length + w.length) = 32 :: r :=
  ⟨tokp_word hsp h h0 hw (sepr_cons (by decide)), drop2 h⟩
theorem sign_at {s sp r : List UInt8} {c : UInt8} {p : Nat} (hsp : okSp sp) (h : s.drop p = sp ++ (c :: (32 :: r))) (hc : sign c = true) : tokAt s p = .ok ⟨2, ⟨#[c]⟩, p + sp.length, p + sp.length + 1⟩ ∧ s.drop (p + sp.length + 1) = 32 :: r :=
  ⟨tokp_sign hsp h hc, drop_app (a := [c]) (drop_app h)⟩
theorem reads_if {a b c d : E} {A B C D : List UInt8} (ha : Reads readE true a A) (hb : Reads readE true b B) (hc : Reads readE true c C) (hd : Reads readE true d D) :
    Reads termP true (.mk 4 ⟨#[]⟩ [a, b, c, d]) (wIf ++ (A ++ (wEq ++ (B ++ (wThen ++ (C ++ (wElse ++ D))))))) := by
  intro s p sp r hsp h hr
  have d0 : s.drop p = sp ++ ([105, 102] ++ (32 :: (A ++ ([32] ++ (61 :: (32 :: (B ++ ([32] ++ ([116, 104, 101, 110] ++ (32 :: (C ++ ([32] ++ ([101, 108, 115, 101] ++ (32 :: (D ++ r))))))))))))))) := by rw [h]; simp [wIf, wEq, wThen, wElse]
  obtain ⟨t0, e0⟩ := wordq_at hsp d0 (by decide) (by decide)
  obtain ⟨ta, a1, a2, a3, a4⟩ := ha s _ [32] _ okSp_sp e0 (sepr_cons (by decide))
  have e1 := drop2 (a := [32]) e0
  obtain ⟨t1, e2⟩ := sign_at okSp_sp e1 (by decide)
  obtain ⟨tb, b1, b2, b3, b4⟩ := hb s _ [32] _ okSp_sp e2 (sepr_cons (by decide))
  have e3 := drop2 (a := [32]) e2
  obtain ⟨t2, e4⟩ := wordq_at okSp_sp e3 (by decide) (by decide)
  obtain ⟨tc, c1, c2, c3, c4⟩ := hc s _ [32] _ okSp_sp e4 (sepr_cons (by decide))
  have e5 := drop2 (a := [32]) e4
  obtain ⟨t3, e6⟩ := wordq_at okSp_sp e5 (by decide) (by decide)
  obtain ⟨td, d1, d2, d3, d4⟩ := hd s _ [32] _ okSp_sp e6 hr
  refine ⟨_, t0, isW_no (w := [105, 102]) _ _ (by decide), by simp, fun h' t' ht hcond => termq_deep rfl ?_⟩
  rintro h rfl
  rw [termP, if_neg (by rw [show termOk _ = true from rfl]; decide)]
  refine Rd.bind (step_rd a1) ?_
  rw [if_neg (by simp), if_neg (by rw [isW_no (w := [105, 102]) _ _ (by decide)]; decide), if_pos (isW_mk (k := 1) [105, 102] _ _ (.inl rfl))]
  refine Rd.bind (a4 h _ t1 fun _ => isW_no (w := [61]) _ _ (by decide)) ?_
  refine Rd.bind (want_rd (isW_mk (k := 2) [61] _ _ (.inr rfl)) b1) ?_
  refine Rd.bind (b4 h _ t2 fun _ => isW_no (w := [116, 104, 101, 110]) _ _ (by decide)) ?_
  refine Rd.bind (want_rd (isW_mk (k := 1) [116, 104, 101, 110] _ _ (.inl rfl)) c1) ?_
  refine Rd.bind (c4 h _ t3 fun _ => isW_no (w := [101, 108, 115, 101]) _ _ (by decide)) ?_
  refine Rd.bind (want_rd (isW_mk (k := 1) [101, 108, 115, 101] _ _ (.inl rfl)) d1) ?_
  refine Rd.bind (d4 h t' ?_ hcond) (Rd.ok _ _)
  rw [← ht]
  congr 1
  simp [wIf, wEq, wThen, wElse]
  omega
theorem reads_let {n : ByteArray} {a b : E} {A B : List UInt8} (hn : nameL n.data.toList = true) (ha : Reads readE true a A) (hb : Reads readE true b B) :
    Reads termP true (.mk 5 n [a, b]) (wLet ++ (n.data.toList ++ (wEq ++ (A ++ (wIn ++ B))))) := by
  intro s p sp r hsp h hr
  obtain ⟨a1, a2, a3, a4⟩ := name_parts hn
  have hx : (⟨n.data.toList.toArray⟩ : ByteArray) = n := by simp
  have d0 : s.drop p = sp ++ ([108, 101, 116] ++ (32 :: (n.data.toList ++ (32 :: (61 :: (32 :: (A ++ ([32] ++ ([105, 110] ++ (32 :: (B ++ r))))))))))) := by rw [h]; simp [wLet, wEq, wIn]
  obtain ⟨t0, e0⟩ := wordq_at hsp d0 (by decide) (by decide)
  obtain ⟨tn, en⟩ := wordq_at (sp := [32]) okSp_sp e0 a1 a2
  obtain ⟨t1, e1⟩ := sign_at (sp := [32]) okSp_sp en (by decide)
  obtain ⟨ta, x1, x2, x3, x4⟩ := ha s _ [32] _ okSp_sp e1 (sepr_cons (by decide))
  have e2 := drop2 (a := [32]) e1
  obtain ⟨t2, e3⟩ := wordq_at okSp_sp e2 (by decide) (by decide)
  obtain ⟨tb, y1, y2, y3, y4⟩ := hb s _ [32] _ okSp_sp e3 hr
  refine ⟨_, t0, isW_no (w := [108, 101, 116]) _ _ (by decide), by simp, fun h' t' ht hcond => termq_deep rfl ?_⟩
  rintro h rfl
  rw [termP, if_neg (by rw [show termOk _ = true from rfl]; decide)]
  refine Rd.bind (step_rd tn) ?_
  rw [if_neg (by simp), if_neg (by rw [isW_no (w := [108, 101, 116]) _ _ (by decide)]; decide), if_neg (by rw [isW_no (w := [108, 101, 116]) _ _ (by decide)]; decide), if_pos (isW_mk (k := 1) [108, 101, 116] _ _ (.inl rfl)), if_pos ⟨rfl, hn⟩]
  refine Rd.bind (step_rd t1) ?_
  refine Rd.bind (want_rd (isW_mk (k := 2) [61] _ _ (.inr rfl)) x1) ?_
  refine Rd.bind (x4 h _ t2 fun _ => isW_no (w := [105, 110]) _ _ (by decide)) ?_
  refine Rd.bind (want_rd (isW_mk (k := 1) [105, 110] _ _ (.inl rfl)) y1) ?_
  refine Rd.bind (y4 h t' ?_ hcond) ?_
  · rw [← ht]
    congr 1
    simp [wLet, wEq, wIn]
    omega
  · rw [hx]
    exact Rd.ok _ _

/-! sums -/
def tailJ (l : List (List UInt8)) : List UInt8 := l.flatMap fun t => [32, 43, 32] ++ t
theorem join_tail : ∀ (t : List UInt8) (l : List (List UInt8)), joinP (t :: l) = t ++ tailJ l
  | t, [] => by simp [joinP, tailJ]
  | t, u :: l => by rw [joinP, join_tail u l]; simp [tailJ]
theorem sum_reads : ∀ (l : List (E × List UInt8)), (∀ q ∈ l, Reads termP false q.1 q.2) → ∀ (s : List UInt8) (p : Nat) (r : List UInt8) (t' : Tk), s.drop p = tailJ (l.map (·.2)) ++ r → sepr r →
    tokAt s (p + (tailJ (l.map (·.2))).length) = .ok t' → isW t' [43] = false → ∃ t, tokAt s p = .ok t ∧ ∀ (m h : Nat) (acc : List E), l.length < m → Rd (sumP s (termP s h) m t acc) (acc ++ l.map (·.1)) t'
  | [], _, s, p, r, t', hd, hr, ht, hp => by
    refine ⟨t', by simpa [tailJ] using ht, fun m h acc hm => ?_⟩
    obtain ⟨m, rfl⟩ : ∃ k, m = k + 1 := ⟨m - 1, by simp at hm; omega⟩
    rw [sumP, if_neg (by rw [hp]; decide)]
    simp only [List.map_nil, List.append_nil]
    exact Rd.ok _ _
  | (x, T) :: l, hl, s, p, r, t', hd, hr, ht, hp => by
    have hd0 : s.drop p = [32] ++ (43 :: (32 :: (T ++ (tailJ (l.map (·.2)) ++ r)))) := by rw [hd]; simp [tailJ]
    obtain ⟨t0, e0⟩ := sign_at okSp_sp hd0 (by decide)
    have hsep : sepr (tailJ (l.map (·.2)) ++ r) := by
      cases l with
      | nil => simpa [tailJ] using hr
      | cons q l => exact fun c m e => by simp [tailJ] at e; rw [← e.1]; decide
    obtain ⟨t1, h1, h2, h3, h4⟩ := hl (x, T) (List.mem_cons_self ..) s _ [32] _ okSp_sp e0 hsep
    have e1 := drop2 (a := [32]) e0
    obtain ⟨t2, g1, g2⟩ := sum_reads l (fun q hq => hl q (List.mem_cons_of_mem _ hq)) s _ r t' e1 hr (by
      rw [← ht]
      congr 1
      simp [tailJ]
      omega) hp
    refine ⟨_, t0, fun m h acc hm => ?_⟩
    obtain ⟨m, rfl⟩ : ∃ k, m = k + 1 := ⟨m - 1, by simp at hm; omega⟩
    rw [sumP, if_pos (isW_mk (k := 2) [43] _ _ (.inr rfl))]
    refine Rd.bind (step_rd h1) ?_
    refine Rd.bind (h4 h _ g1 (fun h => by cases h)) ?_
    have := g2 m h (acc ++ [x]) (by simp only [List.length_cons] at hm; omega)
    simpa using this
theorem tailJ_len (l : List (List UInt8)) : l.length ≤ (tailJ l).length := by
  induction l with
  | nil => simp
  | cons t l ih => simp only [tailJ, List.flatMap_cons, List.length_append, List.length_cons] at *; omega
theorem reads_cat {x : E} {T : List UInt8} {l : List (E × List UInt8)} (hx : Reads termP false x T) (hl : ∀ q ∈ l, Reads termP false q.1 q.2) (h0 : l ≠ []) : Reads readE true (.mk 3 ⟨#[]⟩ (x :: l.map (·.1))) (joinP (T :: l.map (·.2))) := by
  intro s p sp r hsp hd hr
  rw [join_tail] at hd
  have hd0 : s.drop p = sp ++ (T ++ (tailJ (l.map (·.2)) ++ r)) := by rw [hd]; simp
  have hsep : sepr (tailJ (l.map (·.2)) ++ r) := by
    cases l with
    | nil => exact absurd rfl h0
    | cons q l => exact fun c m e => by simp [tailJ] at e; rw [← e.1]; decide
  obtain ⟨t, h1, h2, h3, h4⟩ := hx s p sp _ hsp hd0 hsep
  refine ⟨t, h1, h2, h3, fun h t' ht hc => ?_⟩
  have e1 := drop2 hd0
  obtain ⟨t1, g1, g2⟩ := sum_reads l hl s _ r t' e1 hr (by
    rw [← ht, join_tail]
    congr 1
    simp
    omega) (hc rfl)
  have hlen : l.length ≤ s.length := by
    have := congrArg List.length e1
    have h5 := tailJ_len (l.map (·.2))
    rw [List.length_map] at h5
    rw [List.length_drop, List.length_append] at this
    omega
  refine Rd.bind (h4 h _ g1 (fun h => by cases h)) ?_
  refine Rd.bind (g2 _ h [] (by omega)) ?_
  rw [List.nil_append, catE, if_neg (by simp [h0])]
  exact Rd.ok _ _
theorem bts_map : ∀ l : List E, bts l = l.map fun x => brL x.kind (textE x)
  | [] => by rw [bts]; rfl
  | x :: l => by rw [bts, bts_map l]; rfl
theorem texts_map : ∀ l : List E, texts l = l.map textE
  | [] => by rw [texts]; rfl
  | x :: l => by rw [texts, texts_map l]; rfl
theorem wf_mk {k : Int} {s : ByteArray} {ks : List E} (h : Wf (.mk k s ks)) : partOk k s.data.toList ks.length = true ∧ ∀ x ∈ ks, Wf x := by
  cases h with
  | mk _ _ _ h1 h2 => exact ⟨h1, h2⟩
theorem empty_of {s : ByteArray} (h : s.data.toList.isEmpty = true) : s = ⟨#[]⟩ := by
  apply ByteArray.ext
  simpa using h
/-- whatever can be, its text is read as it: on its own, and in a sum -/
theorem reads_any (x : E) : Wf x → Reads readE true x (textE x) ∧ Reads termP false x (brL x.kind (textE x)) := by
  refine Eind (P := fun x => Wf x → Reads readE true x (textE x) ∧ Reads termP false x (brL x.kind (textE x))) (fun k s ks ih hw => ?_) x
  obtain ⟨hp, hk⟩ := wf_mk hw
  have ih' : ∀ y ∈ ks, Reads readE true y (textE y) ∧ Reads termP false y (brL y.kind (textE y)) := fun y hy => ih y hy (hk y hy)
  simp only [partOk, Bool.or_eq_true, Bool.and_eq_true, beq_iff_eq, decide_eq_true_eq] at hp
  rcases hp with (((⟨rfl, hn⟩ | ⟨⟨rfl, hn⟩, hs⟩) | ⟨⟨rfl, hn⟩, hs⟩) | ⟨⟨rfl, hn⟩, hs⟩) | ⟨⟨rfl, hn⟩, hs⟩
  · obtain rfl := List.length_eq_zero_iff.1 hn
    have ht : textE (.mk 1 s []) = quoteL s.data.toList := by rw [textE, if_pos rfl]
    rw [ht]
    exact ⟨expr_of_term (weaken (reads_text s)), reads_text s⟩
  · obtain rfl := List.length_eq_zero_iff.1 hn
    have ht : textE (.mk 2 s []) = s.data.toList := by rw [textE, if_neg (by decide), if_pos rfl]
    rw [ht]
    exact ⟨expr_of_term (weaken (reads_name hs)), reads_name hs⟩
  · obtain rfl := empty_of hs
    have ht : textE (.mk 3 ⟨#[]⟩ ks) = joinP (bts ks) := by rw [textE, if_neg (by decide), if_neg (by decide), if_pos rfl]
    have hr : Reads readE true (.mk 3 ⟨#[]⟩ ks) (joinP (bts ks)) := by
      match ks, hn, ih' with
      | y :: z :: l, _, ih' =>
        have := reads_cat (l := (z :: l).map fun y => (y, brL y.kind (textE y))) (ih' y (by simp)).2 (fun q hq => by
          obtain ⟨u, hu, rfl⟩ := List.mem_map.1 hq
          exact (ih' u (List.mem_cons_of_mem _ hu)).2) (by simp)
        rw [bts_map]
        simpa [Function.comp_def] using this
    rw [ht]
    refine ⟨hr, ?_⟩
    exact reads_br hr
  · obtain rfl := empty_of hs
    match ks, hn, ih' with
    | [a, b, c, d], _, ih' =>
      have ht : textE (.mk 4 ⟨#[]⟩ [a, b, c, d]) = wIf ++ (textE a ++ (wEq ++ (textE b ++ (wThen ++ (textE c ++ (wElse ++ textE d)))))) := by
        rw [textE, if_neg (by decide), if_neg (by decide), if_neg (by decide), if_pos rfl, texts_map]
        rfl
      rw [ht]
      have hr := expr_of_term (reads_if (ih' a (by simp)).1 (ih' b (by simp)).1 (ih' c (by simp)).1 (ih' d (by simp)).1)
      exact ⟨hr, reads_br hr⟩
  · match ks, hn, ih' with
    | [a, b], _, ih' =>
      have ht : textE (.mk 5 s [a, b]) = wLet ++ (s.data.toList ++ (wEq ++ (textE a ++ (wIn ++ textE b)))) := by
        rw [textE, if_neg (by decide), if_neg (by decide), if_neg (by decide), if_neg (by decide), if_pos rfl, texts_map]
        rfl
      rw [ht]
      have hr := expr_of_term (reads_let hs (ih' a (by simp)).1 (ih' b (by simp)).1)
      exact ⟨hr, reads_br hr⟩
end Rc
end Go.Proofs.YtflhmoelenmomaaGreatDoor

/-
  Plain: a recipe that is printed is read as it is; what is read can be.
-/
namespace Go.Proofs.YtflhmoelenmomaaGreatDoor
open Go.RowKit
namespace Rc

/-! printed, then read -/
def goodF (f : Int × E × E) : Prop := (f.1 = 1 ∨ f.1 = 2 ∨ f.1 = 3) ∧ Wf f.2.1 ∧ Wf f.2.2
def wKw (k : Int) : List UInt8 := if k = 1 then [116, 111, 111, 108] else if k = 2 then [98, 117, 105, 108, 100] else [114, 117, 110]
theorem wKw_eq (k : Int) : wKind k = wKw k ++ [32] := by unfold wKind wKw; split <;> (try split) <;> rfl
theorem kw_word {k : Int} (h : k = 1 ∨ k = 2 ∨ k = 3) (p q : Nat) : wKw k ≠ [] ∧ (wKw k).all letter = true ∧ wKw k ≠ [43] ∧ (fieldK ⟨1, ⟨(wKw k).toArray⟩, p, q⟩ : Int) = k ∧ fieldK ⟨1, ⟨(wKw k).toArray⟩, p, q⟩ ≠ 0 := by
  rcases h with rfl | rfl | rfl
  · refine ⟨by decide, by decide, by decide, ?_⟩
    have : fieldK ⟨1, ⟨(wKw 1).toArray⟩, p, q⟩ = 1 := by unfold fieldK; rw [if_pos (show isW ⟨1, ⟨(wKw 1).toArray⟩, p, q⟩ [116, 111, 111, 108] = true from isW_mk (k := 1) [116, 111, 111, 108] p q (.inl rfl))]
    rw [this]
    decide
  · refine ⟨by decide, by decide, by decide, ?_⟩
    have : fieldK ⟨1, ⟨(wKw 2).toArray⟩, p, q⟩ = 2 := by
      unfold fieldK
      rw [if_neg (by rw [isW_no _ _ (by decide)]; decide), if_pos (show isW ⟨1, ⟨(wKw 2).toArray⟩, p, q⟩ [98, 117, 105, 108, 100] = true from isW_mk (k := 1) [98, 117, 105, 108, 100] p q (.inl rfl))]
    rw [this]
    decide
  · refine ⟨by decide, by decide, by decide, ?_⟩
    have : fieldK ⟨1, ⟨(wKw 3).toArray⟩, p, q⟩ = 3 := by
      unfold fieldK
      rw [if_neg (by rw [isW_no _ _ (by decide)]; decide), if_neg (by rw [isW_no _ _ (by decide)]; decide), if_pos (show isW ⟨1, ⟨(wKw 3).toArray⟩, p, q⟩ [114, 117, 110] = true from isW_mk (k := 1) [114, 117, 110] p q (.inl rfl))]
    rw [this]
    decide
theorem fields_reads : ∀ (l : List (Int × E × E)), (∀ f ∈ l, goodF f) → ∀ (s : List UInt8) (p : Nat), s.drop p = 10 :: l.flatMap fieldL → ∃ t, tokAt s p = .ok t ∧ isW t [43] = false ∧
    ∀ (m : Nat) (acc : List (Int × E × E)), l.length < m → acc.length + l.length ≤ 20 → ∃ t', Rd (fieldsP s (exprP s (termP s 32)) m t acc) (acc ++ l) t'
  | [], _, s, p, hd => by
    refine ⟨_, tokp_fin okSp_nl (by simpa using hd), rfl, fun m acc hm _ => ?_⟩
    obtain ⟨m, rfl⟩ : ∃ k, m = k + 1 := ⟨m - 1, by simp at hm; omega⟩
    rw [fieldsP, if_pos rfl, List.append_nil]
    exact ⟨_, Rd.ok _ _⟩
  | f :: l, hg, s, p, hd => by
    obtain ⟨hk, ha, hb⟩ := hg f (List.mem_cons_self ..)
    have hd0 : s.drop p = [10] ++ (wKw f.1 ++ (32 :: (textE f.2.1 ++ ([32] ++ (textE f.2.2 ++ (10 :: l.flatMap fieldL)))))) := by rw [hd]; simp [fieldL, wKw_eq]
    obtain ⟨k1, k2, k3, k4, k5⟩ := kw_word hk (p + [(10 : UInt8)].length) (p + [(10 : UInt8)].length + (wKw f.1).length)
    obtain ⟨t0, e0⟩ := wordq_at okSp_nl hd0 k1 k2
    obtain ⟨ta, a1, a2, a3, a4⟩ := (reads_any _ ha).1 s _ [32] _ okSp_sp e0 (sepr_cons (by decide))
    have e1 := drop2 (a := [32]) e0
    obtain ⟨tb, b1, b2, b3, b4⟩ := (reads_any _ hb).1 s _ [32] _ okSp_sp e1 (sepr_cons (by decide))
    have e2 := drop2 (a := [32]) e1
    obtain ⟨tc, c1, c2, c3⟩ := fields_reads l (fun g hg' => hg g (List.mem_cons_of_mem _ hg')) s _ e2
    refine ⟨_, t0, isW_no _ _ k3, fun m acc hm hn => ?_⟩
    obtain ⟨m, rfl⟩ : ∃ k, m = k + 1 := ⟨m - 1, by simp at hm; omega⟩
    simp only [List.length_cons] at hm hn
    obtain ⟨t', h'⟩ := c3 m (acc ++ [(f.1, f.2.1, f.2.2)]) (by omega) (by simp; omega)
    refine ⟨t', ?_⟩
    rw [fieldsP, if_neg (by simp), if_neg k5, if_neg (by omega)]
    refine Rd.bind (step_rd a1) ?_
    refine Rd.bind (a4 32 _ b1 (fun _ => b2)) ?_
    refine Rd.bind (b4 32 _ c1 (fun _ => c2)) ?_
    rw [k4]
    simpa using h'
theorem source_reads (x : Src) (hn : Wf x.name) (hv : Wf x.version) (hf : ∀ f ∈ x.fields, goodF f) (h20 : x.fields.length ≤ 20) : ∃ t, Rd (sourceP (textS x)) x t := by
  have hd0 : (textS x).drop 0 = [] ++ ([112, 97, 99, 107, 97, 103, 101] ++ (32 :: (textE x.name ++ ([10] ++ ([118, 101, 114, 115, 105, 111, 110] ++ (32 :: (textE x.version ++ (10 :: x.fields.flatMap fieldL)))))))) := by simp [textS, wPack, wVers]
  generalize textS x = s at *
  obtain ⟨t0, e0⟩ := wordq_at okSp_nil hd0 (by decide) (by decide)
  obtain ⟨ta, a1, a2, a3, a4⟩ := (reads_any _ hn).1 s _ [32] _ okSp_sp e0 (sepr_cons (by decide))
  have e1 := drop2 (a := [32]) e0
  obtain ⟨t1, e2⟩ := wordq_at okSp_nl e1 (by decide) (by decide)
  obtain ⟨tb, b1, b2, b3, b4⟩ := (reads_any _ hv).1 s _ [32] _ okSp_sp e2 (sepr_cons (by decide))
  have e3 := drop2 (a := [32]) e2
  obtain ⟨tc, c1, c2, c3⟩ := fields_reads x.fields hf s _ e3
  have hlen : x.fields.length ≤ s.length := by
    have h1 := congrArg List.length e3
    have h2 : ∀ l : List (Int × E × E), l.length ≤ (l.flatMap fieldL).length := fun l => by
      induction l with
      | nil => simp
      | cons f l ih => rw [List.flatMap_cons, List.length_append, List.length_cons]; have : 1 ≤ (fieldL f).length := by simp [fieldL]; omega
                       omega
    have := h2 x.fields
    simp only [List.length_drop, List.length_cons] at h1
    omega
  obtain ⟨t', h'⟩ := c3 (s.length + 1) [] (by omega) (by simpa using h20)
  refine ⟨t', ?_⟩
  unfold sourceP
  rw [t0]
  simp only
  refine Rd.bind (want_rd (isW_mk (k := 1) [112, 97, 99, 107, 97, 103, 101] _ _ (.inl rfl)) a1) ?_
  refine Rd.bind (a4 32 _ t1 (fun _ => isW_no (w := [118, 101, 114, 115, 105, 111, 110]) _ _ (by decide))) ?_
  refine Rd.bind (want_rd (isW_mk (k := 1) [118, 101, 114, 115, 105, 111, 110] _ _ (.inl rfl)) b1) ?_
  refine Rd.bind (b4 32 _ c1 (fun _ => c2)) ?_
  refine Rd.bind h' ?_
  exact Rd.ok _ _
theorem good_wf {x : E} (h : goodE x = true) : Wf x := (count_le x 0 4096 (by decide)).2.2 (by simpa [goodE] using h)
theorem goodS_parts {x : Src} (h : goodS x = true) : Wf x.name ∧ Wf x.version ∧ x.fields.length ≤ 20 ∧ ∀ f ∈ x.fields, goodF f := by
  simp only [goodS, Bool.and_eq_true, decide_eq_true_eq, List.all_eq_true] at h
  obtain ⟨⟨⟨h1, h2⟩, h3⟩, h4⟩ := h
  refine ⟨good_wf h1, good_wf h2, h3, fun f hf => ?_⟩
  obtain ⟨⟨⟨a, b⟩, c⟩, d⟩ := h4 f hf
  exact ⟨by omega, good_wf c, good_wf d⟩
/-- WHAT CAN BE PRINTED IS READ AS IT IS, or it is too deep -/
theorem print_parse {x : Src} (h : goodS x = true) (hl : (textS x).length ≤ 4096) : parseP (textS x) = .ok x ∨ ∃ q, parseP (textS x) = .bad q 4 := by
  obtain ⟨h1, h2, h3, h4⟩ := goodS_parts h
  obtain ⟨t, hr | ⟨q, hr⟩⟩ := source_reads x h1 h2 h4 h3
  · left; unfold parseP; rw [if_neg (by omega), hr]
  · right; exact ⟨q, by unfold parseP; rw [if_neg (by omega), hr]⟩

/-! what is read can be -/
mutual
def dpE : E → Nat
  | .mk _ _ ks => 1 + dpEs ks
def dpEs : List E → Nat
  | [] => 0
  | x :: l => max (dpE x) (dpEs l)
end
mutual
def npE : E → Nat
  | .mk _ _ ks => 1 + npEs ks
def npEs : List E → Nat
  | [] => 0
  | x :: l => npE x + npEs l
end
theorem dpEs_mem {l : List E} {x : E} (h : x ∈ l) : dpE x ≤ dpEs l := by
  induction l with
  | nil => simp at h
  | cons y l ih =>
    rw [dpEs]
    rcases List.mem_cons.1 h with rfl | h
    · omega
    · have := ih h; omega
theorem counts_eq (l : List E) (d : Nat) (ih : ∀ x ∈ l, ∀ m : Int, (npE x : Int) ≤ m → count x d m = m - npE x) : ∀ m : Int, (npEs l : Int) ≤ m → counts l d m = m - npEs l := by
  induction l with
  | nil => intro m _; rw [counts, npEs]; simp
  | cons x l ihl =>
    intro m hm
    rw [npEs] at hm ⊢
    rw [counts, if_neg (by omega), ih x (List.mem_cons_self ..) m (by omega), ihl (fun y hy => ih y (List.mem_cons_of_mem _ hy)) _ (by omega)]
    omega
theorem count_eq (x : E) : Wf x → ∀ d, d + dpE x ≤ 64 → ∀ m : Int, (npE x : Int) ≤ m → count x d m = m - npE x := by
  refine Eind (P := fun x => Wf x → ∀ d, d + dpE x ≤ 64 → ∀ m : Int, (npE x : Int) ≤ m → count x d m = m - npE x) (fun k s ks ih hw d hd m hm => ?_) x
  obtain ⟨hp, hk⟩ := wf_mk hw
  rw [dpE] at hd
  rw [npE] at hm ⊢
  rw [count, if_neg (by rw [hp]; simp; omega), counts_eq ks (d + 1) (fun y hy m hm => ih y hy (hk y hy) (d + 1) (by have := dpEs_mem hy; omega) m hm) _ (by omega)]
  omega
/-- an expression of few parts, not deep -/
structure OkX (x : E) (h n : Nat) : Prop where
  wf : Wf x
  dep : dpE x ≤ h
  np : npE x ≤ n
  wt : sizeW x ≤ 2 * n
theorem OkX.good {x : E} {h n : Nat} (o : OkX x h n) (hh : h ≤ 64) (hn : n ≤ 4096) : goodE x = true := by
  have h1 := o.dep
  have h2 := o.np
  unfold goodE
  rw [count_eq x o.wf 0 (by omega) 4096 (by omega)]
  simp
  omega
theorem OkX.up {x : E} {h n h' n' : Nat} (o : OkX x h n) (hh : h ≤ h') (hn : n ≤ n') : OkX x h' n' := ⟨o.wf, Nat.le_trans o.dep hh, Nat.le_trans o.np hn, Nat.le_trans o.wt (by omega)⟩
theorem strF_ge : ∀ (f : Nat) (l : List UInt8) (x : List UInt8) (n : Nat), strF f l = some (x, n) → x.length + 1 ≤ n
  | 0, l, x, n, h => by simp [strF] at h
  | f + 1, [], x, n, h => by simp [strF] at h
  | f + 1, c :: l, x, n, h => by
    unfold strF at h
    split at h
    · simp at h; obtain ⟨rfl, rfl⟩ := h; simp
    · split at h
      · cases h
      · split at h
        · obtain ⟨⟨y, k⟩, hy, he⟩ := Option.map_eq_some_iff.1 h
          have := strF_ge f l y k hy
          simp at he
          obtain ⟨rfl, rfl⟩ := he
          simp only [List.length_cons]
          omega
        · match l, h with
          | a :: b :: r, h =>
            simp only at h
            split at h
            · cases h
            · obtain ⟨⟨y, k⟩, hy, he⟩ := Option.map_eq_some_iff.1 h
              have := strF_ge f r y k hy
              simp at he
              obtain ⟨rfl, rfl⟩ := he
              simp only [List.length_cons]
              omega
          | [a], h => simp at h
          | [], h => simp at h
/-- a token that was read -/
structure Tok (s : List UInt8) (t : Tk) : Prop where
  at_ : tokP s t.pl = .ok t
  le : t.fin ≤ s.length
theorem tokP_len {s : List UInt8} {p : Nat} {t : Tk} (h : tokP s p = .ok t) : t.pl = p ∧ t.s.size ≤ t.fin - p ∧ (t.fin ≤ s.length ∨ (t.kind = 0 ∧ t.fin = p)) := by
  unfold tokP at h
  cases hd : s.drop p with
  | nil =>
    rw [hd] at h
    simp only [RT.ok.injEq] at h
    subst h
    exact ⟨rfl, Nat.zero_le _, .inr ⟨rfl, rfl⟩⟩
  | cons c l =>
    have hl := congrArg List.length hd
    simp only [List.length_drop, List.length_cons] at hl
    rw [hd] at h
    simp only at h
    split at h
    · split at h
      · rename_i x n hs
        simp only [RT.ok.injEq] at h
        subst h
        have h1 := strF_ge _ _ _ _ hs
        have h2 : n ≤ l.length := strF_le _ _ _ _ hs
        refine ⟨rfl, ?_, .inl ?_⟩
        · show x.length ≤ p + 1 + n - p; omega
        · show p + 1 + n ≤ s.length; omega
      · cases h
    · split at h
      · simp only [RT.ok.injEq] at h
        subst h
        exact ⟨rfl, by show 1 ≤ p + 1 - p; omega, .inl (by show p + 1 ≤ s.length; omega)⟩
      · split at h
        · cases h
        · simp only [RT.ok.injEq] at h
          subst h
          have h1 : wordN (c :: l) ≤ (c :: l).length := by unfold wordN; exact (List.takeWhile_sublist _).length_le
          simp only [List.length_cons] at h1
          refine ⟨rfl, ?_, .inl ?_⟩
          · show ((c :: l).take (wordN (c :: l))).length ≤ p + wordN (c :: l) - p
            rw [List.length_take]
            omega
          · show p + wordN (c :: l) ≤ s.length; omega
theorem skipL_le : ∀ (l : List UInt8) (note : Bool), skipL note l ≤ l.length
  | [], _ => by simp [skipL]
  | c :: l, note => by
    unfold skipL
    split
    · have := skipL_le l (c == 35 || (note && c != 10))
      simp only [List.length_cons]
      omega
    · simp
theorem tok_tok {s : List UInt8} {p : Nat} {t : Tk} (hp : p ≤ s.length) (h : tokAt s p = .ok t) : Tok s t ∧ p ≤ t.pl := by
  unfold tokAt at h
  obtain ⟨h1, h2, h3⟩ := tokP_len h
  have h4 := skipL_le (s.drop p) false
  rw [List.length_drop] at h4
  refine ⟨⟨by rw [h1]; exact h, ?_⟩, by omega⟩
  rcases h3 with h3 | ⟨-, h3⟩ <;> omega
theorem Tok.lt {s : List UInt8} {t : Tk} (h : Tok s t) : t.pl ≤ t.fin ∧ t.s.size ≤ t.fin - t.pl ∧ (t.kind ≠ 0 → t.pl < t.fin) := by
  have h1 := tokP_prog h.at_
  exact ⟨h1.1, (tokP_len h.at_).2.1, h1.2⟩
theorem step_tok {s : List UInt8} {t t' : Tk} {u : Unit} (h : stepT s t = .ok u t') (ht : Tok s t) : Tok s t' ∧ t.fin ≤ t'.pl := by
  unfold stepT at h
  split at h
  · rename_i t1 h1
    cases h
    exact tok_tok ht.le h1
  · cases h
theorem want_tok {s w : List UInt8} {t t' : Tk} {u : Unit} (h : wantT s w t = .ok u t') (ht : Tok s t) : Tok s t' ∧ t.pl < t'.pl := by
  unfold wantT at h
  split at h
  · rename_i hw
    have h1 := step_tok h ht
    have h2 := ht.lt.2.2 (isW_kind hw)
    exact ⟨h1.1, by omega⟩
  · cases h
def OkF (s : List UInt8) (f : Tk → Res E) (H : Nat) : Prop := ∀ t x t', Tok s t → f t = .ok x t' → Tok s t' ∧ t.pl ≤ t'.pl ∧ OkX x H (t'.pl - t.pl)
theorem sum_okx {s : List UInt8} {f : Tk → Res E} {H : Nat} (hf : OkF s f H) : ∀ (m : Nat) (t : Tk) (acc l : List E) (t' : Tk), sumP s f m t acc = .ok l t' → Tok s t →
    ∃ l2, l = acc ++ l2 ∧ Tok s t' ∧ t.pl ≤ t'.pl ∧ (∀ x ∈ l2, Wf x) ∧ dpEs l2 ≤ H ∧ npEs l2 + l2.length ≤ t'.pl - t.pl ∧ sizeWs l2 + l2.length ≤ 2 * (t'.pl - t.pl)
  | 0, t, acc, l, t', h, _ => by cases h
  | m + 1, t, acc, l, t', h, ht => by
    unfold sumP at h
    split at h
    · rename_i hw
      obtain ⟨_, t1, h1, h⟩ := bind_ok h
      obtain ⟨y, t2, h2, h⟩ := bind_ok h
      have a1 := step_tok h1 ht
      have a2 := ht.lt.2.2 (isW_kind hw)
      obtain ⟨b1, b2, b3⟩ := hf _ _ _ a1.1 h2
      obtain ⟨l2, rfl, c2, c3, c4, c5, c6, c7⟩ := sum_okx hf m t2 _ l t' h b1
      have := b3.dep
      have := b3.np
      have := b3.wt
      refine ⟨y :: l2, by simp, c2, by omega, fun x hx => ?_, ?_, ?_, ?_⟩
      · rcases List.mem_cons.1 hx with rfl | hx
        · exact b3.wf
        · exact c4 x hx
      · rw [dpEs]; omega
      · rw [npEs, List.length_cons]; omega
      · rw [sizeWs, List.length_cons]; omega
    · cases h
      exact ⟨[], by simp, ht, Nat.le_refl _, by simp, by simp [dpEs], by simp [npEs], by simp [sizeWs]⟩
theorem expr_okx {s : List UInt8} {f : Tk → Res E} {H : Nat} (hf : OkF s f H) : OkF s (exprP s f) (H + 1) := by
  intro t x t' ht h
  unfold exprP at h
  obtain ⟨y, t1, h1, h⟩ := bind_ok h
  obtain ⟨l, t2, h2, h⟩ := bind_ok h
  simp only [Res.ok.injEq] at h
  obtain ⟨rfl, rfl⟩ := h
  obtain ⟨a1, a2, a3⟩ := hf _ _ _ ht h1
  obtain ⟨l2, hl, c2, c3, c4, c5, c6, c7⟩ := sum_okx hf _ _ _ _ _ h2 a1
  rw [List.nil_append] at hl
  subst hl
  refine ⟨c2, by omega, ?_⟩
  unfold catE
  split
  · exact a3.up (by omega) (by omega)
  · rename_i hne
    have : 1 ≤ l.length := by cases l with | nil => exact absurd rfl hne | cons _ _ => simp
    have e1 := a3.dep
    have e2 := a3.np
    have e3 := a3.wt
    have e4 := a3.wf
    refine ⟨.mk 3 _ _ (by unfold partOk; simp; omega) (fun x hx => ?_), ?_, ?_, ?_⟩
    · rcases List.mem_cons.1 hx with rfl | hx
      · exact e4
      · exact c4 x hx
    · rw [dpE, dpEs]; omega
    · rw [npE, npEs]; omega
    · rw [sizeW, sizeWs]; show 1 + 0 + _ ≤ _; omega
theorem term_okx (s : List UInt8) : ∀ h, OkF s (termP s h) (2 * h - 1)
  | 0, t, x, t', ht, h => by
    unfold termP at h
    split at h <;> cases h
  | n + 1, t, x, t', ht, h => by
    have ih : OkF s (exprP s (termP s n)) (2 * n) := by
      cases n with
      | zero =>
        intro t x t' ht h
        obtain ⟨a, b, c⟩ := expr_okx (term_okx s 0) t x t' ht h
        unfold exprP at h
        obtain ⟨y, t1, h1, h⟩ := bind_ok h
        unfold termP at h1
        split at h1 <;> cases h1
      | succ n => exact expr_okx (term_okx s (n + 1))
    unfold termP at h
    split at h
    · cases h
    · rename_i hok
      obtain ⟨_, t1, h1, h⟩ := bind_ok h
      obtain ⟨s1, s2⟩ := step_tok h1 ht
      have hk0 : t.kind ≠ 0 := by
        intro e
        apply hok
        simp [termOk, isW, e]
      obtain ⟨q1, q2, q3⟩ := ht.lt
      have q3 := q3 hk0
      split at h
      · cases h
        refine ⟨s1, by omega, .mk 1 _ _ (by unfold partOk; simp) (by simp), ?_, ?_, ?_⟩
        · rw [dpE, dpEs]; omega
        · rw [npE, npEs]; omega
        · rw [sizeW, sizeWs]; omega
      · rename_i hk3
        split at h
        · obtain ⟨x1, t2, h2, h⟩ := bind_ok h
          obtain ⟨_, t3, h3, h⟩ := bind_ok h
          cases h
          obtain ⟨b1, b2, b3⟩ := ih _ _ _ s1 h2
          obtain ⟨c1, c2⟩ := want_tok h3 b1
          exact ⟨c1, by omega, b3.up (by omega) (by omega)⟩
        · split at h
          · obtain ⟨x1, t2, h2, h⟩ := bind_ok h
            obtain ⟨_, t3, h3, h⟩ := bind_ok h
            obtain ⟨x2, t4, h4, h⟩ := bind_ok h
            obtain ⟨_, t5, h5, h⟩ := bind_ok h
            obtain ⟨x3, t6, h6, h⟩ := bind_ok h
            obtain ⟨_, t7, h7, h⟩ := bind_ok h
            obtain ⟨x4, t8, h8, h⟩ := bind_ok h
            cases h
            obtain ⟨b1, b2, b3⟩ := ih _ _ _ s1 h2
            obtain ⟨c1, c2⟩ := want_tok h3 b1
            obtain ⟨d1, d2, d3⟩ := ih _ _ _ c1 h4
            obtain ⟨e1, e2⟩ := want_tok h5 d1
            obtain ⟨f1, f2, f3⟩ := ih _ _ _ e1 h6
            obtain ⟨g1, g2⟩ := want_tok h7 f1
            obtain ⟨i1, i2, i3⟩ := ih _ _ _ g1 h8
            have := b3.dep
            have := d3.dep
            have := f3.dep
            have := i3.dep
            have := b3.np
            have := d3.np
            have := f3.np
            have := i3.np
            have := b3.wt
            have := d3.wt
            have := f3.wt
            have := i3.wt
            refine ⟨i1, by omega, .mk 4 _ _ (by unfold partOk; simp) (fun x hx => ?_), ?_, ?_, ?_⟩
            · simp only [List.mem_cons, List.not_mem_nil, or_false] at hx
              rcases hx with rfl | rfl | rfl | rfl
              · exact b3.wf
              · exact d3.wf
              · exact f3.wf
              · exact i3.wf
            · simp only [dpE, dpEs]; omega
            · simp only [npE, npEs]; omega
            · simp only [sizeW, sizeWs]; show 1 + 0 + _ ≤ _; omega
          · split at h
            · split at h
              · rename_i hnm
                obtain ⟨_, t2, h2, h⟩ := bind_ok h
                obtain ⟨_, t3, h3, h⟩ := bind_ok h
                obtain ⟨x1, t4, h4, h⟩ := bind_ok h
                obtain ⟨_, t5, h5, h⟩ := bind_ok h
                obtain ⟨x2, t6, h6, h⟩ := bind_ok h
                cases h
                obtain ⟨u1, u2, u3⟩ := s1.lt
                obtain ⟨b1, b2⟩ := step_tok h2 s1
                obtain ⟨c1, c2⟩ := want_tok h3 b1
                obtain ⟨d1, d2, d3⟩ := ih _ _ _ c1 h4
                obtain ⟨e1, e2⟩ := want_tok h5 d1
                obtain ⟨f1, f2, f3⟩ := ih _ _ _ e1 h6
                have := d3.dep
                have := f3.dep
                have := d3.np
                have := f3.np
                have := d3.wt
                have := f3.wt
                refine ⟨f1, by omega, .mk 5 _ _ (by unfold partOk; simp [hnm.2]) (fun x hx => ?_), ?_, ?_, ?_⟩
                · simp only [List.mem_cons, List.not_mem_nil, or_false] at hx
                  rcases hx with rfl | rfl
                  · exact d3.wf
                  · exact f3.wf
                · simp only [dpE, dpEs]; omega
                · simp only [npE, npEs]; omega
                · simp only [sizeW, sizeWs]; omega
              · cases h
            · cases h
              rename_i w1 w2 w3
              have hname : nameL t.s.data.toList = true := by
                have hok' : termOk t = true := by simpa using hok
                unfold termOk at hok'
                rw [Bool.eq_false_iff.2 w1, Bool.eq_false_iff.2 w2, Bool.eq_false_iff.2 w3, show (t.kind == 3) = false by simpa using hk3] at hok'
                simp at hok'
                exact hok'.2
              refine ⟨s1, by omega, .mk 2 _ _ (by unfold partOk; simp [hname]) (by simp), ?_, ?_, ?_⟩
              · rw [dpE, dpEs]; omega
              · rw [npE, npEs]; omega
              · rw [sizeW, sizeWs]; omega
theorem top_okx (s : List UInt8) : OkF s (exprP s (termP s 32)) 64 := expr_okx (term_okx s 32)
def okFd (f : Int × E × E) : Prop := (f.1 = 1 ∨ f.1 = 2 ∨ f.1 = 3) ∧ OkX f.2.1 64 4096 ∧ OkX f.2.2 64 4096
theorem fieldK_val (t : Tk) (h : fieldK t ≠ 0) : ((fieldK t : Nat) : Int) = 1 ∨ ((fieldK t : Nat) : Int) = 2 ∨ ((fieldK t : Nat) : Int) = 3 := by
  unfold fieldK at *
  split at h <;> rename_i h1
  · rw [if_pos h1]; exact .inl rfl
  · rw [if_neg h1]
    split at h <;> rename_i h2
    · rw [if_pos h2]; exact .inr (.inl rfl)
    · rw [if_neg h2]
      split at h <;> rename_i h3
      · rw [if_pos h3]; exact .inr (.inr rfl)
      · exact absurd rfl h
theorem Tok.small {s : List UInt8} {t : Tk} (h : Tok s t) (hs : s.length ≤ 4096) : t.pl ≤ 4096 := by
  have := h.lt.1
  have := h.le
  omega
theorem fields_okx {s : List UInt8} (hs : s.length ≤ 4096) : ∀ (m : Nat) (t : Tk) (acc l : List (Int × E × E)) (t' : Tk), fieldsP s (exprP s (termP s 32)) m t acc = .ok l t' → Tok s t → acc.length ≤ 20 → (∀ x ∈ acc, okFd x) → (∀ x ∈ l, okFd x) ∧ l.length ≤ 20
  | 0, t, acc, l, t', h, _, _, _ => by cases h
  | m + 1, t, acc, l, t', h, ht, hn, ha => by
    unfold fieldsP at h
    split at h
    · cases h
      exact ⟨ha, hn⟩
    · split at h
      · cases h
      · rename_i hk
        split at h
        · cases h
        · obtain ⟨_, t1, h1, h⟩ := bind_ok h
          obtain ⟨a, t2, h2, h⟩ := bind_ok h
          obtain ⟨b, t3, h3, h⟩ := bind_ok h
          obtain ⟨s1, -⟩ := step_tok h1 ht
          obtain ⟨a1, a2, a3⟩ := top_okx s _ _ _ s1 h2
          obtain ⟨b1, b2, b3⟩ := top_okx s _ _ _ a1 h3
          refine fields_okx hs m t3 _ l t' h b1 (by simp; omega) (fun x hx => ?_)
          rw [List.mem_append, List.mem_singleton] at hx
          rcases hx with hx | rfl
          · exact ha x hx
          · exact ⟨fieldK_val t hk, a3.up (Nat.le_refl _) (by have := a1.small hs; omega), b3.up (Nat.le_refl _) (by have := b1.small hs; omega)⟩
/-- WHAT IS READ CAN BE -/
theorem parse_okx {s : List UInt8} {x : Src} (h : parseP s = .ok x) : OkX x.name 64 4096 ∧ OkX x.version 64 4096 ∧ x.fields.length ≤ 20 ∧ ∀ f ∈ x.fields, okFd f := by
  unfold parseP at h
  split at h
  · cases h
  · rename_i hs
    have hs : s.length ≤ 4096 := by omega
    cases hr : sourceP s with
    | bad p e => rw [hr] at h; cases h
    | ok y t =>
      rw [hr] at h
      simp only [Out.ok.injEq] at h
      subst h
      unfold sourceP at hr
      cases h0 : tokAt s 0 with
      | bad p => rw [h0] at hr; cases hr
      | ok t0 =>
        rw [h0] at hr
        simp only at hr
        obtain ⟨k0, -⟩ := tok_tok (Nat.zero_le _) h0
        obtain ⟨_, t1, h1, hr⟩ := bind_ok hr
        obtain ⟨a, t2, h2, hr⟩ := bind_ok hr
        obtain ⟨_, t3, h3, hr⟩ := bind_ok hr
        obtain ⟨b, t4, h4, hr⟩ := bind_ok hr
        obtain ⟨l, t5, h5, hr⟩ := bind_ok hr
        cases hr
        obtain ⟨k1, -⟩ := want_tok h1 k0
        obtain ⟨k2, -, o2⟩ := top_okx s _ _ _ k1 h2
        obtain ⟨k3, -⟩ := want_tok h3 k2
        obtain ⟨k4, -, o4⟩ := top_okx s _ _ _ k3 h4
        have hf := fields_okx hs _ _ _ _ _ h5 k4 (by simp) (by simp)
        exact ⟨o2.up (Nat.le_refl _) (by have := k2.small hs; omega), o4.up (Nat.le_refl _) (by have := k4.small hs; omega), hf.2, hf.1⟩
theorem parse_good {s : List UInt8} {x : Src} (h : parseP s = .ok x) : goodS x = true := by
  obtain ⟨h1, h2, h3, h4⟩ := parse_okx h
  simp only [goodS, Bool.and_eq_true, decide_eq_true_eq, List.all_eq_true]
  refine ⟨⟨⟨h1.good (Nat.le_refl _) (Nat.le_refl _), h2.good (Nat.le_refl _) (Nat.le_refl _)⟩, h3⟩, fun f hf => ?_⟩
  obtain ⟨a, b, c⟩ := h4 f hf
  exact ⟨⟨⟨by omega, by omega⟩, b.good (Nat.le_refl _) (Nat.le_refl _)⟩, c.good (Nat.le_refl _) (Nat.le_refl _)⟩
theorem part_kind {k : Int} {s : List UInt8} {n : Nat} (h : partOk k s n = true) : 1 ≤ k ∧ k ≤ 5 := by
  simp only [partOk, Bool.or_eq_true, Bool.and_eq_true, beq_iff_eq, decide_eq_true_eq] at h
  omega
theorem sizeWs_kid {l : List E} {x : E} (h : x ∈ l) : sizeW x + l.length ≤ sizeWs l + 1 := by
  have h1 : ∀ x : E, 1 ≤ sizeW x := fun x => by cases x; rw [sizeW]; omega
  have h2 : ∀ l : List E, l.length ≤ sizeWs l := fun l => by
    induction l with
    | nil => simp
    | cons y l ih => rw [sizeWs, List.length_cons]; have := h1 y; omega
  induction l with
  | nil => simp at h
  | cons y l ih =>
    rw [sizeWs, List.length_cons]
    rcases List.mem_cons.1 h with rfl | h
    · have := h2 l; omega
    · have := ih h; have := h1 y; omega
theorem sizeWs_len (l : List E) : l.length ≤ sizeWs l := by
  cases l with
  | nil => simp
  | cons x l => have := sizeWs_kid (List.mem_cons_self (a := x) (l := l)); have h1 : 1 ≤ sizeW x := by cases x; rw [sizeW]; omega
                omega
theorem sml_of (x : E) : Wf x → sizeW x ≤ 20000 → Sml x := by
  refine Eind (P := fun x => Wf x → sizeW x ≤ 20000 → Sml x) (fun k s ks ih hw hs => ?_) x
  obtain ⟨hp, hk⟩ := wf_mk hw
  have := part_kind hp
  rw [sizeW] at hs
  have := sizeWs_len ks
  refine .mk k s ks (by omega) (by omega) (by omega) (by omega) (fun y hy => ih y hy (hk y hy) ?_)
  have := sizeWs_kid hy
  have : 1 ≤ ks.length := List.length_pos_of_mem hy
  omega
end Rc
end Go.Proofs.YtflhmoelenmomaaGreatDoor
