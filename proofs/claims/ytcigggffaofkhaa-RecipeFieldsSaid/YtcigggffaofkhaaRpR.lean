/-
  Plain: what is printed is read as it is.
-/
import Derived.Test.YtcigggffaofkhaaRpP
namespace Go.Proofs.Ytcigggffaofkhaa
open Go.RowKit
namespace Rc

/-! tokens at a place -/
def okSp (l : List UInt8) : Prop := ∀ c ∈ l, c = 32 ∨ c = 10
def sepr (r : List UInt8) : Prop := ∀ c l, r = c :: l → letter c = false
theorem okSp_nil : okSp [] := fun c h => by simp at h
theorem okSp_sp : okSp [32] := fun c h => by simp at h; exact .inl h
theorem okSp_nl : okSp [10] := fun c h => by simp at h; exact .inr h
theorem sepr_nil : sepr [] := fun c l h => by simp at h
theorem sepr_cons {c : UInt8} {l : List UInt8} (h : letter c = false) : sepr (c :: l) := fun d m e => by cases e; exact h
theorem skip_sp : ∀ (sp l : List UInt8), okSp sp → skipL false (sp ++ l) = sp.length + skipL false l
  | [], l, _ => by simp
  | c :: sp, l, h => by
    have ih := skip_sp sp l fun d hd => h d (List.mem_cons_of_mem _ hd)
    have hc : blank c = true ∧ (c == 35 || (false && c != 10)) = false := by
      rcases h c (List.mem_cons_self ..) with rfl | rfl <;> decide
    rw [List.cons_append, skipL, if_pos (by simp [hc.1]), hc.2, ih, List.length_cons]
    omega
theorem skip_no {l : List UInt8} (h : ∀ c m, l = c :: m → blank c = false) : skipL false l = 0 := by
  cases l with
  | nil => rfl
  | cons c m => rw [skipL, if_neg (by simp [h c m rfl])]
theorem drop_app {s a l : List UInt8} {p : Nat} (h : s.drop p = a ++ l) : s.drop (p + a.length) = l := by
  rw [← List.drop_drop, h, List.drop_left]
theorem tokp_at {s sp l : List UInt8} {p : Nat} (hsp : okSp sp) (h : s.drop p = sp ++ l) (hl : ∀ c m, l = c :: m → blank c = false) : tokAt s p = tokP s (p + sp.length) ∧ s.drop (p + sp.length) = l := by
  refine ⟨?_, drop_app h⟩
  unfold tokAt
  rw [h, skip_sp _ _ hsp, skip_no hl, Nat.add_zero]
theorem letter_blank {c : UInt8} (h : letter c = true) : blank c = false ∧ c ≠ 34 ∧ sign c = false := by
  have key : ∀ n : Fin 256, letter (UInt8.ofNat n.1) = true → blank (UInt8.ofNat n.1) = false ∧ UInt8.ofNat n.1 ≠ 34 ∧ sign (UInt8.ofNat n.1) = false := by decide +kernel
  have := key ⟨c.toNat, c.toNat_lt⟩
  simpa using this (by simpa using h)
theorem takeW {w r : List UInt8} (hw : w.all letter = true) (hr : sepr r) : (w ++ r).takeWhile letter = w := by
  induction w with
  | nil =>
    cases r with
    | nil => rfl
    | cons c r => rw [List.nil_append, List.takeWhile_cons_of_neg (by rw [hr c r rfl]; decide)]
  | cons c w ih =>
    rw [List.all_cons, Bool.and_eq_true] at hw
    rw [List.cons_append, List.takeWhile_cons_of_pos hw.1, ih hw.2]
theorem tokp_word {s sp w r : List UInt8} {p : Nat} (hsp : okSp sp) (h : s.drop p = sp ++ (w ++ r)) (h0 : w ≠ []) (hw : w.all letter = true) (hr : sepr r) : tokAt s p = .ok ⟨1, ⟨w.toArray⟩, p + sp.length, p + sp.length + w.length⟩ := by
  obtain ⟨c, w', rfl⟩ : ∃ c w', w = c :: w' := by cases w with | nil => exact absurd rfl h0 | cons c w' => exact ⟨c, w', rfl⟩
  have hc : letter c = true := by rw [List.all_cons, Bool.and_eq_true] at hw; exact hw.1
  obtain ⟨b1, b2, b3⟩ := letter_blank hc
  obtain ⟨e1, e2⟩ := tokp_at hsp h (fun d m e => by cases e; exact b1)
  have hn : wordN (c :: (w' ++ r)) = (c :: w').length := by
    unfold wordN
    have := takeW hw hr
    rw [List.cons_append] at this
    rw [this]
  rw [e1, tokP, e2]
  simp only [List.cons_append]
  rw [if_neg b2, if_neg (by rw [b3]; decide), hn, if_neg (by simp)]
  simp
theorem tokp_sign {s sp r : List UInt8} {c : UInt8} {p : Nat} (hsp : okSp sp) (h : s.drop p = sp ++ (c :: r)) (hc : sign c = true) : tokAt s p = .ok ⟨2, ⟨#[c]⟩, p + sp.length, p + sp.length + 1⟩ := by
  have key : ∀ n : Fin 256, sign (UInt8.ofNat n.1) = true → blank (UInt8.ofNat n.1) = false ∧ UInt8.ofNat n.1 ≠ 34 := by decide +kernel
  obtain ⟨b1, b2⟩ : blank c = false ∧ c ≠ 34 := by
    have := key ⟨c.toNat, c.toNat_lt⟩
    simpa using this (by simpa using hc)
  obtain ⟨e1, e2⟩ := tokp_at hsp h (fun d m e => by cases e; exact b1)
  rw [e1, tokP, e2]
  simp only
  rw [if_neg b2, if_pos hc]
theorem hexv_dig : ∀ n : Fin 16, hexv (hexDig n.1) = n.1 := by decide +kernel
theorem esc_read : ∀ (x : List UInt8) (r : List UInt8) (f : Nat), (x.flatMap escB).length < f → strF f (x.flatMap escB ++ 34 :: r) = some (x, (x.flatMap escB).length + 1)
  | [], r, f, h => by
    cases f with
    | zero => omega
    | succ f => simp [strF]
  | c :: x, r, f, h => by
    cases f with
    | zero => omega
    | succ f =>
      rw [List.flatMap_cons, List.length_append] at h
      by_cases g : c.toNat < 32 ∨ 126 < c.toNat ∨ c = 34 ∨ c = 92
      · have he : escB c = [92, hexDig (c.toNat / 16), hexDig (c.toNat % 16)] := by unfold escB; rw [if_pos g]
        have hlt := c.toNat_lt
        have h1 := hexv_dig ⟨c.toNat / 16, by omega⟩
        have h2 := hexv_dig ⟨c.toNat % 16, by omega⟩
        simp only at h1 h2
        rw [he] at h
        simp only [List.length_cons, List.length_nil] at h
        have ih := esc_read x r f (by omega)
        rw [List.flatMap_cons, he]
        simp only [List.cons_append, List.nil_append, strF]
        rw [if_neg (by decide), if_neg (by decide), if_neg (by decide), h1, h2, if_neg (by omega), ih]
        simp only [Option.map_some, List.length_cons]
        rw [show UInt8.ofNat (16 * (c.toNat / 16) + c.toNat % 16) = c by rw [Nat.div_add_mod]; simp]
      · have he : escB c = [c] := by unfold escB; rw [if_neg g]
        rw [he] at h
        simp only [List.length_cons, List.length_nil] at h
        have ih := esc_read x r f (by omega)
        rw [List.flatMap_cons, he]
        simp only [List.cons_append, List.nil_append, strF]
        rw [if_neg (fun e => g (.inr (.inr (.inl e)))), if_neg (fun e => g (e.elim .inl (fun e => .inr (.inl e)))), if_pos (fun e => g (.inr (.inr (.inr e)))), ih]
        simp
theorem tokp_text {s sp x r : List UInt8} {p : Nat} (hsp : okSp sp) (h : s.drop p = sp ++ (quoteL x ++ r)) : tokAt s p = .ok ⟨3, ⟨x.toArray⟩, p + sp.length, p + sp.length + (quoteL x).length⟩ := by
  have hq : quoteL x ++ r = 34 :: (x.flatMap escB ++ 34 :: r) := by simp [quoteL]
  rw [hq] at h
  obtain ⟨e1, e2⟩ := tokp_at hsp h (fun d m e => by cases e; decide)
  have hs : strL (x.flatMap escB ++ 34 :: r) = some (x, (x.flatMap escB).length + 1) := esc_read x r _ (by simp; omega)
  rw [e1, tokP, e2]
  simp only
  rw [if_pos trivial, hs]
  simp only [quoteL, List.length_cons, List.length_append, List.length_nil]
  congr 2
  omega
theorem tokp_fin {s sp : List UInt8} {p : Nat} (hsp : okSp sp) (h : s.drop p = sp) : tokAt s p = .ok ⟨0, ⟨#[]⟩, p + sp.length, p + sp.length⟩ := by
  obtain ⟨e1, e2⟩ := tokp_at (l := []) hsp (by simpa using h) (fun d m e => by cases e)
  rw [e1, tokP, e2]

/-! what is read -/
def Rd {α : Type} (r : Res α) (x : α) (t : Tk) : Prop := r = .ok x t ∨ ∃ q, r = .bad q 4
theorem Rd.bind {α β : Type} {r : Res α} {x : α} {t : Tk} {f : α → Tk → Res β} {y : β} {t' : Tk} (h : Rd r x t) (g : Rd (f x t) y t') : Rd (r.bind f) y t' := by
  rcases h with rfl | ⟨q, rfl⟩
  · exact g
  · exact .inr ⟨q, rfl⟩
theorem Rd.ok {α : Type} (x : α) (t : Tk) : Rd (.ok x t) x t := .inl rfl
theorem step_of {s : List UInt8} {t t' : Tk} (h : tokAt s t.fin = .ok t') : stepT s t = .ok () t' := by unfold stepT; rw [h]
theorem step_rd {s : List UInt8} {t t' : Tk} (h : tokAt s t.fin = .ok t') : Rd (stepT s t) () t' := .inl (step_of h)
theorem want_rd {s w : List UInt8} {t t' : Tk} (hw : isW t w = true) (h : tokAt s t.fin = .ok t') : Rd (wantT s w t) () t' := by
  unfold wantT
  rw [if_pos hw]
  exact step_rd h
theorem isW_mk {k : Nat} (w : List UInt8) (p q : Nat) (hk : k = 1 ∨ k = 2) : isW ⟨k, ⟨w.toArray⟩, p, q⟩ w = true := by
  rcases hk with rfl | rfl <;> simp [isW]
theorem isW_no {k : Nat} {w u : List UInt8} (p q : Nat) (h : w ≠ u) : isW ⟨k, ⟨w.toArray⟩, p, q⟩ u = false := by simp [isW, h]
/-- read behind blanks, the text T gives x where f reads, and no + begins it; cond: no + follows -/
def Reads (f : List UInt8 → Nat → Tk → Res E) (cond : Bool) (x : E) (T : List UInt8) : Prop :=
  ∀ (s : List UInt8) (p : Nat) (sp r : List UInt8), okSp sp → s.drop p = sp ++ (T ++ r) → sepr r → ∃ t, tokAt s p = .ok t ∧ isW t [43] = false ∧ t.kind ≠ 0 ∧
    ∀ h t', tokAt s (p + sp.length + T.length) = .ok t' → (cond = true → isW t' [43] = false) → Rd (f s h t) x t'
abbrev readE (s : List UInt8) (h : Nat) (t : Tk) : Res E := exprP s (termP s h) t
theorem expr_of_term {x : E} {T : List UInt8} (H : Reads termP true x T) : Reads readE true x T := by
  intro s p sp r hsp hd hr
  obtain ⟨t, h1, h2, h3, h4⟩ := H s p sp r hsp hd hr
  refine ⟨t, h1, h2, h3, fun h t' ht hc => ?_⟩
  refine Rd.bind (h4 h t' ht hc) ?_
  refine Rd.bind (x := []) (t := t') ?_ (.inl (by simp [catE]))
  rw [sumP, if_neg (by rw [hc rfl]; decide)]
  exact Rd.ok _ _
theorem weaken {f : List UInt8 → Nat → Tk → Res E} {x : E} {T : List UInt8} (H : Reads f false x T) : Reads f true x T := by
  intro s p sp r hsp hd hr
  obtain ⟨t, h1, h2, h3, h4⟩ := H s p sp r hsp hd hr
  exact ⟨t, h1, h2, h3, fun h t' ht _ => h4 h t' ht (fun h => by cases h)⟩
theorem drop2 {s a b l : List UInt8} {p : Nat} (h : s.drop p = a ++ (b ++ l)) : s.drop (p + a.length + b.length) = l := drop_app (drop_app h)
/-- a token that begins a term: too deep, or the reading goes on -/
theorem termq_deep {s : List UInt8} {h : Nat} {t : Tk} {x : E} {t' : Tk} (ht : termOk t = true) (hg : ∀ h', h = h' + 1 → Rd (termP s (h' + 1) t) x t') : Rd (termP s h t) x t' := by
  cases h with
  | zero =>
    rw [termP, if_pos ht]
    exact .inr ⟨_, rfl⟩
  | succ h' => exact hg h' rfl
/-- between brackets -/
theorem reads_br {x : E} {T : List UInt8} (H : Reads readE true x T) : Reads termP false x ([40] ++ (T ++ [41])) := by
  intro s p sp r hsp hd hr
  have hd0 : s.drop p = sp ++ (40 :: (T ++ (41 :: r))) := by rw [hd]; simp
  have h0 := tokp_sign hsp hd0 (by decide)
  have hd1 : s.drop (p + sp.length + 1) = [] ++ (T ++ (41 :: r)) := drop_app (a := [40]) (drop_app hd0)
  obtain ⟨t1, h1, h2, h3, h4⟩ := H s _ [] _ okSp_nil hd1 (sepr_cons (by decide))
  have hd2 : s.drop (p + sp.length + 1 + T.length) = [] ++ (41 :: r) := by simpa using drop2 hd1
  have h5 := tokp_sign okSp_nil hd2 (by decide)
  refine ⟨_, h0, isW_no (w := [40]) _ _ (by decide), by simp, fun h t' ht _ => termq_deep ?_ ?_⟩
  · rfl
  · rintro h' rfl
    rw [termP, if_neg (by rw [show termOk _ = true from rfl]; decide)]
    refine Rd.bind (step_rd h1) ?_
    rw [if_neg (by simp), if_pos (by exact isW_mk (k := 2) [40] _ _ (.inr rfl))]
    refine Rd.bind (h4 h' _ (by simpa using h5) (fun _ => isW_no (w := [41]) _ _ (by decide))) ?_
    refine Rd.bind (want_rd (isW_mk (k := 2) [41] _ _ (.inr rfl)) ?_) (Rd.ok _ _)
    rw [← ht]
    congr 1
    simp
    omega
theorem reads_text (x : ByteArray) : Reads termP false (.mk 1 x []) (quoteL x.data.toList) := by
  intro s p sp r hsp hd hr
  have h0 := tokp_text hsp hd
  refine ⟨_, h0, rfl, by simp, fun h t' ht _ => termq_deep rfl ?_⟩
  rintro h' rfl
  rw [termP, if_neg (by rw [show termOk _ = true from rfl]; decide)]
  refine Rd.bind (step_rd ht) ?_
  rw [if_pos rfl]
  exact Rd.ok _ _
theorem name_parts {w : List UInt8} (h : nameL w = true) : w ≠ [] ∧ w.all letter = true ∧ keyW.contains w = false ∧ (∃ c l, w = c :: l ∧ letter c = true) := by
  simp only [nameL, Bool.and_eq_true, Bool.not_eq_true', decide_eq_true_eq] at h
  obtain ⟨⟨⟨⟨h1, h2⟩, h3⟩, h4⟩, h5⟩ := h
  refine ⟨fun e => by rw [e] at h1; simp at h1, h3, h5, ?_⟩
  cases w with
  | nil => simp at h1
  | cons c l => rw [List.all_cons, Bool.and_eq_true] at h3; exact ⟨c, l, rfl, h3.1⟩
theorem name_ne {w : List UInt8} (h : nameL w = true) : w ≠ [40] ∧ w ≠ [43] ∧ w ≠ [105, 102] ∧ w ≠ [108, 101, 116] := by
  refine ⟨?_, ?_, ?_, ?_⟩ <;> (rintro rfl; revert h; decide)
theorem reads_name {x : ByteArray} (hn : nameL x.data.toList = true) : Reads termP false (.mk 2 x []) x.data.toList := by
  intro s p sp r hsp hd hr
  obtain ⟨a1, a2, a3, a4⟩ := name_parts hn
  obtain ⟨b1, b2, b3, b4⟩ := name_ne hn
  have h0 := tokp_word hsp hd a1 a2 hr
  have hx : (⟨x.data.toList.toArray⟩ : ByteArray) = x := by simp
  have hk : termOk ⟨1, ⟨x.data.toList.toArray⟩, p + sp.length, p + sp.length + x.data.toList.length⟩ = true := by unfold termOk; simp [hn]
  refine ⟨_, h0, isW_no _ _ b2, by simp, fun h t' ht _ => termq_deep hk ?_⟩
  rintro h' rfl
  rw [termP, if_neg (by rw [hk]; decide)]
  refine Rd.bind (step_rd ht) ?_
  rw [if_neg (by simp), if_neg (by rw [isW_no _ _ b1]; decide), if_neg (by rw [isW_no _ _ b3]; decide), if_neg (by rw [isW_no _ _ b4]; decide), hx]
  exact Rd.ok _ _
theorem wordq_at {s sp w r : List UInt8} {p : Nat} (hsp : okSp sp) (h : s.drop p = sp ++ (w ++ (32 :: r))) (h0 : w ≠ []) (hw : w.all letter = true) : tokAt s p = .ok ⟨1, ⟨w.toArray⟩, p + sp.length, p + sp.length + w.length⟩ ∧ s.drop (p + sp.length + w.length) = 32 :: r :=
  ⟨tokp_word hsp h h0 hw (sepr_cons (by decide)), drop2 h⟩
theorem sign_at {s sp r : List UInt8} {c : UInt8} {p : Nat} (hsp : okSp sp) (h : s.drop p = sp ++ (c :: (32 :: r))) (hc : sign c = true) : tokAt s p = .ok ⟨2, ⟨#[c]⟩, p + sp.length, p + sp.length + 1⟩ ∧ s.drop (p + sp.length + 1) = 32 :: r :=
  ⟨tokp_sign hsp h hc, drop_app (a := [c]) (drop_app h)⟩
theorem reads_if {a b c d : E} {A B C D : List UInt8} (ha : Reads readE true a A) (hb : Reads readE true b B) (hc : Reads readE true c C) (hd : Reads readE true d D) :
    Reads termP true (.mk 4 ⟨#[]⟩ [a, b, c, d]) (wIf ++ (A ++ (wEq ++ (B ++ (wThen ++ (C ++ (wElse ++ D))))))) := by
  intro s p sp r hsp h hr
  have d0 : s.drop p = sp ++ ([105, 102] ++ (32 :: (A ++ ([32] ++ (61 :: (32 :: (B ++ ([32] ++ ([116, 104, 101, 110] ++ (32 :: (C ++ ([32] ++ ([101, 108, 115, 101] ++ (32 :: (D ++ r))))))))))))))) := by rw [h]; simp [wIf, wEq, wThen, wElse]
  obtain ⟨t0, e0⟩ := wordq_at hsp d0 (by decide) (by decide)
  obtain ⟨ta, a1, a2, a3, a4⟩ := ha s _ [32] _ okSp_sp e0 (sepr_cons (by decide))
  have e1 := drop2 (a := [32]) e0
  obtain ⟨t1, e2⟩ := sign_at okSp_sp e1 (by decide)
  obtain ⟨tb, b1, b2, b3, b4⟩ := hb s _ [32] _ okSp_sp e2 (sepr_cons (by decide))
  have e3 := drop2 (a := [32]) e2
  obtain ⟨t2, e4⟩ := wordq_at okSp_sp e3 (by decide) (by decide)
  obtain ⟨tc, c1, c2, c3, c4⟩ := hc s _ [32] _ okSp_sp e4 (sepr_cons (by decide))
  have e5 := drop2 (a := [32]) e4
  obtain ⟨t3, e6⟩ := wordq_at okSp_sp e5 (by decide) (by decide)
  obtain ⟨td, d1, d2, d3, d4⟩ := hd s _ [32] _ okSp_sp e6 hr
  refine ⟨_, t0, isW_no (w := [105, 102]) _ _ (by decide), by simp, fun h' t' ht hcond => termq_deep rfl ?_⟩
  rintro h rfl
  rw [termP, if_neg (by rw [show termOk _ = true from rfl]; decide)]
  refine Rd.bind (step_rd a1) ?_
  rw [if_neg (by simp), if_neg (by rw [isW_no (w := [105, 102]) _ _ (by decide)]; decide), if_pos (isW_mk (k := 1) [105, 102] _ _ (.inl rfl))]
  refine Rd.bind (a4 h _ t1 fun _ => isW_no (w := [61]) _ _ (by decide)) ?_
  refine Rd.bind (want_rd (isW_mk (k := 2) [61] _ _ (.inr rfl)) b1) ?_
  refine Rd.bind (b4 h _ t2 fun _ => isW_no (w := [116, 104, 101, 110]) _ _ (by decide)) ?_
  refine Rd.bind (want_rd (isW_mk (k := 1) [116, 104, 101, 110] _ _ (.inl rfl)) c1) ?_
  refine Rd.bind (c4 h _ t3 fun _ => isW_no (w := [101, 108, 115, 101]) _ _ (by decide)) ?_
  refine Rd.bind (want_rd (isW_mk (k := 1) [101, 108, 115, 101] _ _ (.inl rfl)) d1) ?_
  refine Rd.bind (d4 h t' ?_ hcond) (Rd.ok _ _)
  rw [← ht]
  congr 1
  simp [wIf, wEq, wThen, wElse]
  omega
theorem reads_let {n : ByteArray} {a b : E} {A B : List UInt8} (hn : nameL n.data.toList = true) (ha : Reads readE true a A) (hb : Reads readE true b B) :
    Reads termP true (.mk 5 n [a, b]) (wLet ++ (n.data.toList ++ (wEq ++ (A ++ (wIn ++ B))))) := by
  intro s p sp r hsp h hr
  obtain ⟨a1, a2, a3, a4⟩ := name_parts hn
  have hx : (⟨n.data.toList.toArray⟩ : ByteArray) = n := by simp
  have d0 : s.drop p = sp ++ ([108, 101, 116] ++ (32 :: (n.data.toList ++ (32 :: (61 :: (32 :: (A ++ ([32] ++ ([105, 110] ++ (32 :: (B ++ r))))))))))) := by rw [h]; simp [wLet, wEq, wIn]
  obtain ⟨t0, e0⟩ := wordq_at hsp d0 (by decide) (by decide)
  obtain ⟨tn, en⟩ := wordq_at (sp := [32]) okSp_sp e0 a1 a2
  obtain ⟨t1, e1⟩ := sign_at (sp := [32]) okSp_sp en (by decide)
  obtain ⟨ta, x1, x2, x3, x4⟩ := ha s _ [32] _ okSp_sp e1 (sepr_cons (by decide))
  have e2 := drop2 (a := [32]) e1
  obtain ⟨t2, e3⟩ := wordq_at okSp_sp e2 (by decide) (by decide)
  obtain ⟨tb, y1, y2, y3, y4⟩ := hb s _ [32] _ okSp_sp e3 hr
  refine ⟨_, t0, isW_no (w := [108, 101, 116]) _ _ (by decide), by simp, fun h' t' ht hcond => termq_deep rfl ?_⟩
  rintro h rfl
  rw [termP, if_neg (by rw [show termOk _ = true from rfl]; decide)]
  refine Rd.bind (step_rd tn) ?_
  rw [if_neg (by simp), if_neg (by rw [isW_no (w := [108, 101, 116]) _ _ (by decide)]; decide), if_neg (by rw [isW_no (w := [108, 101, 116]) _ _ (by decide)]; decide), if_pos (isW_mk (k := 1) [108, 101, 116] _ _ (.inl rfl)), if_pos ⟨rfl, hn⟩]
  refine Rd.bind (step_rd t1) ?_
  refine Rd.bind (want_rd (isW_mk (k := 2) [61] _ _ (.inr rfl)) x1) ?_
  refine Rd.bind (x4 h _ t2 fun _ => isW_no (w := [105, 110]) _ _ (by decide)) ?_
  refine Rd.bind (want_rd (isW_mk (k := 1) [105, 110] _ _ (.inl rfl)) y1) ?_
  refine Rd.bind (y4 h t' ?_ hcond) ?_
  · rw [← ht]
    congr 1
    simp [wLet, wEq, wIn]
    omega
  · rw [hx]
    exact Rd.ok _ _

/-! sums -/
def tailJ (l : List (List UInt8)) : List UInt8 := l.flatMap fun t => [32, 43, 32] ++ t
theorem join_tail : ∀ (t : List UInt8) (l : List (List UInt8)), joinP (t :: l) = t ++ tailJ l
  | t, [] => by simp [joinP, tailJ]
  | t, u :: l => by rw [joinP, join_tail u l]; simp [tailJ]
theorem sum_reads : ∀ (l : List (E × List UInt8)), (∀ q ∈ l, Reads termP false q.1 q.2) → ∀ (s : List UInt8) (p : Nat) (r : List UInt8) (t' : Tk), s.drop p = tailJ (l.map (·.2)) ++ r → sepr r →
    tokAt s (p + (tailJ (l.map (·.2))).length) = .ok t' → isW t' [43] = false → ∃ t, tokAt s p = .ok t ∧ ∀ (m h : Nat) (acc : List E), l.length < m → Rd (sumP s (termP s h) m t acc) (acc ++ l.map (·.1)) t'
  | [], _, s, p, r, t', hd, hr, ht, hp => by
    refine ⟨t', by simpa [tailJ] using ht, fun m h acc hm => ?_⟩
    obtain ⟨m, rfl⟩ : ∃ k, m = k + 1 := ⟨m - 1, by simp at hm; omega⟩
    rw [sumP, if_neg (by rw [hp]; decide)]
    simp only [List.map_nil, List.append_nil]
    exact Rd.ok _ _
  | (x, T) :: l, hl, s, p, r, t', hd, hr, ht, hp => by
    have hd0 : s.drop p = [32] ++ (43 :: (32 :: (T ++ (tailJ (l.map (·.2)) ++ r)))) := by rw [hd]; simp [tailJ]
    obtain ⟨t0, e0⟩ := sign_at okSp_sp hd0 (by decide)
    have hsep : sepr (tailJ (l.map (·.2)) ++ r) := by
      cases l with
      | nil => simpa [tailJ] using hr
      | cons q l => exact fun c m e => by simp [tailJ] at e; rw [← e.1]; decide
    obtain ⟨t1, h1, h2, h3, h4⟩ := hl (x, T) (List.mem_cons_self ..) s _ [32] _ okSp_sp e0 hsep
    have e1 := drop2 (a := [32]) e0
    obtain ⟨t2, g1, g2⟩ := sum_reads l (fun q hq => hl q (List.mem_cons_of_mem _ hq)) s _ r t' e1 hr (by
      rw [← ht]
      congr 1
      simp [tailJ]
      omega) hp
    refine ⟨_, t0, fun m h acc hm => ?_⟩
    obtain ⟨m, rfl⟩ : ∃ k, m = k + 1 := ⟨m - 1, by simp at hm; omega⟩
    rw [sumP, if_pos (isW_mk (k := 2) [43] _ _ (.inr rfl))]
    refine Rd.bind (step_rd h1) ?_
    refine Rd.bind (h4 h _ g1 (fun h => by cases h)) ?_
    have := g2 m h (acc ++ [x]) (by simp only [List.length_cons] at hm; omega)
    simpa using this
theorem tailJ_len (l : List (List UInt8)) : l.length ≤ (tailJ l).length := by
  induction l with
  | nil => simp
  | cons t l ih => simp only [tailJ, List.flatMap_cons, List.length_append, List.length_cons] at *; omega
theorem reads_cat {x : E} {T : List UInt8} {l : List (E × List UInt8)} (hx : Reads termP false x T) (hl : ∀ q ∈ l, Reads termP false q.1 q.2) (h0 : l ≠ []) : Reads readE true (.mk 3 ⟨#[]⟩ (x :: l.map (·.1))) (joinP (T :: l.map (·.2))) := by
  intro s p sp r hsp hd hr
  rw [join_tail] at hd
  have hd0 : s.drop p = sp ++ (T ++ (tailJ (l.map (·.2)) ++ r)) := by rw [hd]; simp
  have hsep : sepr (tailJ (l.map (·.2)) ++ r) := by
    cases l with
    | nil => exact absurd rfl h0
    | cons q l => exact fun c m e => by simp [tailJ] at e; rw [← e.1]; decide
  obtain ⟨t, h1, h2, h3, h4⟩ := hx s p sp _ hsp hd0 hsep
  refine ⟨t, h1, h2, h3, fun h t' ht hc => ?_⟩
  have e1 := drop2 hd0
  obtain ⟨t1, g1, g2⟩ := sum_reads l hl s _ r t' e1 hr (by
    rw [← ht, join_tail]
    congr 1
    simp
    omega) (hc rfl)
  have hlen : l.length ≤ s.length := by
    have := congrArg List.length e1
    have h5 := tailJ_len (l.map (·.2))
    rw [List.length_map] at h5
    rw [List.length_drop, List.length_append] at this
    omega
  refine Rd.bind (h4 h _ g1 (fun h => by cases h)) ?_
  refine Rd.bind (g2 _ h [] (by omega)) ?_
  rw [List.nil_append, catE, if_neg (by simp [h0])]
  exact Rd.ok _ _
theorem bts_map : ∀ l : List E, bts l = l.map fun x => brL x.kind (textE x)
  | [] => by rw [bts]; rfl
  | x :: l => by rw [bts, bts_map l]; rfl
theorem texts_map : ∀ l : List E, texts l = l.map textE
  | [] => by rw [texts]; rfl
  | x :: l => by rw [texts, texts_map l]; rfl
theorem wf_mk {k : Int} {s : ByteArray} {ks : List E} (h : Wf (.mk k s ks)) : partOk k s.data.toList ks.length = true ∧ ∀ x ∈ ks, Wf x := by
  cases h with
  | mk _ _ _ h1 h2 => exact ⟨h1, h2⟩
theorem empty_of {s : ByteArray} (h : s.data.toList.isEmpty = true) : s = ⟨#[]⟩ := by
  apply ByteArray.ext
  simpa using h
/-- whatever can be, its text is read as it: on its own, and in a sum -/
theorem reads_any (x : E) : Wf x → Reads readE true x (textE x) ∧ Reads termP false x (brL x.kind (textE x)) := by
  refine Eind (P := fun x => Wf x → Reads readE true x (textE x) ∧ Reads termP false x (brL x.kind (textE x))) (fun k s ks ih hw => ?_) x
  obtain ⟨hp, hk⟩ := wf_mk hw
  have ih' : ∀ y ∈ ks, Reads readE true y (textE y) ∧ Reads termP false y (brL y.kind (textE y)) := fun y hy => ih y hy (hk y hy)
  simp only [partOk, Bool.or_eq_true, Bool.and_eq_true, beq_iff_eq, decide_eq_true_eq] at hp
  rcases hp with (((⟨rfl, hn⟩ | ⟨⟨rfl, hn⟩, hs⟩) | ⟨⟨rfl, hn⟩, hs⟩) | ⟨⟨rfl, hn⟩, hs⟩) | ⟨⟨rfl, hn⟩, hs⟩
  · obtain rfl := List.length_eq_zero_iff.1 hn
    have ht : textE (.mk 1 s []) = quoteL s.data.toList := by rw [textE, if_pos rfl]
    rw [ht]
    exact ⟨expr_of_term (weaken (reads_text s)), reads_text s⟩
  · obtain rfl := List.length_eq_zero_iff.1 hn
    have ht : textE (.mk 2 s []) = s.data.toList := by rw [textE, if_neg (by decide), if_pos rfl]
    rw [ht]
    exact ⟨expr_of_term (weaken (reads_name hs)), reads_name hs⟩
  · obtain rfl := empty_of hs
    have ht : textE (.mk 3 ⟨#[]⟩ ks) = joinP (bts ks) := by rw [textE, if_neg (by decide), if_neg (by decide), if_pos rfl]
    have hr : Reads readE true (.mk 3 ⟨#[]⟩ ks) (joinP (bts ks)) := by
      match ks, hn, ih' with
      | y :: z :: l, _, ih' =>
        have := reads_cat (l := (z :: l).map fun y => (y, brL y.kind (textE y))) (ih' y (by simp)).2 (fun q hq => by
          obtain ⟨u, hu, rfl⟩ := List.mem_map.1 hq
          exact (ih' u (List.mem_cons_of_mem _ hu)).2) (by simp)
        rw [bts_map]
        simpa [Function.comp_def] using this
    rw [ht]
    refine ⟨hr, ?_⟩
    exact reads_br hr
  · obtain rfl := empty_of hs
    match ks, hn, ih' with
    | [a, b, c, d], _, ih' =>
      have ht : textE (.mk 4 ⟨#[]⟩ [a, b, c, d]) = wIf ++ (textE a ++ (wEq ++ (textE b ++ (wThen ++ (textE c ++ (wElse ++ textE d)))))) := by
        rw [textE, if_neg (by decide), if_neg (by decide), if_neg (by decide), if_pos rfl, texts_map]
        rfl
      rw [ht]
      have hr := expr_of_term (reads_if (ih' a (by simp)).1 (ih' b (by simp)).1 (ih' c (by simp)).1 (ih' d (by simp)).1)
      exact ⟨hr, reads_br hr⟩
  · match ks, hn, ih' with
    | [a, b], _, ih' =>
      have ht : textE (.mk 5 s [a, b]) = wLet ++ (s.data.toList ++ (wEq ++ (textE a ++ (wIn ++ textE b)))) := by
        rw [textE, if_neg (by decide), if_neg (by decide), if_neg (by decide), if_neg (by decide), if_pos rfl, texts_map]
        rfl
      rw [ht]
      have hr := expr_of_term (reads_let hs (ih' a (by simp)).1 (ih' b (by simp)).1)
      exact ⟨hr, reads_br hr⟩
end Rc
end Go.Proofs.Ytcigggffaofkhaa
