/-
  Plain: two texts whose tokens are alike are read alike.
-/
import Derived.Test.YtcigggffaofkhaaRrU
namespace Go.Proofs.Ytcigggffaofkhaa
open Go.RowKit
namespace Rc

/-- two readings that go on alike -/
inductive R (s s' : List UInt8) : Tk → Tk → Prop
  | fin (t t' : Tk) (hk : t.kind = 0) (hk' : t'.kind = 0) (hs : t.s = t'.s) (h : tokAt s t.fin = .ok t) (h' : tokAt s' t'.fin = .ok t') (hf : t.fin ≤ s.length) (hf' : t'.fin ≤ s'.length) : R s s' t t'
  | step (t t' u u' : Tk) (hk : t.kind = t'.kind) (hs : t.s = t'.s) (h : tokAt s t.fin = .ok u) (h' : tokAt s' t'.fin = .ok u') (hf : t.fin ≤ s.length) (hf' : t'.fin ≤ s'.length) (r : R s s' u u') : R s s' t t'
section
variable {s s' : List UInt8}
theorem R.same {t t' : Tk} (h : R s s' t t') : t.kind = t'.kind ∧ t.s = t'.s ∧ t.fin ≤ s.length ∧ t'.fin ≤ s'.length := by
  cases h with
  | fin _ _ hk hk' hs h h' hf hf' => exact ⟨by rw [hk, hk'], hs, hf, hf'⟩
  | step _ _ u u' hk hs h h' hf hf' r => exact ⟨hk, hs, hf, hf'⟩
theorem R.next {t t' : Tk} (h : R s s' t t') : ∃ u u', tokAt s t.fin = .ok u ∧ tokAt s' t'.fin = .ok u' ∧ R s s' u u' := by
  cases h with
  | fin _ _ hk hk' hs h h' hf hf' => exact ⟨t, t', h, h', .fin t t' hk hk' hs h h' hf hf'⟩
  | step _ _ u u' hk hs h h' hf hf' r => exact ⟨u, u', h, h', r⟩
def RR {α : Type} (s s' : List UInt8) : Res α → Res α → Prop
  | .ok x t, .ok x' t' => x = x' ∧ R s s' t t'
  | .bad _ e, .bad _ e' => e = e'
  | _, _ => False
theorem RR.bind {α β : Type} {r r' : Res α} {F F' : α → Tk → Res β} (h : RR s s' r r') (hF : ∀ x t t', r = .ok x t → r' = .ok x t' → R s s' t t' → RR s s' (F x t) (F' x t')) : RR s s' (r.bind F) (r'.bind F') := by
  cases r with
  | ok x t =>
    cases r' with
    | ok x' t' =>
      obtain ⟨rfl, h⟩ := h
      exact hF x t t' rfl rfl h
    | bad p e => cases h
  | bad p e =>
    cases r' with
    | ok x' t' => cases h
    | bad p' e' => exact h
theorem step_rr {t t' : Tk} (h : R s s' t t') : RR s s' (stepT s t) (stepT s' t') := by
  obtain ⟨u, u', h1, h2, h3⟩ := h.next
  unfold stepT
  rw [h1, h2]
  exact ⟨rfl, h3⟩
theorem isW_rr {t t' : Tk} (h : R s s' t t') (w : List UInt8) : isW t w = isW t' w := by
  unfold isW
  rw [h.same.1, h.same.2.1]
theorem want_rr {t t' : Tk} (h : R s s' t t') (w : List UInt8) : RR s s' (wantT s w t) (wantT s' w t') := by
  unfold wantT
  rw [isW_rr h]
  split
  · exact step_rr h
  · exact rfl
def Alike (s s' : List UInt8) (f f' : Tk → Res E) : Prop := ∀ t t', R s s' t t' → RR s s' (f t) (f' t')
theorem sum_rr {f f' : Tk → Res E} (hf : Alike s s' f f') (hp : Pg f) (hp' : Pg f') : ∀ (m m' : Nat) (t t' : Tk) (acc : List E), R s s' t t' → s.length - t.fin + 1 ≤ m → s'.length - t'.fin + 1 ≤ m' → RR s s' (sumP s f m t acc) (sumP s' f' m' t' acc)
  | 0, _, _, _, _, _, h1, _ => by omega
  | _, 0, _, _, _, _, _, h2 => by omega
  | m + 1, m' + 1, t, t', acc, h, h1, h2 => by
    unfold sumP
    rw [isW_rr h]
    split
    · refine (step_rr h).bind fun _ t1 t1' e1 e1' r1 => (hf _ _ r1).bind fun y t2 t2' e2 e2' r2 => ?_
      have a1 := step_prog e1
      have a1' := step_prog e1'
      have a2 := hp _ _ _ e2
      have a2' := hp' _ _ _ e2'
      have a3 := a1.2 a2.1
      have a3' := a1'.2 a2'.1
      have b := r2.same
      exact sum_rr hf hp hp' m m' t2 t2' _ r2 (by omega) (by omega)
    · exact ⟨rfl, h⟩
theorem expr_rr {f f' : Tk → Res E} (hf : Alike s s' f f') (hp : Pg f) (hp' : Pg f') : Alike s s' (exprP s f) (exprP s' f') := by
  intro t t' h
  unfold exprP
  refine (hf _ _ h).bind fun x t1 t1' e1 e1' r1 => (sum_rr hf hp hp' _ _ _ _ _ r1 (by omega) (by omega)).bind fun l t2 t2' e2 e2' r2 => ?_
  exact ⟨rfl, r2⟩
theorem termOk_rr {t t' : Tk} (h : R s s' t t') : termOk t = termOk t' := by
  unfold termOk
  rw [isW_rr h, isW_rr h, isW_rr h, h.same.1, h.same.2.1]
theorem term_rr : ∀ h, Alike s s' (termP s h) (termP s' h)
  | 0, t, t', r => by
    unfold termP
    rw [termOk_rr r]
    split
    · exact rfl
    · exact rfl
  | h + 1, t, t', r => by
    have ih := expr_rr (term_rr h) (term_prog s h) (term_prog s' h)
    unfold termP
    rw [termOk_rr r, isW_rr r, isW_rr r, isW_rr r, r.same.1, r.same.2.1]
    split
    · exact rfl
    · refine (step_rr r).bind fun _ t1 t1' e1 e1' r1 => ?_
      split
      · exact ⟨rfl, r1⟩
      · split
        · refine (ih _ _ r1).bind fun x t2 t2' _ _ r2 => (want_rr r2 _).bind fun _ t3 t3' _ _ r3 => ?_
          exact ⟨rfl, r3⟩
        · split
          · refine (ih _ _ r1).bind fun a t2 t2' _ _ r2 => (want_rr r2 _).bind fun _ t3 t3' _ _ r3 => (ih _ _ r3).bind fun b t4 t4' _ _ r4 => (want_rr r4 _).bind fun _ t5 t5' _ _ r5 => ?_
            refine (ih _ _ r5).bind fun c t6 t6' _ _ r6 => (want_rr r6 _).bind fun _ t7 t7' _ _ r7 => (ih _ _ r7).bind fun d t8 t8' _ _ r8 => ?_
            exact ⟨rfl, r8⟩
          · split
            · rw [r1.same.1, r1.same.2.1]
              split
              · refine (step_rr r1).bind fun _ t2 t2' _ _ r2 => (want_rr r2 _).bind fun _ t3 t3' _ _ r3 => (ih _ _ r3).bind fun a t4 t4' _ _ r4 => (want_rr r4 _).bind fun _ t5 t5' _ _ r5 => (ih _ _ r5).bind fun b t6 t6' _ _ r6 => ?_
                exact ⟨rfl, r6⟩
              · exact rfl
            · exact ⟨rfl, r1⟩
theorem field_rr {t t' : Tk} (h : R s s' t t') : fieldK t = fieldK t' := by
  unfold fieldK
  rw [isW_rr h, isW_rr h, isW_rr h]
theorem fields_rr {f f' : Tk → Res E} (hf : Alike s s' f f') (hp : Pg f) (hp' : Pg f') : ∀ (m m' : Nat) (t t' : Tk) (acc : List (Int × E × E)), R s s' t t' → s.length - t.fin + 1 ≤ m → s'.length - t'.fin + 1 ≤ m' → RR s s' (fieldsP s f m t acc) (fieldsP s' f' m' t' acc)
  | 0, _, _, _, _, _, h1, _ => by omega
  | _, 0, _, _, _, _, _, h2 => by omega
  | m + 1, m' + 1, t, t', acc, h, h1, h2 => by
    unfold fieldsP
    rw [field_rr h, h.same.1]
    split
    · exact ⟨rfl, h⟩
    · split
      · exact rfl
      · split
        · exact rfl
        · refine (step_rr h).bind fun _ t1 t1' e1 e1' r1 => (hf _ _ r1).bind fun y t2 t2' e2 e2' r2 => (hf _ _ r2).bind fun z t3 t3' e3 e3' r3 => ?_
          have a1 := step_prog e1
          have a1' := step_prog e1'
          have a2 := hp _ _ _ e2
          have a2' := hp' _ _ _ e2'
          have a3 := hp _ _ _ e3
          have a3' := hp' _ _ _ e3'
          have a4 := a1.2 a2.1
          have a4' := a1'.2 a2'.1
          have b := r3.same
          exact fields_rr hf hp hp' m m' t3 t3' _ r3 (by omega) (by omega)
theorem source_rr {t t' : Tk} (h0 : tokAt s 0 = .ok t) (h0' : tokAt s' 0 = .ok t') (r : R s s' t t') : RR s s' (sourceP s) (sourceP s') := by
  have ih := expr_rr (s := s) (s' := s') (term_rr 32) (term_prog s 32) (term_prog s' 32)
  have hp := expr_prog (s := s) (term_prog s 32)
  have hp' := expr_prog (s := s') (term_prog s' 32)
  unfold sourceP
  rw [h0, h0']
  refine (want_rr r _).bind fun _ t1 t1' _ _ r1 => (ih _ _ r1).bind fun a t2 t2' _ _ r2 => (want_rr r2 _).bind fun _ t3 t3' _ _ r3 => (ih _ _ r3).bind fun b t4 t4' _ _ r4 => ?_
  refine (fields_rr ih hp hp' _ _ _ _ _ r4 (by omega) (by omega)).bind fun l t5 t5' _ _ r5 => ?_
  exact ⟨rfl, r5⟩
theorem parse_rr {t t' : Tk} (hs : s.length ≤ 4096) (hs' : s'.length ≤ 4096) (h0 : tokAt s 0 = .ok t) (h0' : tokAt s' 0 = .ok t') (r : R s s' t t') : (parseP s = parseP s' ∧ ∃ x, parseP s = .ok x) ∨ ∃ p p' e, parseP s = .bad p e ∧ parseP s' = .bad p' e := by
  have h := source_rr h0 h0' r
  unfold parseP
  rw [if_neg (by omega), if_neg (by omega)]
  cases h1 : sourceP s with
  | ok x u =>
    cases h2 : sourceP s' with
    | ok x' u' =>
      rw [h1, h2] at h
      obtain ⟨rfl, -⟩ := h
      exact .inl ⟨rfl, x, rfl⟩
    | bad p e => rw [h1, h2] at h; cases h
  | bad p e =>
    cases h2 : sourceP s' with
    | ok x' u' => rw [h1, h2] at h; cases h
    | bad p' e' =>
      rw [h1, h2] at h
      have h : e = e' := h
      subst h
      exact .inr ⟨p, p', e, rfl, rfl⟩
end
end Rc
end Go.Proofs.Ytcigggffaofkhaa
