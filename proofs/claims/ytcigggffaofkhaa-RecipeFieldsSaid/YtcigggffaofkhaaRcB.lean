/-
  Plain: a reading goes forward.
-/
import Derived.Test.YtcigggffaofkhaaRcI
namespace Go.Proofs.Ytcigggffaofkhaa
open Go.RowKit
namespace Rc

theorem tokP_prog {s : List UInt8} {p : Nat} {t : Tk} (h : tokP s p = .ok t) : p ≤ t.fin ∧ (t.kind ≠ 0 → p < t.fin) := by
  unfold tokP at h
  cases hd : s.drop p with
  | nil =>
    rw [hd] at h
    simp only [RT.ok.injEq] at h
    subst h
    exact ⟨Nat.le_refl _, fun h => absurd rfl h⟩
  | cons c l =>
    rw [hd] at h
    simp only at h
    split at h
    · split at h
      · simp only [RT.ok.injEq] at h
        subst h
        dsimp only
        omega
      · cases h
    · split at h
      · simp only [RT.ok.injEq] at h
        subst h
        dsimp only
        omega
      · split at h
        · cases h
        · simp only [RT.ok.injEq] at h
          subst h
          dsimp only
          omega
theorem tok_prog {s : List UInt8} {p : Nat} {t : Tk} (h : tokAt s p = .ok t) : p ≤ t.fin ∧ (t.kind ≠ 0 → p < t.fin) := by
  have := tokP_prog h
  exact ⟨by omega, fun hk => by have := this.2 hk; omega⟩
theorem step_prog {s : List UInt8} {t t' : Tk} {u : Unit} (h : stepT s t = .ok u t') : t.fin ≤ t'.fin ∧ (t'.kind ≠ 0 → t.fin < t'.fin) := by
  unfold stepT at h
  split at h
  · rename_i t1 h1
    cases h
    exact tok_prog h1
  · cases h
theorem isW_kind {t : Tk} {w : List UInt8} (h : isW t w = true) : t.kind ≠ 0 := by
  intro e
  simp [isW, e] at h
theorem want_prog {s w : List UInt8} {t t' : Tk} {u : Unit} (h : wantT s w t = .ok u t') : t.kind ≠ 0 ∧ t.fin ≤ t'.fin := by
  unfold wantT at h
  split at h
  · rename_i hw
    exact ⟨isW_kind hw, (step_prog h).1⟩
  · cases h
theorem bind_ok {α β : Type} {r : Res α} {f : α → Tk → Res β} {y : β} {t' : Tk} (h : r.bind f = .ok y t') : ∃ x t, r = .ok x t ∧ f x t = .ok y t' := by
  cases r with
  | ok x t => exact ⟨x, t, rfl, h⟩
  | bad p e => cases h
/-- a reading takes something, and goes forward -/
def Pg (f : Tk → Res E) : Prop := ∀ t x t', f t = .ok x t' → t.kind ≠ 0 ∧ t.fin ≤ t'.fin
theorem sum_prog {s : List UInt8} {f : Tk → Res E} (hf : Pg f) : ∀ (m : Nat) (t : Tk) (acc l : List E) (t' : Tk), sumP s f m t acc = .ok l t' → t.fin ≤ t'.fin
  | 0, t, acc, l, t', h => by cases h
  | m + 1, t, acc, l, t', h => by
    unfold sumP at h
    split at h
    · obtain ⟨_, t1, h1, h⟩ := bind_ok h
      obtain ⟨y, t2, h2, h⟩ := bind_ok h
      have := sum_prog hf m t2 _ l t' h
      have := (step_prog h1).1
      have := (hf _ _ _ h2).2
      omega
    · cases h
      exact Nat.le_refl _
theorem expr_prog {s : List UInt8} {f : Tk → Res E} (hf : Pg f) : Pg (exprP s f) := by
  intro t x t' h
  unfold exprP at h
  obtain ⟨y, t1, h1, h⟩ := bind_ok h
  obtain ⟨l, t2, h2, h⟩ := bind_ok h
  cases h
  have := hf _ _ _ h1
  have := sum_prog hf _ _ _ _ _ h2
  exact ⟨by simp_all, by omega⟩
theorem termOk_kind {t : Tk} (h : termOk t = true) : t.kind ≠ 0 := by
  intro e
  simp [termOk, isW, e] at h
theorem term_prog (s : List UInt8) : ∀ h, Pg (termP s h)
  | 0, t, x, t', h => by
    unfold termP at h
    split at h <;> cases h
  | n + 1, t, x, t', h => by
    have ih := expr_prog (s := s) (term_prog s n)
    unfold termP at h
    split at h
    · cases h
    · rename_i hok
      have hk := termOk_kind (by simpa using hok)
      refine ⟨hk, ?_⟩
      obtain ⟨_, t1, h1, h⟩ := bind_ok h
      have p1 := (step_prog h1).1
      split at h
      · cases h; exact p1
      · split at h
        · obtain ⟨x1, t2, h2, h⟩ := bind_ok h
          obtain ⟨_, t3, h3, h⟩ := bind_ok h
          cases h
          have := (ih _ _ _ h2).2
          have := (want_prog h3).2
          omega
        · split at h
          · obtain ⟨x1, t2, h2, h⟩ := bind_ok h
            obtain ⟨_, t3, h3, h⟩ := bind_ok h
            obtain ⟨x2, t4, h4, h⟩ := bind_ok h
            obtain ⟨_, t5, h5, h⟩ := bind_ok h
            obtain ⟨x3, t6, h6, h⟩ := bind_ok h
            obtain ⟨_, t7, h7, h⟩ := bind_ok h
            obtain ⟨x4, t8, h8, h⟩ := bind_ok h
            cases h
            have := (ih _ _ _ h2).2
            have := (want_prog h3).2
            have := (ih _ _ _ h4).2
            have := (want_prog h5).2
            have := (ih _ _ _ h6).2
            have := (want_prog h7).2
            have := (ih _ _ _ h8).2
            omega
          · split at h
            · split at h
              · obtain ⟨_, t2, h2, h⟩ := bind_ok h
                obtain ⟨_, t3, h3, h⟩ := bind_ok h
                obtain ⟨x2, t4, h4, h⟩ := bind_ok h
                obtain ⟨_, t5, h5, h⟩ := bind_ok h
                obtain ⟨x3, t6, h6, h⟩ := bind_ok h
                cases h
                have := (step_prog h2).1
                have := (want_prog h3).2
                have := (ih _ _ _ h4).2
                have := (want_prog h5).2
                have := (ih _ _ _ h6).2
                omega
              · cases h
            · cases h; exact p1
end Rc
end Go.Proofs.Ytcigggffaofkhaa
