/-
  What is read has few kids; 'alive'; the laws RecipeNames and RecipeParses.
-/
import Derived.Test.YtcigggffaofkhaaRrT
import Derived.Test.YtcigggffaofkhaaRrM
namespace Go.Proofs.Ytcigggffaofkhaa
open Go.RowKit
namespace Rc

def FewF (f : Tk → Res E) : Prop := ∀ t x t', f t = .ok x t' → Few x
theorem sum_few {s : List UInt8} {f : Tk → Res E} (hf : FewF f) : ∀ (m : Nat) (t : Tk) (acc l : List E) (t' : Tk), sumP s f m t acc = .ok l t' → (∀ x ∈ acc, Few x) → (∀ x ∈ l, Few x) ∧ l.length ≤ acc.length + m
  | 0, t, acc, l, t', h, _ => by cases h
  | m + 1, t, acc, l, t', h, ha => by
    unfold sumP at h
    split at h
    · obtain ⟨_, t1, h1, h⟩ := bind_ok h
      obtain ⟨y, t2, h2, h⟩ := bind_ok h
      have := sum_few hf m t2 _ l t' h (fun x hx => by
        rw [List.mem_append, List.mem_singleton] at hx
        rcases hx with hx | rfl
        · exact ha x hx
        · exact hf _ _ _ h2)
      refine ⟨this.1, ?_⟩
      have h3 := this.2
      simp at h3
      omega
    · cases h
      exact ⟨ha, by omega⟩
theorem expr_few {s : List UInt8} {f : Tk → Res E} (hs : s.length ≤ 4096) (hf : FewF f) : FewF (exprP s f) := by
  intro t x t' h
  unfold exprP at h
  obtain ⟨y, t1, h1, h⟩ := bind_ok h
  obtain ⟨l, t2, h2, h⟩ := bind_ok h
  simp only [Res.ok.injEq] at h
  obtain ⟨rfl, rfl⟩ := h
  have hy := hf _ _ _ h1
  have hl := sum_few hf _ _ _ _ _ h2 (fun x hx => by simp at hx)
  have hl2 := hl.2
  simp only [List.length_nil] at hl2
  unfold catE
  split
  · exact hy
  · refine .mk 3 _ _ (by simp only [List.length_cons]; omega) (fun x hx => ?_)
    rw [List.mem_cons] at hx
    rcases hx with rfl | hx
    · exact hy
    · exact hl.1 x hx
theorem few_leaf (k : Int) (s : ByteArray) : Few (.mk k s []) := .mk k s [] (by simp) (fun x hx => by simp at hx)
theorem term_few {s : List UInt8} (hs : s.length ≤ 4096) : ∀ h, FewF (termP s h)
  | 0, t, x, t', h => by
    unfold termP at h
    split at h <;> cases h
  | n + 1, t, x, t', h => by
    have ih := expr_few (s := s) hs (term_few hs n)
    unfold termP at h
    split at h
    · cases h
    · obtain ⟨_, t1, h1, h⟩ := bind_ok h
      split at h
      · cases h; exact few_leaf _ _
      · split at h
        · obtain ⟨x1, t2, h2, h⟩ := bind_ok h
          obtain ⟨_, t3, h3, h⟩ := bind_ok h
          cases h
          exact ih _ _ _ h2
        · split at h
          · obtain ⟨x1, t2, h2, h⟩ := bind_ok h
            obtain ⟨_, t3, h3, h⟩ := bind_ok h
            obtain ⟨x2, t4, h4, h⟩ := bind_ok h
            obtain ⟨_, t5, h5, h⟩ := bind_ok h
            obtain ⟨x3, t6, h6, h⟩ := bind_ok h
            obtain ⟨_, t7, h7, h⟩ := bind_ok h
            obtain ⟨x4, t8, h8, h⟩ := bind_ok h
            cases h
            refine .mk _ _ _ (by simp) (fun x hx => ?_)
            simp only [List.mem_cons, List.not_mem_nil, or_false] at hx
            rcases hx with rfl | rfl | rfl | rfl
            · exact ih _ _ _ h2
            · exact ih _ _ _ h4
            · exact ih _ _ _ h6
            · exact ih _ _ _ h8
          · split at h
            · split at h
              · obtain ⟨_, t2, h2, h⟩ := bind_ok h
                obtain ⟨_, t3, h3, h⟩ := bind_ok h
                obtain ⟨x1, t4, h4, h⟩ := bind_ok h
                obtain ⟨_, t5, h5, h⟩ := bind_ok h
                obtain ⟨x2, t6, h6, h⟩ := bind_ok h
                cases h
                refine .mk _ _ _ (by simp) (fun x hx => ?_)
                simp only [List.mem_cons, List.not_mem_nil, or_false] at hx
                rcases hx with rfl | rfl
                · exact ih _ _ _ h4
                · exact ih _ _ _ h6
              · cases h
            · cases h; exact few_leaf _ _
theorem fields_few {s : List UInt8} {f : Tk → Res E} (hf : FewF f) : ∀ (m : Nat) (t : Tk) (acc l : List (Int × E × E)) (t' : Tk), fieldsP s f m t acc = .ok l t' → acc.length ≤ 20 → (∀ x ∈ acc, Few x.2.1 ∧ Few x.2.2) → (∀ x ∈ l, Few x.2.1 ∧ Few x.2.2) ∧ l.length ≤ 20
  | 0, t, acc, l, t', h, _, _ => by cases h
  | m + 1, t, acc, l, t', h, hn, ha => by
    unfold fieldsP at h
    split at h
    · cases h
      exact ⟨ha, hn⟩
    · split at h
      · cases h
      · split at h
        · cases h
        · obtain ⟨_, t1, h1, h⟩ := bind_ok h
          obtain ⟨a, t2, h2, h⟩ := bind_ok h
          obtain ⟨b, t3, h3, h⟩ := bind_ok h
          refine fields_few hf m t3 _ l t' h (by simp; omega) (fun x hx => ?_)
          rw [List.mem_append, List.mem_singleton] at hx
          rcases hx with hx | rfl
          · exact ha x hx
          · exact ⟨hf _ _ _ h2, hf _ _ _ h3⟩
theorem parse_few {s : List UInt8} {x : Src} (h : parseP s = .ok x) : FewS x := by
  unfold parseP at h
  split at h
  · cases h
  · rename_i hs
    have hs : s.length ≤ 4096 := by omega
    have hf := expr_few hs (term_few hs 32)
    cases hr : sourceP s with
    | bad p e => rw [hr] at h; cases h
    | ok y t =>
      rw [hr] at h
      simp only [Out.ok.injEq] at h
      subst h
      rw [source_eq] at hr
      obtain ⟨_, t0, _, hr⟩ := bind_ok hr
      obtain ⟨_, t1, _, hr⟩ := bind_ok hr
      obtain ⟨a, t2, h2, hr⟩ := bind_ok hr
      obtain ⟨_, t3, _, hr⟩ := bind_ok hr
      obtain ⟨b, t4, h4, hr⟩ := bind_ok hr
      obtain ⟨l, t5, h5, hr⟩ := bind_ok hr
      simp only [Res.ok.injEq] at hr
      obtain ⟨rfl, rfl⟩ := hr
      have := fields_few hf _ _ _ _ _ h5 (by simp) (fun x hx => by simp at hx)
      exact ⟨hf _ _ _ h2, hf _ _ _ h4, by have := this.2; show l.length ≤ _; omega, this.1⟩

/-! the recipes that the document tells -/
abbrev doc1 : ByteArray := ⟨#[112, 97, 99, 107, 97, 103, 101, 32, 34, 97, 34, 32, 118, 101, 114, 115, 105, 111, 110, 32, 34, 49, 46, 48, 46, 34, 32, 43, 32, 34, 48, 34, 32, 116, 111, 111, 108, 32, 34, 99, 99, 34, 32, 34, 42, 34]⟩
abbrev doc2 : ByteArray := ⟨#[112, 97, 99, 107, 97, 103, 101, 32, 97, 32, 118, 101, 114, 115, 105, 111, 110]⟩
abbrev src1 : Src := ⟨.mk 1 ⟨#[97]⟩ [], .mk 3 ⟨#[]⟩ [.mk 1 ⟨#[49, 46, 48, 46]⟩ [], .mk 1 ⟨#[48]⟩ []], [(1, .mk 1 ⟨#[99, 99]⟩ [], .mk 1 ⟨#[42]⟩ [])]⟩
theorem parse1 : parseP doc1.data.toList = .ok src1 := by kernel_rfl
theorem parse2 : parseP doc2.data.toList = .bad 17 50 := by kernel_rfl
end Rc
end Go.Proofs.Ytcigggffaofkhaa
