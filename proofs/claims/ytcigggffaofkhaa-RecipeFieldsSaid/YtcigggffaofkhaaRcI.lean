/-
  Walks: the reader's is, want, name, open.
-/
import Derived.Test.YtcigggffaofkhaaRcN
namespace Go.Proofs.Ytcigggffaofkhaa
open Go.RowKit
namespace Rc

/-- a token that was read -/
structure TV (s : ByteArray) (t : Tk) : Prop where
  none : t.kind = 0 → t.s = ⟨#[]⟩
  kind : t.kind ≤ 3
  fin : t.fin ≤ s.size
  word : t.kind = 1 ∨ t.kind = 2 → t.s ≠ ⟨#[]⟩
  sgn : t.kind = 2 → ∃ c, sign c = true ∧ t.s = ⟨#[c]⟩
theorem skip_le : ∀ (l : List UInt8) (note : Bool), skipL note l ≤ l.length
  | [], _ => by simp [skipL]
  | c :: l, note => by
    unfold skipL
    split
    · have := skip_le l (c == 35 || (note && c != 10))
      simp only [List.length_cons]
      omega
    · simp
theorem strF_le : ∀ (f : Nat) (l : List UInt8) (x : List UInt8) (n : Nat), strF f l = some (x, n) → n ≤ l.length
  | 0, l, x, n, h => by simp [strF] at h
  | f + 1, [], x, n, h => by simp [strF] at h
  | f + 1, c :: l, x, n, h => by
    unfold strF at h
    split at h
    · simp at h; obtain ⟨-, rfl⟩ := h; simp
    · split at h
      · cases h
      · split at h
        · obtain ⟨⟨y, k⟩, hy, he⟩ := Option.map_eq_some_iff.1 h
          have := strF_le f l y k hy
          simp at he
          simp only [List.length_cons]
          omega
        · match l, h with
          | a :: b :: r, h =>
            simp only at h
            split at h
            · cases h
            · obtain ⟨⟨y, k⟩, hy, he⟩ := Option.map_eq_some_iff.1 h
              have := strF_le f r y k hy
              simp at he
              simp only [List.length_cons]
              omega
          | [a], h => simp at h
          | [], h => simp at h
theorem ne_nil {c : UInt8} {l : List UInt8} : (⟨(c :: l).toArray⟩ : ByteArray) ≠ ⟨#[]⟩ := fun e => by
  have := congrArg (fun b : ByteArray => b.data.toList) e
  simp at this
theorem tokP_tv {s : ByteArray} {p : Nat} {t : Tk} (hp : p ≤ s.size) (h : tokP s.data.toList p = .ok t) : TV s t := by
  unfold tokP at h
  have hz := Lib.size_eq s
  cases hd : s.data.toList.drop p with
  | nil =>
    rw [hd] at h
    simp only [RT.ok.injEq] at h
    subst h
    exact ⟨fun _ => rfl, by simp, hp, (fun h => by simp at h), (fun h => by simp at h)⟩
  | cons c l =>
    have hl : l.length + 1 = s.size - p := by
      have := congrArg List.length hd
      simp only [List.length_drop, List.length_cons] at this
      omega
    rw [hd] at h
    simp only at h
    split at h
    · split at h
      · rename_i x n hs
        simp only [RT.ok.injEq] at h
        subst h
        have := strF_le _ _ _ _ hs
        exact ⟨(fun h => by simp at h), by simp, by show p + 1 + n ≤ s.size; omega, (fun h => by simp at h), (fun h => by simp at h)⟩
      · cases h
    · split at h
      · rename_i hsg
        simp only [RT.ok.injEq] at h
        subst h
        exact ⟨(fun h => by simp at h), by simp, by show p + 1 ≤ s.size; omega, fun _ => ne_nil, fun _ => ⟨c, hsg, rfl⟩⟩
      · split at h
        · cases h
        · rename_i hw
          simp only [RT.ok.injEq] at h
          subst h
          have h1 : wordN (c :: l) ≤ (c :: l).length := by unfold wordN; exact (List.takeWhile_sublist _).length_le
          obtain ⟨k, hk⟩ : ∃ k, wordN (c :: l) = k + 1 := ⟨wordN (c :: l) - 1, by omega⟩
          refine ⟨(fun h => by simp at h), by simp, ?_, fun _ => ?_, (fun h => by simp at h)⟩
          · show p + wordN (c :: l) ≤ s.size
            simp only [List.length_cons] at h1
            omega
          · rw [hk]
            exact ne_nil
theorem tok_tv {s : ByteArray} {p : Nat} {t : Tk} (hp : p ≤ s.size) (h : tokAt s.data.toList p = .ok t) : TV s t := by
  unfold tokAt at h
  have hz := Lib.size_eq s
  have := skip_le (s.data.toList.drop p) false
  rw [List.length_drop] at this
  exact tokP_tv (by omega) h
/-- the reader's state, of a token that stands next -/
abbrev RK (W : World) (b : Nat) (s : ByteArray) (t : Tk) (dp : Int) : Prop := RD W b s t.fin (t.kind == 3) t.s t.pl dp
/-- what a step of the reading does -/
def PX {α : Type} (W : World) (b : Nat) (s : ByteArray) (dp : Int) (r : Res α) (val : α → Ending → World → Prop) (e : Ending) (W' : World) : Prop := match r with
  | .ok x t => val x e W' ∧ RK W' b s t dp ∧ Fq W W' b ∧ TV s t
  | .bad p f => PB W W' b s p f e
theorem px_ok {α : Type} {W : World} {b : Nat} {s : ByteArray} {dp : Int} {r : Res α} {val : α → Ending → World → Prop} {e : Ending} {W' : World} {x : α} {t : Tk} (h : r = .ok x t) (h1 : val x e W') (h2 : RK W' b s t dp) (h3 : Fq W W' b) (h4 : TV s t) : PX W b s dp r val e W' := by
  rw [h]; exact ⟨h1, h2, h3, h4⟩
theorem px_bad {α : Type} {W : World} {b : Nat} {s : ByteArray} {dp : Int} {r : Res α} {val : α → Ending → World → Prop} {e : Ending} {W' : World} {p : Nat} {f : Int} (h : r = .bad p f) (h1 : PB W W' b s p f e) : PX W b s dp r val e W' := by
  rw [h]; exact h1
abbrev unitE (_ : Unit) (e : Ending) (_ : World) : Prop := e = .returned (.tuple #[])
/-- next, as a step -/
theorem step_any (W : World) (b : Nat) (s : ByteArray) (t : Tk) (dp : Int) (h : RK W b s t dp) (hv : TV s t) (hs : s.size ≤ 4096) :
    Calls Try.prog 46 #[.pointer (some ⟨b, 0, none⟩)] W fun e W' => PX W b s dp (stepT s.data.toList t) unitE e W' := by
  refine (next_any W b s t.fin _ _ _ dp h hv.fin hs).mono fun e W' hx => ?_
  unfold stepT
  cases ho : tokAt s.data.toList t.fin with
  | ok t' =>
    rw [ho] at hx
    exact ⟨hx.1, hx.2.1, hx.2.2, tok_tv hv.fin ho⟩
  | bad p =>
    rw [ho] at hx
    exact hx
theorem isW_text {t : Tk} {w : List UInt8} (h : t.kind = 3) : isW t w = false := by simp [isW, h]
theorem isW_ne {t : Tk} {w : List UInt8} (h : t.s.data.toList ≠ w) : isW t w = false := by simp [isW, h]
theorem isW_eq {s : ByteArray} {t : Tk} {w : List UInt8} (hv : TV s t) (hk : t.kind ≠ 3) (h : t.s.data.toList = w) (hw : w ≠ []) : isW t w = true := by
  have h0 : t.kind ≠ 0 := fun e => hw (by rw [← h, hv.none e])
  have := hv.kind
  have h1 : t.kind = 1 ∨ t.kind = 2 := by omega
  rcases h1 with h1 | h1 <;> simp [isW, h1, h]
set_option maxHeartbeats 1000000 in
theorem is_any (W : World) (b : Nat) (s : ByteArray) (t : Tk) (dp : Int) (w : ByteArray) (h : RK W b s t dp) (hv : TV s t) (hs : s.size ≤ 4096) (hw : w ≠ ⟨#[]⟩) :
    Calls Try.prog 57 #[.pointer (some ⟨b, 0, none⟩), .string w] W fun e W' => (isW t w.data.toList = false → e = .returned (.bool false) ∧ W' = W) ∧
      (isW t w.data.toList = true → PX W b s dp (stepT s.data.toList t) (fun _ e _ => e = .returned (.bool true)) e W') := by
  have hst := step_any W b s t dp h hv hs
  obtain ⟨lt, c0, c1, c2, c3, c4, c5, fz⟩ := h
  by_cases hk : t.kind = 3
  · have hz := Lib.hid (isW_text (w := w.data.toList) hk)
    have t3 : (t.kind == 3) = true := by rw [beq_iff_eq]; exact hk
    rw [t3] at c2
    clear hk t3 hst
    go_enter Try.func57, Try.ntmps57
    go_wp2_with fail
    go_ret
    rw [hz.out]
    exact ⟨fun _ => ⟨rfl, rfl⟩, fun h => by cases h⟩
  · have t3 : (t.kind == 3) = false := by rw [beq_eq_false_iff_ne]; exact hk
    rw [t3] at c2
    by_cases he : t.s = w
    · have hz := Lib.hid (isW_eq (w := w.data.toList) hv hk (by rw [he]) (fun e => hw (by apply ByteArray.ext; apply Array.toList_inj.1; rw [e])))
      have i1 := Sx.seq_tt he
      have i2 := sne_ff he
      clear hk t3 he
      go_enter Try.func57, Try.ntmps57
      go_wp2_with fail
      refine hst.mono ?_
      intro e W' hx
      cases hr : stepT s.data.toList t with
      | ok u t' =>
        rw [hr] at hx
        obtain ⟨rfl, h1, h2, h3⟩ := hx
        have HR := Lib.hid hr
        clear hr
        go_wp2_with fail
        go_ret
        rw [hz.out, HR.out]
        exact ⟨(fun h => by cases h), fun _ => ⟨rfl, h1, h2, h3⟩⟩
      | bad p f =>
        rw [hr] at hx
        obtain ⟨rfl, h1, h2⟩ := hx
        have HR := Lib.hid hr
        clear hr
        refine ⟨rfl, ?_⟩
        rw [hz.out, HR.out]
        exact ⟨(fun h => by cases h), fun _ => ⟨rfl, h1, h2⟩⟩
    · have hz := Lib.hid (isW_ne (t := t) (w := w.data.toList) (fun e => he (by apply ByteArray.ext; exact Array.toList_inj.1 e)))
      have i1 := Sx.seq_ff he
      have i2 := sne_tt he
      clear hk t3 he hst
      go_enter Try.func57, Try.ntmps57
      go_wp2_with fail
      go_ret
      rw [hz.out]
      exact ⟨fun _ => ⟨rfl, rfl⟩, fun h => by cases h⟩
end Rc
end Go.Proofs.Ytcigggffaofkhaa
