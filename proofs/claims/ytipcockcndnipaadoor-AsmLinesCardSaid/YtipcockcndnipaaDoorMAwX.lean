/-
  Plain law: how big a scanned program is; the labels' places, put in one after another. No program in sight.
-/
import Derived.Test.YtipcockcndnipaaDoorMNmP
import Derived.Lib.AtoiAllCases
namespace Go.Proofs.YtipcockcndnipaaDoor
open Go.RowKit
namespace Aw
open As

theorem lines_small : ∀ l : List UInt8, (linesL l).length ≤ l.length + 1 ∧ ∀ x ∈ linesL l, x.length ≤ l.length
  | [] => by simp [linesL]
  | c :: l => by
    obtain ⟨h1, h2⟩ := lines_small l
    unfold linesL
    split
    · refine ⟨by simp only [List.length_cons]; omega, fun x hx => ?_⟩
      rcases List.mem_cons.1 hx with rfl | hx
      · simp
      · have := h2 x hx
        simp only [List.length_cons]
        omega
    · cases hl : linesL l with
      | nil => simp
      | cons a r =>
        rw [hl] at h1 h2
        refine ⟨by simp only [List.length_cons] at h1 ⊢; omega, fun x hx => ?_⟩
        rcases List.mem_cons.1 hx with rfl | hx
        · have := h2 a (.head _)
          simp only [List.length_cons]
          omega
        · have := h2 x (.tail _ hx)
          simp only [List.length_cons]
          omega
/-- an assembling of k lines is no greater than k -/
structure Bd (st : St) (k : Nat) : Prop where
  p : st.prog.length ≤ k
  w : st.wants.length = st.prog.length
  l : st.lines.length = st.prog.length
  b : st.labs.length ≤ k
  n : ∀ x ∈ st.prog, -9223372036854775808 ≤ x.n ∧ x.n ≤ 9223372036854775807
  a : ∀ y ∈ st.labs, y.2 ≤ k
  c : ∀ y ∈ st.lines, y ≤ 1000000
theorem insL_bd {l : List UInt8} {x : Cd.I} {w : List UInt8} (h : insL l = some (x, w)) : -9223372036854775808 ≤ x.n ∧ x.n ≤ 9223372036854775807 := by
  have z : -9223372036854775808 ≤ (0 : Int) ∧ (0 : Int) ≤ 9223372036854775807 := by omega
  unfold insL at h
  split at h
  · cases h
  · split at h
    · cases hu : unq (arg l)
      · rw [hu] at h; cases h
      · rw [hu] at h; cases h; exact z
    · split at h
      · split at h
        · cases h; exact z
        · cases h
      · split at h
        · cases h; exact z
        · split at h
          · rename_i n hn
            split at h
            · cases h
              exact Lib.atoiAll_bounds hn
            · cases h
          · cases h
theorem line_bd {st st' : St} {n k : Nat} {l : List UInt8} (h : Bd st k) (hl : lineP n l st = .ok st') (hn : n ≤ 1000000) : Bd st' (k + 1) := by
  unfold lineP at hl
  split at hl
  · cases hl
    exact ⟨Nat.le_succ_of_le h.p, h.w, h.l, Nat.le_succ_of_le h.b, h.n, fun y hy => Nat.le_succ_of_le (h.a y hy), h.c⟩
  · split at hl
    · split at hl
      · cases hl
      · cases hl
        refine ⟨Nat.le_succ_of_le h.p, h.w, h.l, by simp only [List.length_append, List.length_cons, List.length_nil]; have := h.b; omega, h.n, fun y hy => ?_, h.c⟩
        rcases List.mem_append.1 hy with hy | hy
        · exact Nat.le_succ_of_le (h.a y hy)
        · rw [List.mem_singleton] at hy
          subst hy
          exact Nat.le_succ_of_le h.p
    · cases hi : insL l with
      | none => rw [hi] at hl; cases hl
      | some xw =>
        obtain ⟨x, w⟩ := xw
        rw [hi] at hl
        cases hl
        refine ⟨by simp only [List.length_append, List.length_cons, List.length_nil]; have := h.p; omega, by simp only [List.length_append, List.length_cons, List.length_nil]; have := h.w; omega, by simp only [List.length_append, List.length_cons, List.length_nil]; have := h.l; omega, Nat.le_succ_of_le h.b, fun y hy => ?_, fun y hy => Nat.le_succ_of_le (h.a y hy), fun y hy => ?_⟩
        · rcases List.mem_append.1 hy with hy | hy
          · exact h.n y hy
          · rw [List.mem_singleton] at hy
            subst hy
            exact insL_bd hi
        · rcases List.mem_append.1 hy with hy | hy
          · exact h.c y hy
          · rw [List.mem_singleton] at hy
            subst hy
            exact hn
theorem scan_bd : ∀ (ls : List (List UInt8)) (n k : Nat) (st st' : St), Bd st k → scan n ls st = .ok st' → n + ls.length ≤ 1000000 → Bd st' (k + ls.length)
  | [], n, k, st, st', h, hs, _ => by rw [scan] at hs; cases hs; exact h
  | l :: ls, n, k, st, st', h, hs, hn => by
    rw [scan] at hs
    simp only [List.length_cons] at hn ⊢
    cases hl : lineP (n + 1) l st with
    | bad e => rw [hl] at hs; cases hs
    | ok s1 =>
      rw [hl] at hs
      rw [show k + (ls.length + 1) = k + 1 + ls.length by omega]
      exact scan_bd ls (n + 1) (k + 1) s1 st' (line_bd h hl (by omega)) hs (by omega)
theorem bd_0 : Bd ⟨[], [], [], []⟩ 0 := ⟨Nat.le_refl _, rfl, rfl, Nat.le_refl _, fun _ h => (by cases h), fun _ h => (by cases h), fun _ h => (by cases h)⟩
/-- a result with a begin -/
def Rs.pre (a : List Cd.I) : Rs → Rs
  | .ok r => .ok (a ++ r)
  | .bad n e => .bad n e
theorem pre_nil (r : Rs) : Rs.pre [] r = r := by cases r <;> rfl
theorem pre_pre (a b : List Cd.I) (r : Rs) : Rs.pre a (Rs.pre b r) = Rs.pre (a ++ b) r := by
  cases r
  · simp [Rs.pre]
  · rfl
theorem res_skip {labs : List (List UInt8 × Nat)} {x : Cd.I} {p : List Cd.I} {ws : List (List UInt8)} {k : Nat} {ks : List Nat} : As.resolve labs (x :: p) ([] :: ws) (k :: ks) = Rs.pre [x] (As.resolve labs p ws ks) := by
  rw [As.resolve, if_pos rfl]
  cases As.resolve labs p ws ks <;> rfl
theorem res_none {labs : List (List UInt8 × Nat)} {x : Cd.I} {p : List Cd.I} {w : List UInt8} {ws : List (List UInt8)} {k : Nat} {ks : List Nat} (hw : w ≠ []) (h : at? labs w = none) : As.resolve labs (x :: p) (w :: ws) (k :: ks) = .bad k 31 := by
  rw [As.resolve, if_neg hw, h]
theorem res_some {labs : List (List UInt8 × Nat)} {x : Cd.I} {p : List Cd.I} {w : List UInt8} {ws : List (List UInt8)} {k : Nat} {ks : List Nat} {a : Nat} (hw : w ≠ []) (h : at? labs w = some a) : As.resolve labs (x :: p) (w :: ws) (k :: ks) = Rs.pre [{ x with n := (a : Int) }] (As.resolve labs p ws ks) := by
  rw [As.resolve, if_neg hw, h]
  cases As.resolve labs p ws ks <;> rfl
/-- k places are put in: q is the program as it stands -/
structure RK (labs : List (List UInt8 × Nat)) (p : List Cd.I) (ws : List (List UInt8)) (ks : List Nat) (k : Nat) (q : List Cd.I) : Prop where
  len : q.length = p.length
  rest : q.drop k = p.drop k
  res : As.resolve labs p ws ks = Rs.pre (q.take k) (As.resolve labs (p.drop k) (ws.drop k) (ks.drop k))
theorem RK.start (labs : List (List UInt8 × Nat)) (p : List Cd.I) (ws : List (List UInt8)) (ks : List Nat) : RK labs p ws ks 0 p := ⟨rfl, rfl, by rw [List.take_zero, pre_nil]; rfl⟩
theorem takek_snoc {α : Type} {l : List α} {k : Nat} {x : α} (h : l[k]? = some x) : l.take (k + 1) = l.take k ++ [x] := by
  obtain ⟨hk, rfl⟩ := List.getElem?_eq_some_iff.1 h
  exact List.take_succ_eq_append_getElem hk
theorem dropk_at {α : Type} {l : List α} {k : Nat} {x : α} (h : l[k]? = some x) : l.drop k = x :: l.drop (k + 1) := by
  obtain ⟨hk, rfl⟩ := List.getElem?_eq_some_iff.1 h
  exact List.drop_eq_getElem_cons hk
section
variable {labs : List (List UInt8 × Nat)} {p : List Cd.I} {ws : List (List UInt8)} {ks : List Nat} {k n : Nat} {q : List Cd.I} {x : Cd.I} {w : List UInt8}
theorem RK.at (h : RK labs p ws ks k q) (hx : p[k]? = some x) : q[k]? = some x := by
  have h1 : (q.drop k)[0]? = some x := by rw [h.rest, List.getElem?_drop]; exact hx
  rw [List.getElem?_drop] at h1
  exact h1
theorem RK.skip (h : RK labs p ws ks k q) (hx : p[k]? = some x) (hw : ws[k]? = some []) (hn : ks[k]? = some n) : RK labs p ws ks (k + 1) q := by
  have hq := h.at hx
  refine ⟨h.len, ?_, ?_⟩
  · have h1 := h.rest
    rw [dropk_at hq, dropk_at hx] at h1
    exact (List.cons.inj h1).2
  · rw [h.res, dropk_at hx, dropk_at hw, dropk_at hn, res_skip, pre_pre, takek_snoc hq]
theorem RK.miss (h : RK labs p ws ks k q) (hx : p[k]? = some x) (hw : ws[k]? = some w) (hne : w ≠ []) (hn : ks[k]? = some n) (ha : at? labs w = none) : As.resolve labs p ws ks = .bad n 31 := by
  rw [h.res, dropk_at hx, dropk_at hw, dropk_at hn, res_none hne ha]
  rfl
theorem RK.put (h : RK labs p ws ks k q) (hx : p[k]? = some x) (hw : ws[k]? = some w) (hne : w ≠ []) (hn : ks[k]? = some n) {a : Nat} (ha : at? labs w = some a) : RK labs p ws ks (k + 1) (q.set k { x with n := (a : Int) }) := by
  have hq := h.at hx
  have hk : k < q.length := (List.getElem?_eq_some_iff.1 hq).1
  refine ⟨by rw [List.length_set, h.len], ?_, ?_⟩
  · have h1 := h.rest
    rw [dropk_at hq, dropk_at hx] at h1
    rw [List.drop_set_of_lt (by omega)]
    exact (List.cons.inj h1).2
  · have h2 : (q.set k { x with n := (a : Int) })[k]? = some { x with n := (a : Int) } := by simp [hk]
    rw [h.res, dropk_at hx, dropk_at hw, dropk_at hn, res_some hne ha, pre_pre, takek_snoc h2]
    congr 2
    rw [List.take_set_of_le (Nat.le_refl _)]
theorem RK.done (h : RK labs p ws ks p.length q) : As.resolve labs p ws ks = .ok q := by
  rw [h.res, List.drop_length]
  have : As.resolve labs [] (ws.drop p.length) (ks.drop p.length) = .ok [] := by
    cases ws.drop p.length <;> rfl
  rw [this]
  show Rs.ok (q.take p.length ++ []) = _
  rw [List.append_nil, ← h.len, List.take_length]
end
end Aw
end Go.Proofs.YtipcockcndnipaaDoor
