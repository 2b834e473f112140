/-
  Plain law: the reference's way to look labels up. No program in sight.
-/
import Derived.Test.YtipcockcndnipaaDoorMAwX
namespace Go.Proofs.YtipcockcndnipaaDoor
open Go.RowKit
namespace Aw
open As

abbrev st00 : St := ⟨[], [], [], []⟩
/-- a fault in a part is the whole's -/
theorem asm_bad_at {s : List UInt8} {k n : Nat} {e : Int} (hs : scan 0 ((linesL s).take k) st00 = .bad n e) (hl : s.length ≤ 65536) : asmP s = ([], (n : Int), e) := by
  have e := scan_append ((linesL s).take k) ((linesL s).drop k) 0 st00
  rw [List.take_append_drop, hs] at e
  unfold asmP
  rw [if_neg (by omega), e]
/-- the place of the last label of a name; -1: there is none -/
def lst (labs : List (List UInt8 × Nat)) (w : List UInt8) : Int := labs.foldl (fun a x => if x.1 = w then (x.2 : Int) else a) (-1)
theorem lst_snoc (labs : List (List UInt8 × Nat)) (x : List UInt8 × Nat) (w : List UInt8) : lst (labs ++ [x]) w = if x.1 = w then (x.2 : Int) else lst labs w := by
  simp [lst, List.foldl_append]
theorem fold_none {w : List UInt8} : ∀ (labs : List (List UInt8 × Nat)) (a : Int), (∀ x ∈ labs, x.1 ≠ w) → labs.foldl (fun a x => if x.1 = w then (x.2 : Int) else a) a = a
  | [], _, _ => rfl
  | x :: labs, a, h => by
    rw [List.foldl_cons, if_neg (h x (.head _))]
    exact fold_none labs a fun y hy => h y (.tail _ hy)
theorem at_none {labs : List (List UInt8 × Nat)} {w : List UInt8} (h : at? labs w = none) : ∀ x ∈ labs, x.1 ≠ w := fun x hx e => by
  unfold at? at h
  rw [Option.map_eq_none_iff, List.find?_eq_none] at h
  exact h x hx (by simpa using e)
theorem at_none_of {labs : List (List UInt8 × Nat)} {w : List UInt8} (h : ∀ x ∈ labs, x.1 ≠ w) : at? labs w = none := by
  unfold at?
  rw [Option.map_eq_none_iff, List.find?_eq_none]
  exact fun x hx e => h x hx (by simpa using e)
theorem at_some_of {labs : List (List UInt8 × Nat)} {w : List UInt8} {x : List UInt8 × Nat} (h : x ∈ labs) (e : x.1 = w) : (at? labs w).isSome = true := by
  cases ha : at? labs w with
  | none => exact absurd e (at_none ha x h)
  | some a => rfl
abbrev Dst (labs : List (List UInt8 × Nat)) : Prop := (labs.map (·.1)).Nodup
theorem fold_some {w : List UInt8} : ∀ (labs : List (List UInt8 × Nat)) (a : Int) (n : Nat), Dst labs → at? labs w = some n → labs.foldl (fun a x => if x.1 = w then (x.2 : Int) else a) a = n
  | [], _, _, _, h => by cases h
  | x :: labs, a, n, hd, h => by
    rw [Dst, List.map_cons, List.nodup_cons] at hd
    rw [List.foldl_cons]
    unfold at? at h
    rw [List.find?_cons] at h
    by_cases e : x.1 = w
    · rw [if_pos e, fold_none labs _ fun y hy e' => hd.1 (by rw [e, ← e']; exact List.mem_map_of_mem hy)]
      rw [show (x.1 == w) = true by rw [e]; exact beq_self_eq_true _] at h
      cases h
      rfl
    · rw [if_neg e]
      rw [show (x.1 == w) = false by rw [beq_eq_false_iff_ne]; exact e] at h
      exact fold_some labs a n hd.2 h
theorem lst_none {labs : List (List UInt8 × Nat)} {w : List UInt8} (h : at? labs w = none) : lst labs w = -1 := fold_none labs _ (at_none h)
theorem lst_some {labs : List (List UInt8 × Nat)} {w : List UInt8} {n : Nat} (hd : Dst labs) (h : at? labs w = some n) : lst labs w = n := fold_some labs _ n hd h
theorem line_dst {st st' : St} {n : Nat} {l : List UInt8} (h : Dst st.labs) (hl : lineP n l st = .ok st') : Dst st'.labs := by
  unfold lineP at hl
  split at hl
  · cases hl; exact h
  · split at hl
    · split at hl
      · cases hl
      · rename_i hno
        cases hl
        have hn : at? st.labs l.dropLast = none := by
          cases ha : at? st.labs l.dropLast with
          | none => rfl
          | some a => rw [ha] at hno; exact absurd rfl hno
        show ((st.labs ++ [(l.dropLast, st.prog.length)]).map (·.1)).Nodup
        rw [List.map_append, List.nodup_append]
        refine ⟨h, by simp, fun a ha b hb => ?_⟩
        obtain ⟨x, hx, rfl⟩ := List.mem_map.1 ha
        have hb' : b = l.dropLast := by simpa using hb
        rw [hb']
        exact at_none hn x hx
    · split at hl
      · cases hl
      · cases hl; exact h
theorem scan_dst : ∀ (ls : List (List UInt8)) (n : Nat) (st st' : St), Dst st.labs → scan n ls st = .ok st' → Dst st'.labs
  | [], n, st, st', h, hs => by rw [scan] at hs; cases hs; exact h
  | l :: ls, n, st, st', h, hs => by
    rw [scan] at hs
    cases hl : lineP (n + 1) l st with
    | bad e => rw [hl] at hs; cases hs
    | ok s1 =>
      rw [hl] at hs
      exact scan_dst ls (n + 1) s1 st' (line_dst h hl) hs
end Aw
end Go.Proofs.YtipcockcndnipaaDoor
