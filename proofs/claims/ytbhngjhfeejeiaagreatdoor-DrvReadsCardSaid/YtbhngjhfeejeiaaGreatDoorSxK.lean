/-
  Rows of nodes: their facts.
-/
import Derived.Test.YtbhngjhfeejeiaaGreatDoorSxJ
namespace Go.Proofs.YtbhngjhfeejeiaaGreatDoor
open Go.RowKit
namespace Sx

def row3 (l : List (Value × Value × Value)) : List Value := l.flatMap fun q => [q.1, q.2.1, q.2.2]
theorem row3_len : ∀ l, (row3 l).length = l.length * 3
  | [] => rfl
  | q :: l => by have := row3_len l; simp only [row3, List.flatMap_cons, List.length_append, List.length_cons, List.length_nil] at this ⊢; omega
theorem row3_get : ∀ (l : List (Value × Value × Value)) (i : Nat) (q : Value × Value × Value), l[i]? = some q → (row3 l)[i * 3]? = some q.1 ∧ (row3 l)[i * 3 + 1]? = some q.2.1 ∧ (row3 l)[i * 3 + 2]? = some q.2.2
  | [], i, q, h => by simp at h
  | r :: l, 0, q, h => by simp at h; subst h; simp [row3]
  | r :: l, i + 1, q, h => by
    have ih := row3_get l i q (by simpa using h)
    have e : row3 (r :: l) = [r.1, r.2.1, r.2.2] ++ row3 l := rfl
    have e1 : (i + 1) * 3 = i * 3 + 3 := by omega
    have ee : ∀ j, (row3 (r :: l))[j + 3]? = (row3 l)[j]? := fun j => by rw [e, List.getElem?_append_right (by simp)]; simp
    rw [e1, show i * 3 + 3 + 1 = i * 3 + 1 + 3 by omega, show i * 3 + 3 + 2 = i * 3 + 2 + 3 by omega, ee, ee, ee]
    exact ih
theorem row3_snoc (l : List (Value × Value × Value)) (q : Value × Value × Value) : row3 (l ++ [q]) = row3 l ++ [q.1, q.2.1, q.2.2] := by simp [row3]
theorem row3_one (l : List (Value × Value × Value)) (h : ∀ q ∈ l, q.1.oneCell' = true ∧ q.2.1.oneCell' = true ∧ q.2.2.oneCell' = true) : ∀ u ∈ row3 l, u.oneCell' = true := by
  intro u hu
  simp only [row3, List.mem_flatMap, List.mem_cons, List.not_mem_nil, or_false] at hu
  obtain ⟨q, hq, rfl | rfl | rfl⟩ := hu
  · exact (h q hq).1
  · exact (h q hq).2.1
  · exact (h q hq).2.2

/-- a row of the call's own as triples -/
theorem own_row3 {W : World} {B : Nat} {v : Value} {l : List (Value × Value × Value)} (h : W.ownsRow B 39 3 v l.length (row3 l)) (hl : 0 < l.length) :
    ∃ g cap, v = .slice (some ⟨g, 0, none⟩) l.length cap ∧ B ≤ g ∧ g < W.heap.size ∧ ∀ i q, l[i]? = some q → W.cell? ⟨g, 0 + i * 3, none⟩ = some q.1 ∧ W.cell? ⟨g, 0 + i * 3 + 1, none⟩ = some q.2.1 ∧ W.cell? ⟨g, 0 + i * 3 + 2, none⟩ = some q.2.2 := by
  obtain ⟨g, cap, rfl, hg, hlt⟩ := h.form hl
  have hadd : ∀ n, (⟨g, 0, none⟩ : Addr).add n = ⟨g, n, none⟩ := fun n => by unfold Addr.add; split <;> simp_all
  refine ⟨g, cap, rfl, hg, hlt, fun i q hq => ?_⟩
  obtain ⟨h1, h2, h3⟩ := row3_get l i q hq
  have c1 := h.cells (g := g) rfl _ _ h1
  have c2 := h.cells (g := g) rfl _ _ h2
  have c3 := h.cells (g := g) rfl _ _ h3
  rw [hadd] at c1 c2 c3
  simp only [Nat.zero_add]
  exact ⟨c1, c2, c3⟩

def leafQ (s : ByteArray) : Value × Value × Value := (.bool true, .string s, .slice none 0 0)
def listQ (z : Value) : Value × Value × Value := (.bool false, .string ⟨#[]⟩, z)
/-- z is a slice of atoms -/
def KB (W : World) (ts : List ByteArray) (z : Value) : Prop := ∃ g cap, z = .slice (some ⟨g, 0, none⟩) ts.length cap ∧ g < W.heap.size ∧ 0 < ts.length ∧ ∀ i s, ts[i]? = some s → W.cell? ⟨g, 0 + i * 3, none⟩ = some (.bool true) ∧ W.cell? ⟨g, 0 + i * 3 + 1, none⟩ = some (.string s) ∧ W.cell? ⟨g, 0 + i * 3 + 2, none⟩ = some (.slice none 0 0)
theorem KB.of_own {W : World} {B : Nat} {v : Value} {ts : List ByteArray} (h : W.ownsRow B 39 3 v ts.length (row3 (ts.map leafQ))) (hl : 0 < ts.length) : KB W ts v := by
  have h' : W.ownsRow B 39 3 v (ts.map leafQ).length (row3 (ts.map leafQ)) := by rw [List.length_map]; exact h
  obtain ⟨g, cap, rfl, _, hlt, hc⟩ := own_row3 h' (by rw [List.length_map]; exact hl)
  refine ⟨g, cap, by rw [List.length_map], hlt, hl, fun i s hs => hc i (leafQ s) (by rw [List.getElem?_map, hs]; rfl)⟩
theorem KB.keep {W W' : World} {ts : List ByteArray} {z : Value} (h : KB W ts z) (hs : W.heap.size ≤ W'.heap.size) (hk : ∀ g cap, z = .slice (some ⟨g, 0, none⟩) ts.length cap → W'.heap[g]? = W.heap[g]?) : KB W' ts z := by
  obtain ⟨g, cap, rfl, hlt, hl, hc⟩ := h
  refine ⟨g, cap, rfl, Nat.lt_of_lt_of_le hlt hs, hl, fun i s hi => ?_⟩
  have hb := hk g cap rfl
  obtain ⟨h1, h2, h3⟩ := hc i s hi
  exact ⟨(World.cell?_of_block hb).trans h1, (World.cell?_of_block hb).trans h2, (World.cell?_of_block hb).trans h3⟩
theorem KB.below {W W' : World} {ts : List ByteArray} {z : Value} (h : KB W ts z) (hb : Below W.heap.size W W') : KB W' ts z := by
  have h' := h
  obtain ⟨g, cap, rfl, hlt, _, _⟩ := h
  refine h'.keep hb.size (fun g' cap' e => ?_)
  cases e
  exact hb.block g hlt
theorem KB.rep {W : World} {ts : List ByteArray} {z : Value} (h : KB W ts z) : Rep W W.heap.size 1 (.list (ts.map .leaf)) (.agg #[.bool false, .string ⟨#[]⟩, z]) := by
  obtain ⟨g, cap, rfl, hlt, hl, hc⟩ := h
  have hlen : ts.length = (ts.map T.leaf).length := by simp
  rw [hlen]
  refine .list 0 _ _ _ (fun _ => .bool true) (fun i => .string (ts.getD i ⟨#[]⟩)) (fun _ => .slice none 0 0) (fun i k hk => ?_) (fun i k hk => ?_)
  · rw [List.getElem?_map] at hk
    obtain ⟨s, hs, rfl⟩ := Option.map_eq_some_iff.1 hk
    obtain ⟨h1, h2, h3⟩ := hc i s hs
    exact ⟨g, 0, rfl, hlt, h1, by rw [List.getD_eq_getElem?_getD, hs]; exact h2, h3⟩
  · rw [List.getElem?_map] at hk
    obtain ⟨s, hs, rfl⟩ := Option.map_eq_some_iff.1 hk
    rw [List.getD_eq_getElem?_getD, hs]
    exact .leaf 0 s
end Sx
end Go.Proofs.YtbhngjhfeejeiaaGreatDoor
