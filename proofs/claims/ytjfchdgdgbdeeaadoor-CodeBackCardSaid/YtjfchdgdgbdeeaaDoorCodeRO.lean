/-
  The reference's reading of a program: its facts.
-/
import Derived.Test.YtjfchdgdgbdeeaaDoorCodeRN
import Derived.Test.YtjfchdgdgbdeeaaDoorCodeT
namespace Go.Proofs.YtjfchdgdgbdeeaaDoor
open Go.RowKit
namespace Cd

theorem ins_shape {u : T} {y : I} (h : InsP u y) : (∃ a, u = .list [.leaf a]) ∨ (∃ a b, u = .list [.leaf a, .leaf b]) := by
  cases u with
  | leaf s => exact absurd h (ins_leaf y)
  | list ks =>
    obtain ⟨h1, h2, h3⟩ := ins_kids h
    rcases two_shape (by omega) (by omega) h3 with ⟨a, rfl⟩ | ⟨a, b, rfl⟩
    · exact .inl ⟨a, rfl⟩
    · exact .inr ⟨a, b, rfl⟩
theorem ins_some {u : T} {y : I} (h : InsP u y) : 1 ≤ (kids u).length := by
  rcases ins_shape h with ⟨a, rfl⟩ | ⟨a, b, rfl⟩ <;> simp [kids]
theorem loose1 {u k0 : T} {y : I} (h : InsP u y) (hl : (kids u).length = 1) (h0 : (kids u)[0]? = some k0) : y = ⟨opN (txt k0).data.toList, 0, ⟨#[]⟩⟩ := by
  rcases ins_shape h with ⟨a, rfl⟩ | ⟨a, b, rfl⟩
  · simp [kids] at h0
    subst h0
    obtain ⟨h1, h2⟩ := ins_one h
    exact h.uniq (ins_one_mk h1 h2)
  · simp [kids] at hl
theorem loose2t {u k0 k1 : T} {y : I} (h : InsP u y) (hl : 1 < (kids u).length) (h0 : (kids u)[0]? = some k0) (h1 : (kids u)[1]? = some k1) (ht : takes (opN (txt k0).data.toList : Int) = 2) : y = ⟨opN (txt k0).data.toList, 0, txt k1⟩ := by
  rcases ins_shape h with ⟨a, rfl⟩ | ⟨a, b, rfl⟩
  · simp [kids] at hl
  · simp [kids] at h0 h1
    subst h0 h1
    obtain ⟨g1, g2, g3, g4, g5⟩ := ins_two h
    exact h.uniq (ins_two_txt g1 ht)
theorem loose2n {u k0 k1 : T} {y : I} (h : InsP u y) (hl : 1 < (kids u).length) (h0 : (kids u)[0]? = some k0) (h1 : (kids u)[1]? = some k1) (ht : takes (opN (txt k0).data.toList : Int) ≠ 2) : Lib.atoiAll (txt k1).data.toList = .ok y.n ∧ y = ⟨opN (txt k0).data.toList, y.n, ⟨#[]⟩⟩ := by
  rcases ins_shape h with ⟨a, rfl⟩ | ⟨a, b, rfl⟩
  · simp [kids] at hl
  · simp [kids] at h0 h1
    subst h0 h1
    obtain ⟨g1, g2, g3, g4, g5⟩ := ins_two h
    obtain ⟨g6, g7⟩ := g5 ht
    refine ⟨?_, h.uniq (ins_two_num g1 g2 ht g6 h.nb.1 h.nb.2)⟩
    have := atoi_itoa y.n h.nb.1 h.nb.2
    show Lib.atoiAll b.data.toList = _
    rw [← g6]
    exact this
/-- what is read kid by kid -/
structure RL (W w1 wr : World) (t : T) (v : Value) (ps : List I) (k : Nat) : Prop where
  len : ps.length = k
  own : wr.ownsRow (w1.heap.size + 1) 31 3 v k (rowI ps)
  nb : ∀ x ∈ ps, N64 x
  loose : ∀ (j : Nat) (u : T) (x y : I), (kids t)[j]? = some u → ps[j]? = some x → InsP u y → y = x
  old : Below w1.heap.size w1 wr
theorem RL.snoc {W w1 wr w2 w3 : World} {t : T} {v v' : Value} {ps : List I} {k : Nat} (L : RL W w1 wr t v ps k) {u : T} {x : I} (hu : (kids t)[k]? = some u) (hn : N64 x) (hy : ∀ y, InsP u y → y = x)
    (hb : Below wr.heap.size wr w2) (hgr : w2.grownBy w3 v.ownBlock) (hown : w3.ownsRow (w1.heap.size + 1) 31 3 v' (k + 1) (rowI ps ++ [.int .i64 x.op, .int .i64 x.n, .string x.s])) : RL W w1 w3 t v' (ps ++ [x]) (k + 1) := by
  refine ⟨by simp [L.len], ?_, fun y hy' => ?_, fun j u' x' y hu' hx' hins => ?_, ?_⟩
  · rw [rowI_app]
    exact hown
  · rw [List.mem_append, List.mem_singleton] at hy'
    rcases hy' with hy' | rfl
    · exact L.nb y hy'
    · exact hn
  · by_cases hjk : j < k
    · rw [List.getElem?_append_left (by rw [L.len]; exact hjk)] at hx'
      exact L.loose j u' x' y hu' hx' hins
    · have hjl := (List.getElem?_eq_some_iff.1 hx').1
      rw [List.length_append, List.length_singleton, L.len] at hjl
      obtain rfl : j = k := by omega
      rw [hu] at hu'
      cases hu'
      rw [← L.len] at hx'
      simp at hx'
      subst hx'
      exact hy y hins
  · have h1 := L.old.trans (hb.mono L.old.size)
    exact h1.grown hgr h1.size (fun g hg => Nat.le_of_succ_le (L.own.lt g hg).1)
theorem RL.all {W w1 wr : World} {t : T} {v : Value} {ps p : List I} (L : RL W w1 wr t v ps (kids t).length) (h : IsP t p) : ps = p := by
  have hl := L.len
  have ht := h.tree
  refine list_ext (by rw [hl, ← ht, progT_kids, List.length_map]) (fun j x y hx hy => ?_)
  have hk : (kids t)[j]? = some (insT y) := by rw [← ht, progT_kids, List.getElem?_map, hy]; rfl
  exact (L.loose j _ x y hk hx (h.ins y (List.mem_of_getElem? hy))).symm
end Cd
end Go.Proofs.YtjfchdgdgbdeeaaDoor
