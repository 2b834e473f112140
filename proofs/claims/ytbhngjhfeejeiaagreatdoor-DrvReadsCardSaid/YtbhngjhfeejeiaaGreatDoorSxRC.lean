/-
  Walk: the reader's node, for every text.
-/
import Derived.Test.YtbhngjhfeejeiaaGreatDoorSxRB
namespace Go.Proofs.YtbhngjhfeejeiaaGreatDoor
open Go.RowKit
namespace Sx

theorem tk_leaf (h : Nat) {l : List UInt8} {c : UInt8} {r : List UInt8} (hl : l = c :: r) (hc : c ≠ 40) : tk h l = atomO l := by
  subst hl
  cases h <;> simp [tk, hc]
theorem tk_nil (h : Nat) : tk h [] = .bad 5 := by cases h <;> simp [tk]
theorem drop_cons {s : ByteArray} {a : Nat} (h : a < s.size) : s.data.toList.drop a = s[a] :: s.data.toList.drop (a + 1) := by
  rw [List.drop_eq_getElem_cons (by have := Lib.size_eq s; omega)]
  rfl
theorem drop_end {s : ByteArray} : s.data.toList.drop s.size = [] := by
  apply List.drop_of_length_le
  rw [Lib.size_eq]
  exact Nat.le_refl _
theorem kids_end (f : List UInt8 → Out) (m : Nat) (acc : List T) (u : Nat) : kidsP f (m + 1) [] acc u = .bad 5 := rfl
theorem kids_close (f : List UInt8 → Out) (m : Nat) (r : List UInt8) (acc : List T) (u : Nat) : kidsP f (m + 1) (41 :: r) acc u = .ok (.list acc) (u + 1) := by simp [kidsP]
theorem kids_bad {f : List UInt8 → Out} {m : Nat} {c : UInt8} (hc : c ≠ 41) {r : List UInt8} {acc : List T} {u : Nat} {e : Int} (h : f (c :: r) = .bad e) : kidsP f (m + 1) (c :: r) acc u = .bad e := by
  rw [kidsP, if_neg hc, h]
theorem kids_ok {f : List UInt8 → Out} {m : Nat} {c : UInt8} (hc : c ≠ 41) {r : List UInt8} {acc : List T} {u : Nat} {t : T} {n : Nat} (h : f (c :: r) = .ok t n) : kidsP f (m + 1) (c :: r) acc u = kidsP f m ((c :: r).drop n) (acc ++ [t]) (u + n) := by
  rw [kidsP, if_neg hc, h]
theorem RN.more {W : World} {b : Nat} {s : ByteArray} {a : Nat} {o : Out} {e : Ending} {W' : World} (h : RN W b s a 0 o e W') (k : Nat) : RN W b s a k o e W' := by
  obtain ⟨⟨x, y, z, he, hm⟩, hf⟩ := h
  refine ⟨⟨x, y, z, he, ?_⟩, hf⟩
  cases o with
  | bad f => exact hm
  | ok t n =>
    refine ⟨?_, hm.2⟩
    induction k with
    | zero => exact hm.1
    | succ k ih => exact ih.more

/-- a kid's three cells -/
abbrev Q3 := Value × Value × Value
/-- the kids that are read -/
structure KR (W : World) (B h : Nat) (v : Value) (ts : List T) (qs : List Q3) : Prop where
  len : qs.length = ts.length
  own : W.ownsRow B 39 3 v ts.length (row3 qs)
  nil : ts.length = 0 → v = .slice none 0 0
  one : ∀ q ∈ qs, q.1.oneCell' = true ∧ q.2.1.oneCell' = true ∧ q.2.2.oneCell' = true
  rep : ∀ (i : Nat) (q : Q3) (t : T), qs[i]? = some q → ts[i]? = some t → RepS W (fun k => B ≤ k ∧ k < W.heap.size ∧ v.ownBlock ≠ some k) h t (.agg #[q.1, q.2.1, q.2.2])
theorem KR.start (W : World) (B h : Nat) : KR W B h (.slice none 0 0) [] [] := ⟨rfl, World.ownsRow_nil _ _ _ _, fun _ => rfl, fun q hq => by simp at hq, fun i q t hq => by simp at hq⟩
theorem KR.same {W W' : World} {B h : Nat} {v : Value} {ts : List T} {qs : List Q3} (k : KR W B h v ts qs) (hs : W.heap.size ≤ W'.heap.size) (hb : ∀ j, B ≤ j → j < W.heap.size → W'.heap[j]? = W.heap[j]?) : KR W' B h v ts qs := by
  refine ⟨k.len, own_block k.own (fun j hj => hb j (k.own.lt j hj).1 (k.own.lt j hj).2), k.nil, k.one, fun i q t hq ht => ?_⟩
  refine ((k.rep i q t hq ht).same (fun b o hS => World.cell?_of_block (hb b hS.1 hS.2.1))).sub (fun j hj => ⟨hj.1, Nat.lt_of_lt_of_le hj.2.1 hs, hj.2.2⟩)
/-- one kid more -/
theorem KR.snoc {W0 W W' : World} {B h : Nat} {v : Value} {ts : List T} {qs : List Q3} (k : KR W0 B h v ts qs) (hs : W0.heap.size ≤ W.heap.size) (hb : ∀ j, B ≤ j → j < W0.heap.size → W.heap[j]? = W0.heap[j]?) (hB : B ≤ W0.heap.size)
    {q : Q3} {t : T} (hq1 : q.1.oneCell' = true ∧ q.2.1.oneCell' = true ∧ q.2.2.oneCell' = true) (hr : RepS W (fun k => W0.heap.size ≤ k ∧ k < W.heap.size) h t (.agg #[q.1, q.2.1, q.2.2]))
    {g cap : Nat} {H : Nat} (hH : W.heap.size ≤ H) (hg : W.heap.size ≤ W'.heap.size ∧ ∀ j, j < W.heap.size → v.ownBlock ≠ some j → W'.heap[j]? = W.heap[j]?)
    (hat : v.ownBlock = some g ∨ g = H) (hown : W'.ownsRow B 39 3 (.slice (some ⟨g, 0, none⟩) (ts.length + 1) cap) (ts.length + 1) (row3 qs ++ [q.1, q.2.1, q.2.2])) :
    KR W' B h (.slice (some ⟨g, 0, none⟩) (ts.length + 1) cap) (ts ++ [t]) (qs ++ [q]) := by
  have hv : ∀ j, v.ownBlock = some j → B ≤ j ∧ j < W0.heap.size := fun j hj => k.own.lt j hj
  have hob : (Value.slice (some ⟨g, 0, none⟩) (ts.length + 1) cap).ownBlock = some g := rfl
  refine ⟨by simp [k.len], ?_, fun h0 => by simp at h0, fun q' hq' => ?_, fun i q' t' hq' ht' => ?_⟩
  · rw [List.length_append, List.length_singleton, row3_snoc]
    exact hown
  · rw [List.mem_append, List.mem_singleton] at hq'
    rcases hq' with hq' | rfl
    · exact k.one q' hq'
    · exact hq1
  · rcases Nat.lt_or_ge i qs.length with hi | hi
    · rw [List.getElem?_append_left hi] at hq'
      rw [List.getElem?_append_left (by rw [← k.len]; exact hi)] at ht'
      have hS := k.rep i q' t' hq' ht'
      refine (hS.same (fun b o hS => World.cell?_of_block ?_)).sub (fun j hj => ⟨hj.1, by omega, fun e => ?_⟩)
      · rw [hg.2 b (by omega) hS.2.2, hb b hS.1 hS.2.1]
      · rw [hob] at e
        cases e
        rcases hat with hat | hat
        · exact hj.2.2 hat
        · omega
    · have hi' : i < (qs ++ [q]).length := (List.getElem?_eq_some_iff.1 hq').1
      simp at hi'
      obtain rfl : i = qs.length := by omega
      simp at hq'
      rw [k.len] at ht'
      simp at ht'
      subst hq' ht'
      refine (hr.same (fun b o hS => World.cell?_of_block (hg.2 b hS.2 (fun e => ?_)))).sub (fun j hj => ⟨by omega, by omega, fun e => ?_⟩)
      · have := hv b e; omega
      · rw [hob] at e
        cases e
        rcases hat with hat | hat
        · have := hv g hat; omega
        · omega
theorem own_room {W : World} {B g n cap : Nat} {e : TypeId} {sz : Nat} {xs : List Value} (h : W.ownsRow B e sz (.slice (some ⟨g, 0, none⟩) n cap) n xs) : n ≤ cap := by
  rcases h.2 with ⟨e, _⟩ | ⟨g', cap', cur, e, _, _, hl, _⟩
  · cases e
  · cases e; exact hl
/-- all kids: a list -/
theorem KR.list {W : World} {B h : Nat} {v : Value} {ts : List T} {qs : List Q3} (k : KR W B h v ts qs) : RepS W (fun k => B ≤ k ∧ k < W.heap.size) (h + 1) (.list ts) (.agg #[.bool false, .string ⟨#[]⟩, v]) := by
  rcases Nat.eq_zero_or_pos ts.length with h0 | h0
  · rw [k.nil h0, List.length_eq_zero_iff.1 h0]
    exact RepS.nil _ _ _
  · have h' : W.ownsRow B 39 3 v qs.length (row3 qs) := by rw [k.len]; exact k.own
    obtain ⟨g, cap, rfl, hB, hlt, hc⟩ := own_row3 h' (by rw [k.len]; exact h0)
    rw [k.len]
    refine .list h ts _ cap (fun i => (qs.getD i (.nilIface, .nilIface, .nilIface)).1) (fun i => (qs.getD i (.nilIface, .nilIface, .nilIface)).2.1) (fun i => (qs.getD i (.nilIface, .nilIface, .nilIface)).2.2) (by rw [k.len] at h'; exact own_room h') (fun i t ht => ?_) (fun i t ht => ?_)
    · have hi : i < qs.length := by rw [k.len]; exact (List.getElem?_eq_some_iff.1 ht).1
      have hq : qs[i]? = some qs[i] := List.getElem?_eq_getElem hi
      rw [List.getD_eq_getElem?_getD, hq]
      obtain ⟨h1, h2, h3⟩ := hc i _ hq
      exact ⟨g, 0, rfl, ⟨hB, hlt⟩, h1, h2, h3⟩
    · have hi : i < qs.length := by rw [k.len]; exact (List.getElem?_eq_some_iff.1 ht).1
      have hq : qs[i]? = some qs[i] := List.getElem?_eq_getElem hi
      rw [List.getD_eq_getElem?_getD, hq]
      exact (k.rep i _ t hq ht).sub (fun j hj => ⟨hj.1, hj.2.1⟩)
end Sx
end Go.Proofs.YtbhngjhfeejeiaaGreatDoor
