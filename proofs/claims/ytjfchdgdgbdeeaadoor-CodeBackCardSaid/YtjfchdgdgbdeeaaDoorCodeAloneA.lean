/-
  Rows of instructions that a call makes, and what is appended to them.
-/
import Derived.Test.YtjfchdgdgbdeeaaDoorCodeAloneP
import Derived.Test.YtjfchdgdgbdeeaaDoorCodeN
namespace Go.Proofs.YtjfchdgdgbdeeaaDoor
open Go.RowKit
namespace Cd

theorem info_ins : (Tryd.prog.info? 31).map (fun i => (i.zero, i.size, i.bytes)) = some (some (.agg #[.int .i64 0, .int .i64 0, .string ⟨#[]⟩]), 3, 32) := by kernel_rfl
def insQ (x : I) : Value × Value × Value := (.int .i64 x.op, .int .i64 x.n, .string x.s)
def rowI (p : List I) : List Value := row3 (p.map insQ)
theorem rowI_len (p : List I) : (rowI p).length = p.length * 3 := by rw [rowI, row3_len, List.length_map]
theorem rowI_app (p q : List I) : rowI (p ++ q) = rowI p ++ rowI q := by simp [rowI, row3, List.flatMap_append]
theorem rowI_one (p : List I) : ∀ u ∈ rowI p, u.oneCell' = true := row3_one _ (fun q hq => by
  obtain ⟨s, _, rfl⟩ := List.mem_map.1 hq
  exact ⟨rfl, rfl, rfl⟩)
theorem PS.of_own {W : World} {B : Nat} {v : Value} {p : List I} (h : W.ownsRow B 31 3 v p.length (rowI p)) (hs : p.length ≤ 1048576) (hnb : ∀ x ∈ p, -9223372036854775808 ≤ x.n ∧ x.n ≤ 9223372036854775807) : PS W v p := by
  obtain ⟨sl, cap, rfl⟩ := own_form h
  refine ⟨by omega, hnb, sl, cap, rfl, fun k x hk => ?_⟩
  have hk0 : k < p.length := (List.getElem?_eq_some_iff.1 hk).1
  obtain ⟨g, c, e, _, hlt⟩ := h.form (by omega)
  cases e
  have hadd : ∀ n, (⟨g, 0, none⟩ : Addr).add n = ⟨g, n, none⟩ := fun n => by unfold Addr.add; split <;> simp_all
  obtain ⟨h1, h2, h3⟩ := row3_get (p.map insQ) k (insQ x) (by rw [List.getElem?_map, hk]; rfl)
  have c1 := h.cells (g := g) rfl _ _ h1
  have c2 := h.cells (g := g) rfl _ _ h2
  have c3 := h.cells (g := g) rfl _ _ h3
  rw [hadd] at c1 c2 c3
  exact ⟨g, 0, rfl, hlt, by rw [Nat.zero_add]; exact c1, by rw [Nat.zero_add]; exact c2, by rw [Nat.zero_add]; exact c3⟩

/-- v is a slice of the instructions xs, nil let in -/
def SR (W : World) (v : Value) (xs : List I) : Prop :=
  (v = .slice none 0 0 ∧ xs = []) ∨ ∃ (a : Addr) (c : Nat), v = .slice (some a) xs.length c ∧ ∀ j u, (rowI xs)[j]? = some u → W.cell? (a.add j) = some u
theorem SR.lit (W : World) (x : I) : SR (W.alloc (.cells #[.int .i64 x.op, .int .i64 x.n, .string x.s] 31)) (.slice (some ⟨W.heap.size, 0, none⟩) 1 1) [x] := by
  refine .inr ⟨_, 1, rfl, fun j u hj => ?_⟩
  match j, hj with
  | 0, hj => simp [rowI, row3, insQ] at hj; subst hj; simp [Addr.add]
  | 1, hj => simp [rowI, row3, insQ] at hj; subst hj; simp [Addr.add]
  | 2, hj => simp [rowI, row3, insQ] at hj; subst hj; simp [Addr.add]
theorem SR.keep {W W' : World} {v : Value} {xs : List I} (h : SR W v xs) (hk : ∀ g, v.ownBlock = some g → W'.heap[g]? = W.heap[g]?) : SR W' v xs := by
  rcases h with ⟨rfl, rfl⟩ | ⟨a, c, rfl, hc⟩
  · exact .inl ⟨rfl, rfl⟩
  · refine .inr ⟨a, c, rfl, fun j u hj => ?_⟩
    have hadd : (a.add j).block = a.block := by unfold Addr.add; split <;> rfl
    exact (World.cell?_of_block (by rw [hadd]; exact hk a.block rfl)).trans (hc j u hj)
theorem SR.below {W W' : World} {v : Value} {xs : List I} (h : SR W v xs) (hb : Below W.heap.size W W') : SR W' v xs := by
  rcases h with ⟨rfl, rfl⟩ | ⟨a, c, rfl, hc⟩
  · exact .inl ⟨rfl, rfl⟩
  · exact .inr ⟨a, c, rfl, fun j u hj => (hb.cell (World.block_lt_of_cell? W _ (hc j u hj))).trans (hc j u hj)⟩
theorem SR.grown {W W' : World} {v : Value} {xs : List I} {row : Option Nat} (h : SR W v xs) (hg : W.grownBy W' row) (hne : ∀ g, v.ownBlock = some g → some g ≠ row) : SR W' v xs := by
  rcases h with ⟨rfl, rfl⟩ | ⟨a, c, rfl, hc⟩
  · exact .inl ⟨rfl, rfl⟩
  · refine .inr ⟨a, c, rfl, fun j u hj => ?_⟩
    have hadd : (a.add j).block = a.block := by unfold Addr.add; split <;> rfl
    have hlt := World.block_lt_of_cell? W _ (hc j u hj)
    exact (World.cell?_of_block (by rw [hadd] at hlt ⊢; exact hg.block _ hlt (hne a.block rfl))).trans (hc j u hj)
theorem own_empty (W : World) : (W.alloc (.cells #[] 31)).ownsRow W.heap.size 31 3 (.slice (some ⟨W.heap.size, 0, none⟩) 0 0) 0 (rowI []) :=
  World.ownsRow_lit W #[] 0 (Nat.le_refl _) (by decide) rfl

/-- the append of such a slice, at a step of a region that draws -/
theorem step_append_sr {ops : Array Oper} {o : Oper} {a : Act} {w : World} {K : Act → World → Prop} {Q : Exit → Act → World → Prop} {E : Prop} (hgd : o.guard = none) (s x : Operand)
    (ho : o.op = .call { callee := .builtin .append, args := #[s, x], argTypes := #[22, 22] })
    (base : Nat) (v : Value) (p : List I) (hs : a.eval s = v) (hown : w.ownsRow base 31 3 v p.length (rowI p))
    (vs : Value) (q : List I) (hx : a.eval x = vs) (hq : SR w vs q) (hpl : p.length + q.length ≤ 1048576) (hbase : base ≤ w.heap.size)
    (h : ∀ v' w', w'.ownsRow base 31 3 v' (p ++ q).length (rowI (p ++ q)) → w.grownBy w' v.ownBlock → K (a.put o.dst v') w') :
    if Region.wanted o (yielded ops a.tmps) = true then Oper.wp Tryd.prog o a w K Q else E := by
  have hw : Region.wanted o (yielded ops a.tmps) = true := by simp [Region.wanted, hgd]
  rw [if_pos hw]
  obtain ⟨i0, hi0, hz0, hz1, hz2⟩ := info_parts info_ins
  rcases hq with ⟨rfl, rfl⟩ | ⟨ad, c, rfl, hc⟩
  · have hrun := run_append_owned_none (P := Tryd.prog) (w := w) base 22 o.type 31 i0 3 Tryd.underlying22 hi0 v p.length (rowI p) hown
    unfold Oper.wp
    simp [execOp, ho, resolve, invoke, builtin, hs, hx, hrun, Result.andThen]
    exact h v w (by simpa using hown) ⟨rfl, rfl, rfl, Nat.le_refl _, fun _ _ _ => rfl⟩
  · refine wp_append_own w s x 22 ho base 31 i0 _ 3 32 Tryd.underlying22 hi0 hz0 hz1 hz2 rfl (by decide) v p.length (rowI p) hs hown ad q.length c (rowI q) hx (rowI_len q) hc (rowI_one q) (by unfold maxLen; omega) (by omega) hbase ?_
    intro v' w' h1 h2 _
    refine h v' w' ?_ h2
    rw [rowI_app, List.length_append]
    exact h1
end Cd
end Go.Proofs.YtjfchdgdgbdeeaaDoor
