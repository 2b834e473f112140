/-
  Arguments that came in: lists of gaps.
-/
import Derived.Test.YtlmmhhkhoaoheaaGreatDoorSgA
import Derived.Deep.Slices
import Derived.Deep.Fields
import Derived.ChangeSame
import Derived.SizedLaws
import Derived.Lib.SmallJoins
namespace Go.Proofs.YtlmmhhkhoaoheaaGreatDoor
open Go.RowKit Go.WideShapes Go.ChangeShapes Go.Deep
namespace Sg
section
variable {H : Type} {enc : TypeId × Value → H} {P : Program} {w : World} {base : Nat} {spare : Nat → Bool} {held : Bool}
theorem open_slice_fields {t e : TypeId} {fs : Array Field} {fuel : Nat} {cs : List Value} {x : DataW H × List MemPlace} (ht : P.underlying t = some (.slice e)) (he : P.underlying e = some (.struct fs))
    (hone : oneCellFields P fs = true) (hC : P.cellsOf e = fs.size) (h : DataW.trod enc P w base spare held fuel t cs = some x) :
    (cs = [.slice none 0 0]) ∨
    ∃ (a : Addr) (len cap : Nat), cs = [.slice (some a) len cap] ∧ len ≤ cap ∧ cap ≤ maxLen ∧
      ∀ i, i < len → ∃ (n : Nat), ∀ (j : Nat) (f : Field), fs[j]? = some f → ∃ (v : Value) (y : DataW H × List MemPlace), w.cell? (a.add (i * fs.size + j)) = some v ∧ DataW.trod enc P w base spare held n f.type [v] = some y := by
  rcases open_slice ht h with h0 | ⟨a, len, cap, m, n, D, Pl, hcs, hb, hl, hm, hmm, hx, hi⟩
  · exact .inl h0.1
  · refine .inr ⟨a, len, cap, hcs, hl, hm, fun i hil => ?_⟩
    have him : i < m := by rw [hmm]; split <;> omega
    obtain ⟨cs', hc, ht'⟩ := hi i him
    rw [hC] at hc
    obtain ⟨ys, n', hn', hy, hlen, hyl, hf⟩ := DataW.trod_struct he ht'
    obtain ⟨_, hcl, hat⟩ := World.cells?_some hc
    refine ⟨n', fun j f hj => ?_⟩
    obtain ⟨ho, hk⟩ := hone_of hone j f hj
    have hjl : j < fs.size := (Array.getElem?_eq_some_iff.1 hj).1
    have hcell := hat j hjl
    have hv : cs'[j]? = some (cs'[j]'(by omega)) := List.getElem?_eq_getElem (by omega)
    have h1 := hf j f hj
    rw [ho, hk] at h1
    have hone' : (cs'.drop j).take 1 = [cs'[j]'(by omega)] := by
      rw [List.drop_eq_getElem_cons (by omega)]
      rfl
    rw [hone'] at h1
    have hys : ys[j]? = some (ys[j]'(by omega)) := List.getElem?_eq_getElem (by omega)
    refine ⟨_, _, ?_, h1.trans hys⟩
    rw [← Go.Deep.add_add, hcell, hv]
end
theorem cell_spot {W : World} {a : Addr} {v : Value} (h : W.cell? a = some v) : a = ⟨a.block, a.off, none⟩ := by
  obtain ⟨b, o, s⟩ := a
  cases s with
  | none => rfl
  | some s =>
    simp only [World.cell?] at h
    split at h <;> simp at h
theorem spot_add (b o n : Nat) : (⟨b, o, none⟩ : Addr).add n = ⟨b, o + n, none⟩ := by
  unfold Addr.add
  split
  · rename_i h; subst h; rfl
  · rfl

theorem wf_bd {x : Int} (w : (Lit.int .i64 x).wf = true) : N64 x := by
  have e1 : IntKind.i64.min = -9223372036854775808 := by decide
  have e2 : IntKind.i64.max = 9223372036854775807 := by decide
  simp only [Lit.wf, Bool.and_eq_true, decide_eq_true_eq] at w
  unfold N64
  omega
set_option maxRecDepth 100000 in
/-- a list of gaps that came in -/
theorem open_gaps {H : Type} {enc : TypeId × Value → H} {W : World} {r : Reach} {b0 base : Nat} {sp : Nat → Bool} {held : Bool} {v : Value} {d : DataW H} {q : List MemPlace} (hv : Value.okWide Tryz.prog W r b0 23 v)
    (h : DataW.Trod enc Tryz.prog W base sp held 23 v d q) : ∃ p, GS W v p := by
  have hu := Tryz.underlying23
  have hs := Tryz.underlying42
  obtain ⟨sl, n, c, rfl⟩ := okWide_slice hu hv
  obtain ⟨fuel, hf⟩ := h
  rcases open_slice_fields hu hs (by kernel_rfl) (by kernel_rfl) hf with h0 | ⟨a, len, cap, hcs, hl, hm, hi⟩
  · simp [Value.cells] at h0
    obtain ⟨rfl, rfl, rfl⟩ := h0
    exact ⟨[], gs_nil W⟩
  · simp [Value.cells] at hcs
    obtain ⟨rfl, rfl, rfl⟩ := hcs
    have hx : ∀ i, ∃ x : G, i < n → Gc W a.block (a.off + i * 2) x ∧ a.block < W.heap.size ∧ a = ⟨a.block, a.off, none⟩ ∧ N64 x.1 ∧ N64 x.2 := fun i => by
      by_cases hin : i < n
      · obtain ⟨m, hf⟩ := hi i hin
        obtain ⟨v0, y0, g0, t0⟩ := hf 0 _ rfl
        obtain ⟨v1, y1, g1, t1⟩ := hf 1 _ rfl
        obtain ⟨x0, e0, _, w0⟩ := DataW.trod_int Tryz.underlying3 t0
        obtain ⟨x1, e1, _, w1⟩ := DataW.trod_int Tryz.underlying3 t1
        simp at e0 e1
        subst e0 e1
        obtain ⟨m', hf'⟩ := hi 0 (by omega)
        obtain ⟨u, y', gg, _⟩ := hf' 0 _ rfl
        have gg' : W.cell? a = some u := gg
        have ha := cell_spot gg'
        have k0 : W.cell? (a.add (i * 2 + 0)) = some (.int .i64 x0) := g0
        have k1 : W.cell? (a.add (i * 2 + 1)) = some (.int .i64 x1) := g1
        rw [ha, spot_add] at k0 k1
        exact ⟨(x0, x1), fun _ => ⟨⟨k0, k1⟩, World.block_lt_of_cell? W a gg', ha, wf_bd w0, wf_bd w1⟩⟩
      · exact ⟨(0, 0), fun h => absurd h hin⟩
    refine ⟨(List.range n).map fun i => Classical.choose (hx i), ?_⟩
    have hlen : ((List.range n).map fun i => Classical.choose (hx i)).length = n := by simp
    refine ⟨by rw [hlen]; unfold maxLen at hm; omega, fun x hxm => ?_, some a, c, by rw [hlen], (fun e => by cases e), fun k x hk => ?_⟩
    · obtain ⟨i, hin, rfl⟩ := List.mem_map.1 hxm
      have h := Classical.choose_spec (hx i) (List.mem_range.1 hin)
      exact h.2.2.2
    · have hkn : k < n := by rw [← hlen]; exact (List.getElem?_eq_some_iff.1 hk).1
      have h := Classical.choose_spec (hx k) hkn
      rw [List.getElem?_map, List.getElem?_range hkn] at hk
      simp at hk
      subst hk
      exact ⟨a.block, a.off, by rw [← h.2.2.1], h.2.1, h.1⟩
end Sg
end Go.Proofs.YtlmmhhkhoaoheaaGreatDoor
