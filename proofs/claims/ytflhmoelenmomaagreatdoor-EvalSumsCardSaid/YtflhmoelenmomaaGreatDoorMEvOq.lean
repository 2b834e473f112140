/-
  Lists of expressions that came in: as arguments of a law.
-/
import Derived.Test.YtflhmoelenmomaaGreatDoorMRcFin
namespace Go.Proofs.YtflhmoelenmomaaGreatDoor
open Go.RowKit Go.WideShapes Go.ChangeShapes Go.Deep
namespace Ev
open Rc

section
variable {H : Type} {enc : TypeId × Value → H} {W : World} {base : Nat} {sp : Nat → Bool} {held : Bool}
set_option maxRecDepth 100000 in
theorem open_exs {r : Reach} {b0 : Nat} {v : Value} {d : DataW H} {q : List MemPlace} (hv : Value.okWide Tryz.prog W r b0 22 v)
    (h : DataW.Trod enc Tryz.prog W base sp held 22 v d q) (hw : ∀ n ∈ d.weights Tryz.prog 22, n ≤ reachBytes) :
    ∃ ks, RepX W (fun b => b < W.heap.size) (.mk 3 ⟨#[]⟩ ks) (.agg #[.int .i64 3, .string ⟨#[]⟩, v]) ∧ Sml (.mk 3 ⟨#[]⟩ ks) := by
  obtain ⟨sl0, n0, c0, rfl⟩ := okWide_slice Tryz.underlying22 hv
  obtain ⟨fuel, h2⟩ := h
  simp only [Value.cells] at h2
  have hrb := reachBytes_lt
  rcases DataW.trod_slice Tryz.underlying22 h2 with ⟨e2, -⟩ | ⟨a, len, cap, elems, rest, m, hm, e2, d2, hb, hlc, hcm, hel, hE, -, -⟩
  · simp only [List.cons.injEq, and_true] at e2
    rw [e2]
    exact ⟨[], .leaf _ _ _ _, .mk _ _ _ (by decide) (by decide) (by decide) (by simp) (by simp)⟩
  · simp only [List.cons.injEq, and_true] at e2
    rw [e2]
    have d2' : d = (DataW.slice (elems.map (·.1)) (rest.map (·.1))) := congrArg Prod.fst d2
    rw [d2'] at hw
    simp only [DataW.weights, Tryz.underlying22, bytes_expr] at hw
    have hlr := hw _ (List.mem_cons_self ..)
    simp only [List.length_map] at hlr
    have hx : ∀ i, ∃ q : E × Value × Value × Value, i < len → W.cell? ⟨a.block, a.off + i * 3, none⟩ = some q.2.1 ∧ W.cell? ⟨a.block, a.off + i * 3 + 1, none⟩ = some q.2.2.1 ∧ W.cell? ⟨a.block, a.off + i * 3 + 2, none⟩ = some q.2.2.2 ∧
        a = ⟨a.block, a.off, none⟩ ∧ a.block < W.heap.size ∧ RepX W (fun b => b < W.heap.size) q.1 (.agg #[q.2.1, q.2.2.1, q.2.2.2]) ∧ Sml q.1 := fun i => by
      by_cases hi : i < len
      · have hEi := hE i hi
        have hil : i < elems.length := by omega
        rw [List.getElem?_eq_getElem hil, cells_expr] at hEi
        obtain ⟨cs', hc, ht⟩ := Option.bind_eq_some_iff.1 hEi
        obtain ⟨x, u0, u1, u2, rfl, hr, hsm⟩ := open_expr m cs' elems[i] ht (fun k hk => hw k (List.mem_cons_of_mem _ (List.mem_append_left _ (weightsAll_mem (List.mem_map.2 ⟨_, List.getElem_mem hil, rfl⟩) hk))))
        obtain ⟨_, hcl, hat⟩ := World.cells?_some hc
        have g0 := hat 0 (by decide)
        have g1 := hat 1 (by decide)
        have g2 := hat 2 (by decide)
        have hE0 := hE 0 (by omega)
        rw [List.getElem?_eq_getElem (show 0 < elems.length by omega), cells_expr] at hE0
        obtain ⟨cs0, hc0, _⟩ := Option.bind_eq_some_iff.1 hE0
        obtain ⟨_, hcl0, hat0⟩ := World.cells?_some hc0
        obtain ⟨v, hv⟩ : ∃ v, cs0[0]? = some v := ⟨cs0[0]'(by omega), List.getElem?_eq_getElem (by omega)⟩
        have gg : W.cell? a = some v := by
          have := (hat0 0 (by decide)).trans hv
          simpa [Addr.add] using this
        have ha := spot_cell gg
        rw [ha, spot_plus, spot_plus] at g0 g1 g2
        refine ⟨(x, u0, u1, u2), fun _ => ⟨g0, g1, g2, ha, World.block_lt_of_cell? W a gg, hr, hsm⟩⟩
      · exact ⟨(.mk 0 ⟨#[]⟩ [], .nilIface, .nilIface, .nilIface), fun h => absurd h hi⟩
    have hlen : ((List.range len).map fun i => (Classical.choose (hx i)).1).length = len := by simp
    have hget : ∀ i u, ((List.range len).map fun i => (Classical.choose (hx i)).1)[i]? = some u → i < len ∧ u = (Classical.choose (hx i)).1 := fun i u hu => by
      have hi : i < len := by rw [← hlen]; exact (List.getElem?_eq_some_iff.1 hu).1
      rw [List.getElem?_map, List.getElem?_range hi] at hu
      simp at hu
      exact ⟨hi, hu.symm⟩
    refine ⟨(List.range len).map fun i => (Classical.choose (hx i)).1, ?_, .mk _ _ _ (by decide) (by decide) (by decide) (by rw [hlen]; omega) fun x hxm => ?_⟩
    · have := RepX.mk (W := W) (S := fun b => b < W.heap.size) 3 ⟨#[]⟩ ((List.range len).map fun i => (Classical.choose (hx i)).1) (some a) cap (fun i => (Classical.choose (hx i)).2.1) (fun i => (Classical.choose (hx i)).2.2.1) (fun i => (Classical.choose (hx i)).2.2.2) (by rw [hlen]; exact hlc)
        (fun i u hu => by
          obtain ⟨hi, rfl⟩ := hget i u hu
          obtain ⟨g0, g1, g2, ha, hbl, _, _⟩ := Classical.choose_spec (hx i) hi
          exact ⟨a.block, a.off, by rw [← ha], hbl, g0, g1, g2⟩)
        (fun i u hu => by
          obtain ⟨hi, rfl⟩ := hget i u hu
          exact (Classical.choose_spec (hx i) hi).2.2.2.2.2.1)
      rw [hlen] at this
      exact this
    · obtain ⟨i, hi, rfl⟩ := List.mem_map.1 hxm
      exact (Classical.choose_spec (hx i) (List.mem_range.1 hi)).2.2.2.2.2.2
end
end Ev
end Go.Proofs.YtflhmoelenmomaaGreatDoor
