/-
  A build that came in.
-/
import Derived.Test.YtbhngjhfeejeiaaDoorSxOp
import Derived.Test.YtbhngjhfeejeiaaDoorDvB
namespace Go.Proofs.YtbhngjhfeejeiaaDoor
open Go.RowKit Go.WideShapes Go.ChangeShapes Go.Deep
namespace Dv
theorem cellsIn : Tryd.prog.cellsOf 40 = 2 := by kernel_rfl
set_option maxRecDepth 100000 in
theorem open_ins {H : Type} {enc : TypeId × Value → H} {W : World} {base : Nat} {sp : Nat → Bool} {held : Bool} {v : Value} {fuel : Nat} {y : DataW H × List MemPlace} (hf : DataW.trod enc Tryd.prog W base sp held fuel 26 [v] = some y) :
    ∃ ins, SI W v ins ∧ ∀ x ∈ ins, x.1.size ≤ 9223372036854775807 ∧ x.2.size ≤ 9223372036854775807 := by
  rcases Sx.open_slice_fields Tryd.underlying26 Tryd.underlying40 (by kernel_rfl) (by kernel_rfl) hf with h0 | ⟨a, n, cap, hcs, hl, hm, hi⟩
  · simp at h0
    subst h0
    exact ⟨[], ⟨none, 0, rfl, by simp, fun i x hx => by simp at hx⟩, by simp⟩
  · simp at hcs
    subst hcs
    have hx : ∀ i, ∃ x : ByteArray × ByteArray, i < n → W.cell? ⟨a.block, a.off + i * 2, none⟩ = some (.string x.1) ∧ W.cell? ⟨a.block, a.off + i * 2 + 1, none⟩ = some (.string x.2) ∧ a.block < W.heap.size ∧ a = ⟨a.block, a.off, none⟩ ∧ x.1.size ≤ 9223372036854775807 ∧ x.2.size ≤ 9223372036854775807 := fun i => by
      by_cases hin : i < n
      · obtain ⟨m, hf⟩ := hi i hin
        obtain ⟨v0, y0, g0, t0⟩ := hf 0 _ rfl
        obtain ⟨v1, y1, g1, t1⟩ := hf 1 _ rfl
        obtain ⟨x0, e0, _, s0⟩ := DataW.trod_string Tryd.underlying9 t0
        obtain ⟨x1, e1, _, s1⟩ := DataW.trod_string Tryd.underlying9 t1
        simp at e0 e1
        subst e0 e1
        obtain ⟨m', hf'⟩ := hi 0 (by omega)
        obtain ⟨u, y', gg, _⟩ := hf' 0 _ rfl
        have gg' : W.cell? a = some u := gg
        have ha := Sx.cell_spot gg'
        have k0 : W.cell? (a.add (i * 2 + 0)) = some (.string x0) := g0
        have k1 : W.cell? (a.add (i * 2 + 1)) = some (.string x1) := g1
        rw [ha, Sx.spot_add] at k0 k1
        unfold maxLen at s0 s1
        exact ⟨⟨x0, x1⟩, fun _ => ⟨k0, k1, World.block_lt_of_cell? W a gg', ha, by show x0.size ≤ _; omega, by show x1.size ≤ _; omega⟩⟩
      · exact ⟨⟨⟨#[]⟩, ⟨#[]⟩⟩, fun h => absurd h hin⟩
    refine ⟨(List.range n).map fun i => Classical.choose (hx i), ?_, fun x hxm => ?_⟩
    · have hlen : ((List.range n).map fun i => Classical.choose (hx i)).length = n := by simp
      refine ⟨some a, cap, by rw [hlen], by rw [hlen]; unfold maxLen at hm; omega, fun k x hk => ?_⟩
      have hkn : k < n := by rw [← hlen]; exact (List.getElem?_eq_some_iff.1 hk).1
      have h := Classical.choose_spec (hx k) hkn
      rw [List.getElem?_map, List.getElem?_range hkn] at hk
      simp at hk
      subst hk
      exact ⟨a.block, a.off, by rw [← h.2.2.2.1], h.2.2.1, h.1, h.2.1⟩
    · obtain ⟨i, hin, rfl⟩ := List.mem_map.1 hxm
      have h := Classical.choose_spec (hx i) (List.mem_range.1 hin)
      exact ⟨h.2.2.2.2.1, h.2.2.2.2.2⟩
set_option maxRecDepth 100000 in
theorem open_drv {H : Type} {enc : TypeId × Value → H} {W : World} {r : Reach} {b0 base : Nat} {sp : Nat → Bool} {held : Bool} {v : Value} {d : DataW H} {q : List MemPlace} (hv : Value.okWide Tryd.prog W r b0 28 v)
    (h : DataW.Trod enc Tryd.prog W base sp held 28 v d q) : ∃ (e : D) (sv : Value), v = DV e sv ∧ SI W sv e.ins ∧ DB e := by
  have hs := Tryd.underlying28
  have hp := Tryd.underlying25
  have hC : Tryd.prog.cellsOf 28 = 6 := by kernel_rfl
  have c1 : Tryd.prog.cellsOf 25 = 4 := by kernel_rfl
  have c2 : Tryd.prog.cellsOf 9 = 1 := by kernel_rfl
  have c3 : Tryd.prog.cellsOf 26 = 1 := by kernel_rfl
  have c4 : Tryd.prog.cellsOf 23 = 3 := by kernel_rfl
  have c5 : Tryd.prog.cellsOf 3 = 1 := by kernel_rfl
  obtain ⟨cs, rfl, hsz⟩ := okWide_struct hs hv
  rw [hC] at hsz
  obtain ⟨l⟩ := cs
  match l, hsz with
  | [v0, v1, v2, v3, v4, v5], _ =>
    obtain ⟨fuel, hf⟩ := h
    obtain ⟨y0, y1, y2, n, _, _, h0, h1, h2⟩ := trod_struct3 hs hf
    simp only [Value.cells, c1, c2, c3, List.drop_zero, List.drop_succ_cons, List.take_succ_cons, List.take_zero] at h0 h1 h2
    obtain ⟨z0, z1, m, _, _, g0, g1⟩ := trod_struct2 hp h0
    simp only [c2, c4, List.drop_zero, List.drop_succ_cons, List.take_succ_cons, List.take_zero] at g0 g1
    obtain ⟨u0, u1, u2, m', _, k0, k1, k2⟩ := trod_array3 Tryd.underlying23 c5 g1
    obtain ⟨s0, e0, _, b0⟩ := DataW.trod_string Tryd.underlying9 g0
    obtain ⟨a, ea, _⟩ := DataW.trod_int Tryd.underlying3 k0
    obtain ⟨b, eb, _⟩ := DataW.trod_int Tryd.underlying3 k1
    obtain ⟨c, ec, _⟩ := DataW.trod_int Tryd.underlying3 k2
    obtain ⟨s1, e1, _, b1⟩ := DataW.trod_string Tryd.underlying9 h1
    obtain ⟨ins, hS, hI⟩ := open_ins h2
    simp at e0 ea eb ec e1
    subst e0 ea eb ec e1
    unfold maxLen at b0 b1
    exact ⟨⟨s0, a, b, c, s1, ins⟩, v5, rfl, hS, ⟨by show s0.size ≤ _; omega, by show s1.size ≤ _; omega, hI⟩⟩
end Dv
end Go.Proofs.YtbhngjhfeejeiaaDoor
