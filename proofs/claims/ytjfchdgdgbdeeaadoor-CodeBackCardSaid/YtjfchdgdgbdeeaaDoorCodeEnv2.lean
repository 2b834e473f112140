/-
  What the rows' list of variables gives the walks of Decode, and a world for the witness.
-/
import Derived.Test.YtjfchdgdgbdeeaaDoorCodeRJ
namespace Go.Proofs.YtjfchdgdgbdeeaaDoor
open Go.RowKit Go.WideShapes Go.ChangeShapes
namespace Cd

abbrev laidList2 : List (String × DataW Unit) := Rows.codeReadsRow.laid
theorem tSyn : (Tryd.prog.globals[1]?).map (·.type) = some 60 := by kernel_rfl
theorem tRng : (Tryd.prog.globals[2]?).map (·.type) = some 60 := by kernel_rfl
theorem cells_es : Tryd.prog.cellsOf 115 = 1 := by kernel_rfl
theorem star : "*" ++ "errors.errorString" = "*errors.errorString" := by decide
theorem row_es (u : TypeId) (h : Tryd.prog.typeName? 3 u = some "*errors.errorString") : u = 113 :=
  typeName_ptr_named (nm := "errors.errorString") (by rw [star]; kernel_rfl) (by kernel_rfl) (by decide) u (by rw [star]; exact h)

theorem env2_of {W : World} (hL : laidMetH Tryd.prog laidList2 W) : Env2 W := by
  rw [MakeChecks.laidMetH_plain _ _ _ (by kernel_rfl)] at hL
  have hb : 6 ≤ W.heap.size := by
    obtain ⟨ps, ⟨g', t', cs, fuel, p, q, hg', _, hvar, _⟩, _⟩ := hL.tail
    obtain rfl := Option.some.inj (gLast.symm.trans hg')
    exact var_lt gLast hvar
  have h2 := hL.tail.tail
  have h4 := h2.tail
  have h5 := h4.tail
  have h3 := h5.tail
  obtain ⟨a1, s1, e1, -, -, -⟩ := laid_sentinel h4 gRng tRng Tryd.underlying60 row_es Tryd.underlying113 Tryd.underlying115 rfl rfl Tryd.underlying9 cells_es cells_str
  obtain ⟨a2, s2, e2, -, -, -⟩ := laid_sentinel h5 gSyn tSyn Tryd.underlying60 row_es Tryd.underlying113 Tryd.underlying115 rfl rfl Tryd.underlying9 cells_es cells_str
  refine ⟨⟨⟨fun k hk => ?_, by omega⟩, Lib.tabIs_of_head gPow tPow Tryd.underlying106 Tryd.underlying93 cells_u64 cells_tab h2, hb⟩, ⟨_, _, e2⟩, ⟨_, _, e1⟩⟩
  obtain ⟨ps, ⟨g', t', cs, fuel, p, q, hg', ht', hvar, hd, _, _⟩, _⟩ := h3
  obtain rfl := Option.some.inj (gWords.symm.trans hg')
  obtain rfl := Option.some.inj (tWords.symm.trans ht')
  have hcs := cells_of_strs (zs := WL) Tryd.underlying51 Tryd.underlying9 cells_str cells_words hd
  have hcell := World.var?_cell gWords hvar k
  rw [hcell]
  have h1 : cs[k]? = cs.toList[k]? := by simp
  rw [h1, hcs]
  have hw : k < WL.length := by simpa [WL] using hk
  simp [wb, wl, List.getElem?_eq_getElem hw]
theorem laid_met2 (os : Os) (args : Array Value) : laidMetH Tryd.prog laidList2 ((laidWorld os).forCall (fun _ _ => 0) ⟨#[], args, []⟩).memory := by
  exact laidMetH_of_parts3 (fuel := 8) (laidMet_of_run' 8 (by kernel_rfl) (by kernel_rfl)) (by kernel_rfl) (by kernel_rfl)
end Cd
end Go.Proofs.YtjfchdgdgbdeeaaDoor
