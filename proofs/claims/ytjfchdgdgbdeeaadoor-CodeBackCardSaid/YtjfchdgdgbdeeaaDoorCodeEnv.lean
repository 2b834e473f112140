/-
  What the rows' list of variables gives the walks of layer 8, and a world for the witness.
-/
import Derived.Test.YtjfchdgdgbdeeaaDoorCodeFin
import Derived.Test.YtjfchdgdgbdeeaaDoorCodeL
namespace Go.Proofs.YtjfchdgdgbdeeaaDoor
open Go.RowKit Go.WideShapes Go.ChangeShapes
namespace Cd

/-- an array of strings that reads as the list holds it, cell for cell -/
theorem cells_of_strs {H : Type} {enc : TypeId × Value → H} {P : Program} {w : World} {base : Nat} {sp : Nat → Bool} {held : Bool} {fuel : Nat} {t e : TypeId} {n : Nat} {cs : List Value} {zs : List (List UInt8)} {p : List MemPlace}
    (ht : P.underlying t = some (.array n e)) (he : P.underlying e = some .string) (hce : P.cellsOf e = 1) (hct : P.cellsOf t = n)
    (h : DataW.trod enc P w base sp held fuel t cs = some (.agg (zs.map fun z => .lit (.string z)), p)) : cs = zs.map fun z => Value.string ⟨z.toArray⟩ := by
  cases fuel with
  | zero => simp [DataW.trod] at h
  | succ fuel =>
    simp only [DataW.trod, ht, hce, hct, Nat.mul_one] at h
    split at h
    · rename_i hl
      obtain ⟨xs, hm, hx⟩ := Option.map_eq_some_iff.1 h
      have hxs : xs.map (·.1) = zs.map fun z => (DataW.lit (.string z) : DataW H) := by
        have := congrArg Prod.fst hx
        simpa using this
      have hxl : xs.length = n := by simpa using Lib.mapM_length hm
      have hzl : zs.length = n := by
        have := congrArg List.length hxs
        simp at this
        omega
      apply List.ext_getElem?
      intro i
      by_cases hi : i < n
      · obtain ⟨b, hb, hf⟩ := Lib.mapM_at hm i i (by simp [hi])
        obtain ⟨z, hc, rfl, _⟩ := DataW.trod_string he hf
        have h1 : cs[i]? = some (.string z) := by
          have := congrArg (·[0]?) hc
          simpa [List.getElem?_take, List.getElem?_drop] using this
        have h2 : (xs.map (·.1))[i]? = some (DataW.lit (.string z.data.toList) : DataW H) := by simp [hb]
        rw [hxs] at h2
        simp only [List.getElem?_map, Option.map_eq_some_iff, DataW.lit.injEq, Lit.string.injEq] at h2
        obtain ⟨z', hz', hzz⟩ := h2
        simp [h1, hz', hzz]
      · rw [List.getElem?_eq_none (by omega), List.getElem?_eq_none (by simp; omega)]
    · cases h

abbrev laidList : List (String × DataW Unit) := Rows.codeWordsRow.laid
theorem tPow : (Tryd.prog.globals[3]?).map (·.type) = some 106 := by kernel_rfl
theorem tWords : (Tryd.prog.globals[0]?).map (·.type) = some 51 := by kernel_rfl
theorem gWords : Tryd.prog.globalNamed "sapling/code.words" = some 0 := by kernel_rfl
theorem cells_tab : Tryd.prog.cellsOf 106 = 20 := by kernel_rfl
theorem cells_words : Tryd.prog.cellsOf 51 = 31 := by kernel_rfl
theorem cells_u64 : Tryd.prog.cellsOf 93 = 1 := by kernel_rfl
theorem cells_str : Tryd.prog.cellsOf 9 = 1 := by kernel_rfl
theorem gLast : Tryd.prog.globalNamed "math/bits.deBruijn64tab" = some 5 := by kernel_rfl
theorem var_lt {P : Program} {W : World} {n : String} {g : Nat} {cs : Array Value} (hg : P.globalNamed n = some g) (h : W.var? P n = some cs) : g < W.heap.size := by
  simp only [World.var?, hg, Option.bind_some] at h
  rcases Nat.lt_or_ge g W.heap.size with h' | h'
  · exact h'
  · simp [Array.getElem?_eq_none h'] at h

theorem env_of {W : World} (hL : laidMetH Tryd.prog laidList W) : Env W := by
  rw [MakeChecks.laidMetH_plain _ _ _ (by kernel_rfl)] at hL
  have hb : 6 ≤ W.heap.size := by
    obtain ⟨ps, ⟨g', t', cs, fuel, p, q, hg', _, hvar, _⟩, _⟩ := hL.tail
    obtain rfl := Option.some.inj (gLast.symm.trans hg')
    exact var_lt gLast hvar
  have h2 := hL.tail.tail
  have h3 := h2.tail
  refine ⟨⟨fun k hk => ?_, by omega⟩, Lib.tabIs_of_head gPow tPow Tryd.underlying106 Tryd.underlying93 cells_u64 cells_tab h2, hb⟩
  obtain ⟨ps, ⟨g', t', cs, fuel, p, q, hg', ht', hvar, hd, _, _⟩, _⟩ := h3
  obtain rfl := Option.some.inj (gWords.symm.trans hg')
  obtain rfl := Option.some.inj (tWords.symm.trans ht')
  have hcs := cells_of_strs (zs := WL) Tryd.underlying51 Tryd.underlying9 cells_str cells_words hd
  have hcell := World.var?_cell gWords hvar k
  rw [hcell]
  have h1 : cs[k]? = cs.toList[k]? := by simp
  rw [h1, hcs]
  have hw : k < WL.length := by simpa [WL] using hk
  simp [wb, wl, List.getElem?_eq_getElem hw]

/-- A WORLD FOR THE WITNESS: what the door's run leaves. -/
noncomputable def laidWorld (os : Os) : World := World.doorLaid Tryd.prog 72 os
theorem laid_met (os : Os) (args : Array Value) : laidMetH Tryd.prog laidList ((laidWorld os).forCall (fun _ _ => 0) ⟨#[], args, []⟩).memory := by
  exact laidMetH_of_parts3 (fuel := 8) (laidMet_of_run' 8 (by kernel_rfl) (by kernel_rfl)) (by kernel_rfl) (by kernel_rfl)

end Cd
end Go.Proofs.YtjfchdgdgbdeeaaDoor
