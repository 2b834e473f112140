/-
  What the rows' list of variables gives the walks of layer 10, and a world for the witness.
-/
import Derived.Test.YtbefgplaaghlbaaGreatDoorCodeFin
import Derived.Test.YtbefgplaaghlbaaGreatDoorShelfM
import Derived.Test.YtbefgplaaghlbaaGreatDoorMVmQ
namespace Go.Proofs.YtbefgplaaghlbaaGreatDoor
open Go.RowKit Go.WideShapes Go.ChangeShapes
namespace VmEv
open Vm

theorem tPow : (Tryz.prog.globals[1]?).map (·.type) = some 137 := by kernel_rfl
theorem tSyn : (Tryz.prog.globals[3]?).map (·.type) = some 102 := by kernel_rfl
theorem tRng : (Tryz.prog.globals[4]?).map (·.type) = some 102 := by kernel_rfl
theorem tWords : (Tryz.prog.globals[0]?).map (·.type) = some 109 := by kernel_rfl
theorem gWords : Tryz.prog.globalNamed "sapling/code.words" = some 0 := by kernel_rfl
theorem cells_tab : Tryz.prog.cellsOf 137 = 20 := by kernel_rfl
theorem cells_words : Tryz.prog.cellsOf 109 = 31 := by kernel_rfl
theorem cells_u64 : Tryz.prog.cellsOf 120 = 1 := by kernel_rfl
theorem cells_str : Tryz.prog.cellsOf 9 = 1 := by kernel_rfl
theorem cells_es : Tryz.prog.cellsOf 168 = 1 := by kernel_rfl
theorem star : "*" ++ "errors.errorString" = "*errors.errorString" := by decide
theorem row_es (u : TypeId) (h : Tryz.prog.typeName? 3 u = some "*errors.errorString") : u = 166 :=
  typeName_ptr_named (nm := "errors.errorString") (by rw [star]; kernel_rfl) (by kernel_rfl) (by decide) u (by rw [star]; exact h)
theorem gLast : Tryz.prog.globalNamed "unicode/utf8.first" = some 7 := by kernel_rfl
theorem gAcc : Tryz.prog.globalNamed "unicode/utf8.acceptRanges" = some 8 := by kernel_rfl
theorem var_lt {P : Program} {W : World} {n : String} {g : Nat} {cs : Array Value} (hg : P.globalNamed n = some g) (h : W.var? P n = some cs) : g < W.heap.size := by
  simp only [World.var?, hg, Option.bind_some] at h
  rcases Nat.lt_or_ge g W.heap.size with h' | h'
  · exact h'
  · simp [Array.getElem?_eq_none h'] at h
/-- the numbers of a listed table as a variable holds them -/
def numsOf {H : Type} : DataW H → Array Value
  | .agg ds => (ds.map fun | .lit (.int k n) => Value.int k n | _ => Value.nilIface).toArray
  | _ => #[]
noncomputable def laidWorld (os : Os) : World :=
  { World.doorLaid Tryz.prog 72 os with heap := (World.doorLaid Tryz.prog 72 os).heap.modify 7 fun
      | .cells _ t frozen => .cells (numsOf Go.Pinned.utf8First) t frozen
      | o => o }
/-- an array of strings that reads as the list holds it, cell for cell -/
theorem cells_of_strs {H : Type} {enc : TypeId × Value → H} {P : Program} {w : World} {base : Nat} {sp : Nat → Bool} {held : Bool} {fuel : Nat} {t e : TypeId} {n : Nat} {cs : List Value} {zs : List (List UInt8)} {p : List MemPlace}
    (ht : P.underlying t = some (.array n e)) (he : P.underlying e = some .string) (hce : P.cellsOf e = 1) (hct : P.cellsOf t = n)
    (h : DataW.trod enc P w base sp held fuel t cs = some (.agg (zs.map fun z => .lit (.string z)), p)) : cs = zs.map fun z => Value.string ⟨z.toArray⟩ := by
  cases fuel with
  | zero => simp [DataW.trod] at h
  | succ fuel =>
    simp only [DataW.trod, ht, hce, hct, Nat.mul_one] at h
    split at h
    · rename_i hl
      obtain ⟨xs, hm, hx⟩ := Option.map_eq_some_iff.1 h
      have hxs : xs.map (·.1) = zs.map fun z => (DataW.lit (.string z) : DataW H) := by
        have := congrArg Prod.fst hx
        simpa using this
      have hxl : xs.length = n := by simpa using Lib.mapM_length hm
      have hzl : zs.length = n := by
        have := congrArg List.length hxs
        simp at this
        omega
      apply List.ext_getElem?
      intro i
      by_cases hi : i < n
      · obtain ⟨b, hb, hf⟩ := Lib.mapM_at hm i i (by simp [hi])
        obtain ⟨z, hc, rfl, _⟩ := DataW.trod_string he hf
        have h1 : cs[i]? = some (.string z) := by
          have := congrArg (·[0]?) hc
          simpa [List.getElem?_take, List.getElem?_drop] using this
        have h2 : (xs.map (·.1))[i]? = some (DataW.lit (.string z.data.toList) : DataW H) := by simp [hb]
        rw [hxs] at h2
        simp only [List.getElem?_map, Option.map_eq_some_iff, DataW.lit.injEq, Lit.string.injEq] at h2
        obtain ⟨z', hz', hzz⟩ := h2
        simp [h1, hz', hzz]
      · rw [List.getElem?_eq_none (by omega), List.getElem?_eq_none (by simp; omega)]
    · cases h
/-- each row's list -/
abbrev laidL : List (String × DataW Unit) := [("math/bits.deBruijn32tab", Rows.laid_math_bits_deBruijn32tab), ("math/bits.deBruijn64tab", Rows.laid_math_bits_deBruijn64tab), ("internal/strconv.uint64pow10", Rows.laid_internal_strconv_uint64pow10), ("unicode/utf8.acceptRanges", Rows.laid_unicode_utf8_acceptRanges), ("strconv.ErrRange", Rows.laid_strconv_ErrRange), ("strconv.ErrSyntax", Rows.laid_strconv_ErrSyntax), ("sapling/code.words", Rows.laid_sapling_code_words), ("unicode/utf8.first", Rows.laid_unicode_utf8_first)]
/-- the variables out of a row's list -/
theorem env_of {W : World} (hL : laidMetH Tryz.prog laidL W) (hsh : W.ShapedOpen Tryz.prog) : Env W := by
  rw [MakeChecks.laidMetH_plain _ _ _ (by kernel_rfl)] at hL
  have hb : 7 < W.heap.size := by
    obtain ⟨ps, ⟨g', t', cs, fuel, p, q, hg', _, hvar, _⟩, _⟩ := hL.tail.tail.tail.tail.tail.tail.tail
    obtain rfl := Option.some.inj (gLast.symm.trans hg')
    exact var_lt gLast hvar
  have hb2 : 8 < W.heap.size := by
    obtain ⟨ps, ⟨g', t', cs, fuel, p, q, hg', _, hvar, _⟩, _⟩ := hL.tail.tail.tail
    obtain rfl := Option.some.inj (gAcc.symm.trans hg')
    exact var_lt gAcc hvar
  have h2 := hL.tail.tail
  have h4 := h2.tail.tail
  have h5 := h4.tail
  have h3 := h5.tail
  obtain ⟨a1, s1, e1, -, -, -⟩ := laid_sentinel h4 gRng tRng Tryz.underlying102 row_es Tryz.underlying166 Tryz.underlying168 rfl rfl Tryz.underlying9 cells_es cells_str
  obtain ⟨a2, s2, e2, -, -, -⟩ := laid_sentinel h5 gSyn tSyn Tryz.underlying102 row_es Tryz.underlying166 Tryz.underlying168 rfl rfl Tryz.underlying9 cells_es cells_str
  have hp : Lib.TabIs Tryz.prog W "internal/strconv.uint64pow10" .u64 Lib.pow10Tab := Lib.tabIs_of_head gPow tPow Tryz.underlying137 Tryz.underlying120 cells_u64 cells_tab h2
  refine ⟨Tryz.laysM146.s1_3 W hsh, ⟨fun k hk => ?_, by omega⟩, hp, ⟨_, _, e2⟩, ⟨_, _, e1⟩, by omega⟩
  obtain ⟨ps, ⟨g', t', cs, fuel, p, q, hg', ht', hvar, hd, _, _⟩, _⟩ := h3
  obtain rfl := Option.some.inj (gWords.symm.trans hg')
  obtain rfl := Option.some.inj (tWords.symm.trans ht')
  have hcs := cells_of_strs (zs := Cd.WL) Tryz.underlying109 Tryz.underlying9 cells_str cells_words hd
  have hcell := World.var?_cell gWords hvar k
  rw [hcell]
  have h1 : cs[k]? = cs.toList[k]? := by simp
  rw [h1, hcs]
  have hw : k < Cd.WL.length := by simpa [Cd.WL] using hk
  simp [Cd.wb, Cd.wl, List.getElem?_eq_getElem hw]
theorem laid_met (os : Os) (args : Array Value) : laidMetH Tryz.prog laidL ((laidWorld os).forCall (fun _ _ => 0) ⟨#[], args, []⟩).memory :=
  laidMetH_of_parts3 (fuel := 8) (laidMet_of_run' 8 (by kernel_rfl) (by kernel_rfl)) (by kernel_rfl) (by kernel_rfl)
end VmEv
end Go.Proofs.YtbefgplaaghlbaaGreatDoor
