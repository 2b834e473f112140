/-
  What start-up code lays (the words, the powers of ten, strconv's two errors), and the numerals.
-/
import Derived.Test.YtipcockcndnipaaDoorMAwA
import Derived.Test.YtipcockcndnipaaDoorCodeE
import Derived.Test.YtipcockcndnipaaDoorMNmA
import Derived.Lib.AtoiAllCases
import Derived.Lib.ItoaLen
namespace Go.Proofs.YtipcockcndnipaaDoor
open Go.RowKit
namespace Aw
open As

theorem var?_below {P : Program} {B : Nat} {W W' : World} (hb : Below B W W') {n : String} {g : Nat} (hg : P.globalNamed n = some g) (h : g < B) {cs : Array Value} (hv : W.var? P n = some cs) : W'.var? P n = some cs := by
  simp only [World.var?, hg, Option.bind_some] at hv ⊢
  rw [hb.block g h]
  exact hv
theorem below_grow (w : World) (k : Nat) (os : Array Obj) : Below w.heap.size w (Sort.grow (w.drewN k) os) :=
  ⟨rfl, rfl, rfl, by show w.heap.size ≤ (w.heap ++ os).size; simp, fun i hi => by show (w.heap ++ os)[i]? = w.heap[i]?; rw [Array.getElem?_append_left hi]⟩
structure Env (W : World) : Prop where
  tab : Cd.Tab W
  pow : Lib.TabIs Tryd.prog W "internal/strconv.uint64pow10" .u64 Lib.pow10Tab
  syn : ∃ tp p, W.var? Tryd.prog "strconv.ErrSyntax" = some #[.iface tp p]
  rng : ∃ tp p, W.var? Tryd.prog "strconv.ErrRange" = some #[.iface tp p]
  big : 9 ≤ W.heap.size
theorem gPow : Tryd.prog.globalNamed "internal/strconv.uint64pow10" = some 1 := by kernel_rfl
theorem gSyn : Tryd.prog.globalNamed "strconv.ErrSyntax" = some 5 := by kernel_rfl
theorem gRng : Tryd.prog.globalNamed "strconv.ErrRange" = some 6 := by kernel_rfl
theorem Env.low {B : Nat} {W W' : World} (h : Env W) (hB : 9 ≤ B) (hb : Below B W W') : Env W' := by
  obtain ⟨t1, p1, h1⟩ := h.syn
  obtain ⟨t2, p2, h2⟩ := h.rng
  exact ⟨⟨fun k hk => by rw [hb.cell (p := ⟨0, k, none⟩) (by show 0 < B; omega)]; exact h.tab.words k hk, Nat.le_trans h.tab.big hb.size⟩, var?_below hb gPow (by omega) h.pow,
    ⟨t1, p1, var?_below hb gSyn (by omega) h1⟩, ⟨t2, p2, var?_below hb gRng (by omega) h2⟩, Nat.le_trans h.big hb.size⟩
theorem Env.below {W W' : World} (h : Env W) (hb : Below W.heap.size W W') : Env W' := h.low h.big hb
theorem itoa_any (n : Int) (h0 : -9223372036854775808 ≤ n) (h1 : n ≤ 9223372036854775807) (w : World) (hE : Env w) :
    Calls Tryd.prog 13 #[.int .i64 n] w fun e w' => e = .returned (.string ⟨(Lib.itoa n).toArray⟩) ∧ Below w.heap.size w w' :=
  (Tryd.strconv_Itoa n h0 h1 w hE.pow).mono fun e w' ⟨he, k, os, hw⟩ => ⟨he, by subst hw; exact below_grow w k os⟩
theorem atoi_ok (s : ByteArray) (hs : s.size ≤ 1048576) (v : Int) (h : Lib.atoiAll s.data.toList = .ok v) (w : World) :
    Calls Tryd.prog 51 #[.string s] w fun e w' => e = .returned (.tuple #[.int .i64 v, .nilIface]) ∧ Below w.heap.size w w' := by
  refine (Tryd.strconv_Atoi_ok s (by omega) v h w).mono fun e w' ⟨he, hw⟩ => ⟨he, ?_⟩
  rcases hw with rfl | ⟨t, rfl⟩
  · exact Below.refl _ _
  · exact Lib.bytesWorld_below _ _ _
theorem atoi_bad (s : ByteArray) (hs : s.size ≤ 1048576) (h : ∀ v, Lib.atoiAll s.data.toList ≠ .ok v) (w : World) (hE : Env w) :
    Calls Tryd.prog 51 #[.string s] w fun e w' => ∃ (x : Int) (N : Nat), e = .returned (.tuple #[.int .i64 x, .iface 133 (.pointer (some ⟨N, 0, none⟩))]) ∧ -9223372036854775808 ≤ x ∧ x ≤ 9223372036854775807 ∧ Below w.heap.size w w' := by
  cases hx : Lib.atoiAll s.data.toList
  · exact absurd hx (h _)
  · obtain ⟨t1, p1, h1⟩ := hE.syn
    exact (Any.strconv_Atoi_syntax_var Tryd.laysC172 s (by omega) hx t1 p1 w h1).mono fun e w' ⟨N, he, _, _, hb⟩ => ⟨_, N, he, by decide, by decide, hb⟩
  · obtain ⟨t1, p1, h1⟩ := hE.rng
    exact (Any.strconv_Atoi_range_var Tryd.laysC172 s (by omega) hx t1 p1 w h1).mono fun e w' ⟨N, he, _, _, hb⟩ => ⟨_, N, he, (Lib.atoiSat_bounds _).1, (Lib.atoiSat_bounds _).2, hb⟩
/-- a numeral that is a number's is read as it -/
theorem atoi_of {l : List UInt8} {v x : Int} (hx : Lib.atoiAll l = .ok x) (h : Lib.itoa v = l) (h0 : -9223372036854775808 ≤ v) (h1 : v ≤ 9223372036854775807) : v = x := by
  rw [← h, Nu.atoi_itoa v h0 h1] at hx
  injection hx
end Aw
end Go.Proofs.YtipcockcndnipaaDoor
