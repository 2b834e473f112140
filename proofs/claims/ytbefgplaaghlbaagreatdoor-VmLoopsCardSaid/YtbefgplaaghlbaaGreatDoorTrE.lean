/-
  What start-up code lays (the words, the powers of ten, strconv's two errors, the greatest length of a short search), and the numerals.
-/
import Derived.Test.YtbefgplaaghlbaaGreatDoorVersionP
import Derived.Test.YtbefgplaaghlbaaGreatDoorCodeE
import Derived.Test.YtbefgplaaghlbaaGreatDoorShelf
import Derived.Test.YtbefgplaaghlbaaGreatDoorNum
import Derived.WalkKit
import Derived.WalkLawsBesides
import Derived.WalkSpells
import Derived.WalkSmall
import Derived.Lib.Hide
import Derived.Deep.QuietTactic
import Derived.BigQuiet
import Derived.RegionTactic
import Derived.Lib.AtoiAllCases
import Derived.Lib.ItoaLen
namespace Go.Proofs.YtbefgplaaghlbaaGreatDoor
open Go.RowKit
namespace Vs
theorem take_snoc (s : ByteArray) (k : Nat) (h : k < s.size) : s.data.toList.take (k + 1) = s.data.toList.take k ++ [s[k]] := by
  rw [List.take_succ_eq_append_getElem (by simpa using h)]; rfl
end Vs
namespace Vm

theorem var?_below {P : Program} {B : Nat} {W W' : World} (hb : Below B W W') {n : String} {g : Nat} (hg : P.globalNamed n = some g) (h : g < B) {cs : Array Value} (hv : W.var? P n = some cs) : W'.var? P n = some cs := by
  simp only [World.var?, hg, Option.bind_some] at hv ⊢
  rw [hb.block g h]
  exact hv
theorem below_grow (w : World) (k : Nat) (os : Array Obj) : Below w.heap.size w (Sort.grow (w.drewN k) os) :=
  ⟨rfl, rfl, rfl, by show w.heap.size ≤ (w.heap ++ os).size; simp, fun i hi => by show (w.heap ++ os)[i]? = w.heap[i]?; rw [Array.getElem?_append_left hi]⟩
structure Env (W : World) : Prop where
  max : ∃ m : Int, W.cell? ⟨2, 0, none⟩ = some (.int .i64 m)
  tab : Cd.Tab W
  pow : Lib.TabIs Tryz.prog W "internal/strconv.uint64pow10" .u64 Lib.pow10Tab
  syn : ∃ tp p, W.var? Tryz.prog "strconv.ErrSyntax" = some #[.iface tp p]
  rng : ∃ tp p, W.var? Tryz.prog "strconv.ErrRange" = some #[.iface tp p]
  big : 9 ≤ W.heap.size
theorem gPow : Tryz.prog.globalNamed "internal/strconv.uint64pow10" = some 1 := by kernel_rfl
theorem gSyn : Tryz.prog.globalNamed "strconv.ErrSyntax" = some 3 := by kernel_rfl
theorem gRng : Tryz.prog.globalNamed "strconv.ErrRange" = some 4 := by kernel_rfl
theorem Env.low {B : Nat} {W W' : World} (h : Env W) (hB : 9 ≤ B) (hb : Below B W W') : Env W' := by
  obtain ⟨m, hm⟩ := h.max
  obtain ⟨t1, p1, h1⟩ := h.syn
  obtain ⟨t2, p2, h2⟩ := h.rng
  exact ⟨⟨m, by rw [hb.cell (p := ⟨2, 0, none⟩) (by show 2 < B; omega)]; exact hm⟩, ⟨fun k hk => by rw [hb.cell (p := ⟨0, k, none⟩) (by show 0 < B; omega)]; exact h.tab.words k hk, Nat.le_trans h.tab.big hb.size⟩, var?_below hb gPow (by omega) h.pow,
    ⟨t1, p1, var?_below hb gSyn (by omega) h1⟩, ⟨t2, p2, var?_below hb gRng (by omega) h2⟩, Nat.le_trans h.big hb.size⟩
theorem Env.below {W W' : World} (h : Env W) (hb : Below W.heap.size W W') : Env W' := h.low h.big hb
theorem itoa_any (n : Int) (h0 : -9223372036854775808 ≤ n) (h1 : n ≤ 9223372036854775807) (w : World) (hE : Env w) :
    Calls Tryz.prog 29 #[.int .i64 n] w fun e w' => e = .returned (.string ⟨(Lib.itoa n).toArray⟩) ∧ Below w.heap.size w w' :=
  (Tryz.strconv_Itoa n h0 h1 w hE.pow).mono fun e w' ⟨he, k, os, hw⟩ => ⟨he, by subst hw; exact below_grow w k os⟩
theorem atoi_ok (s : ByteArray) (hs : s.size ≤ 1048576) (v : Int) (h : Lib.atoiAll s.data.toList = .ok v) (w : World) :
    Calls Tryz.prog 75 #[.string s] w fun e w' => e = .returned (.tuple #[.int .i64 v, .nilIface]) ∧ Below w.heap.size w w' := by
  refine (Tryz.strconv_Atoi_ok s (by omega) v h w).mono fun e w' ⟨he, hw⟩ => ⟨he, ?_⟩
  rcases hw with rfl | ⟨t, rfl⟩
  · exact Below.refl _ _
  · exact Lib.bytesWorld_below _ _ _
theorem atoi_bad (s : ByteArray) (hs : s.size ≤ 1048576) (h : ∀ v, Lib.atoiAll s.data.toList ≠ .ok v) (w : World) (hE : Env w) :
    Calls Tryz.prog 75 #[.string s] w fun e w' => ∃ (x : Int) (N : Nat), e = .returned (.tuple #[.int .i64 x, .iface 145 (.pointer (some ⟨N, 0, none⟩))]) ∧ -9223372036854775808 ≤ x ∧ x ≤ 9223372036854775807 ∧ Below w.heap.size w w' := by
  cases hx : Lib.atoiAll s.data.toList
  · exact absurd hx (h _)
  · obtain ⟨t1, p1, h1⟩ := hE.syn
    exact (Any.strconv_Atoi_syntax_var Tryz.laysC172 s (by omega) hx t1 p1 w h1).mono fun e w' ⟨N, he, _, _, hb⟩ => ⟨_, N, he, by decide, by decide, hb⟩
  · obtain ⟨t1, p1, h1⟩ := hE.rng
    exact (Any.strconv_Atoi_range_var Tryz.laysC172 s (by omega) hx t1 p1 w h1).mono fun e w' ⟨N, he, _, _, hb⟩ => ⟨_, N, he, (Lib.atoiSat_bounds _).1, (Lib.atoiSat_bounds _).2, hb⟩
theorem Env.alloc {W : World} (h : Env W) (o : Obj) : Env (W.alloc o) := h.below ((Below.refl _ _).alloc (Nat.le_refl _) o)
end Vm
end Go.Proofs.YtbefgplaaghlbaaGreatDoor
