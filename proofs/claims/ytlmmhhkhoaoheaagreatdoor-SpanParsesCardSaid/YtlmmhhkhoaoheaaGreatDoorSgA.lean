/-
  Ranges in memory; Good of a range, of the program and of the reference.
-/
import Derived.Test.YtlmmhhkhoaoheaaGreatDoorSgE
import Derived.Test.YtlmmhhkhoaoheaaGreatDoorSxA
import Derived.WalkKit
import Derived.WalkLawsBesides
import Derived.WalkSpells
import Derived.WalkSmall
import Derived.Lib.Hide
import Derived.Deep.QuietTactic
import Derived.BigQuiet
import Derived.RegionTactic
import Derived.OwnWalk
namespace Go.Proofs.YtlmmhhkhoaoheaaGreatDoor
open Go.RowKit
namespace Sg

abbrev N64 (n : Int) : Prop := -9223372036854775808 ≤ n ∧ n ≤ 9223372036854775807
/-- a gap's two cells -/
structure Gc (W : World) (b o : Nat) (g : G) : Prop where
  lo : W.cell? ⟨b, o, none⟩ = some (.int .i64 g.1)
  hi : W.cell? ⟨b, o + 1, none⟩ = some (.int .i64 g.2)
/-- a slice of gaps -/
structure GS (W : World) (v : Value) (r : List G) : Prop where
  small : r.length ≤ 9223372036854775807
  nb : ∀ g ∈ r, N64 g.1 ∧ N64 g.2
  form : ∃ (sl : Option Addr) (cap : Nat), v = .slice sl r.length cap ∧ (sl = none → cap = 0) ∧ ∀ k g, r[k]? = some g → ∃ b o, sl = some ⟨b, o, none⟩ ∧ b < W.heap.size ∧ Gc W b (o + k * 2) g
theorem Gc.below {W W' : World} {b o : Nat} {g : G} (hb : b < W.heap.size) (h : Gc W b o g) (hB : Below W.heap.size W W') : Gc W' b o g := ⟨(hB.cell (p := ⟨b, o, none⟩) hb).trans h.lo, (hB.cell (p := ⟨b, o + 1, none⟩) hb).trans h.hi⟩
theorem GS.below {W W' : World} {v : Value} {r : List G} (h : GS W v r) (hB : Below W.heap.size W W') : GS W' v r := by
  obtain ⟨sl, cap, hv, hn, hf⟩ := h.form
  exact ⟨h.small, h.nb, sl, cap, hv, hn, fun k g hk => by
    obtain ⟨b, o, e, hb, h3⟩ := hf k g hk
    exact ⟨b, o, e, Nat.lt_of_lt_of_le hb hB.size, h3.below hb hB⟩⟩
theorem gs_nil (W : World) : GS W (.slice none 0 0) [] := ⟨by simp, fun g h => (by cases h), none, 0, rfl, fun _ => rfl, fun k g h => by simp at h⟩
theorem obj_two {W : World} {g : Nat} {u0 u1 : Value} {T : TypeId} (h : W.heap[g]? = some (.cells #[u0, u1] T (0, 0))) : W.cell? ⟨g, 0, none⟩ = some u0 ∧ W.cell? ⟨g, 1, none⟩ = some u1 ∧ W.frozen? ⟨g, 0, none⟩ = false ∧ W.frozen? ⟨g, 1, none⟩ = false :=
  ⟨by simp [World.cell?, h], by simp [World.cell?, h], by simp [World.frozen?, h], by simp [World.frozen?, h]⟩
/-- rising from behind last, none empty, none beyond 10^9 -/
def upB (last : Int) : List G → Bool
  | [] => true
  | g :: r => decide (last < g.1) && (decide (g.1 < g.2) && (decide (g.2 ≤ 1000000000) && upB g.2 r))
def goodB (r : List G) : Bool := decide (r.length ≤ 16) && upB (-1) r
theorem up_nm : ∀ (r : List G) (last : Int), upB last r = true → Nm r ∧ (∀ g ∈ r, last < g.1 ∧ g.1 < g.2 ∧ g.2 ≤ 1000000000)
  | [], _, _ => ⟨Nm.nil, fun g h => by cases h⟩
  | g :: r, last, h => by
    simp only [upB, Bool.and_eq_true, decide_eq_true_eq] at h
    obtain ⟨h1, h2, h3, h4⟩ := h
    obtain ⟨h5, h6⟩ := up_nm r g.2 h4
    refine ⟨⟨fun x hx => ?_, List.pairwise_cons.2 ⟨fun x hx => (h6 x hx).1, h5.sep⟩⟩, fun x hx => ?_⟩
    · rcases List.mem_cons.1 hx with rfl | hx
      · exact h2
      · exact (h6 x hx).2.1
    · rcases List.mem_cons.1 hx with rfl | hx
      · exact ⟨h1, h2, h3⟩
      · have := h6 x hx
        exact ⟨by omega, this.2⟩
theorem up_of : ∀ (r : List G) (last : Int), Nm r → (∀ g ∈ r, last < g.1 ∧ g.2 ≤ 1000000000) → upB last r = true
  | [], _, _, _ => rfl
  | g :: r, last, h, hb => by
    have h1 := hb g (.head _)
    have h2 := h.pos g (.head _)
    simp only [upB, Bool.and_eq_true, decide_eq_true_eq]
    exact ⟨h1.1, h2, h1.2, up_of r g.2 h.tail fun x hx => ⟨(List.pairwise_cons.1 h.sep).1 x hx, (hb x (.tail _ hx)).2⟩⟩
theorem good_nm {r : List G} (h : goodB r = true) : Nm r ∧ r.length ≤ 16 ∧ ∀ g ∈ r, 0 ≤ g.1 ∧ g.1 < g.2 ∧ g.2 ≤ 1000000000 := by
  simp only [goodB, Bool.and_eq_true, decide_eq_true_eq] at h
  obtain ⟨h1, h2⟩ := up_nm r (-1) h.2
  exact ⟨h1, h.1, fun g hg => by have := h2 g hg; omega⟩
theorem good_of {r : List G} (h : Nm r) (hl : r.length ≤ 16) (hb : ∀ g ∈ r, 0 ≤ g.1 ∧ g.2 ≤ 1000000000) : goodB r = true := by
  simp only [goodB, Bool.and_eq_true, decide_eq_true_eq]
  exact ⟨hl, up_of r (-1) h fun g hg => by have := hb g hg; omega⟩
/-- where a list goes on from its k-th -/
def lastOf (r : List G) : Nat → Int
  | 0 => -1
  | k + 1 => (r.getD k (0, 0)).2
theorem drop_g {r : List G} {k : Nat} {g : G} (h : r[k]? = some g) : r.drop k = g :: r.drop (k + 1) := by
  obtain ⟨h1, h2⟩ := List.getElem?_eq_some_iff.1 h
  rw [List.drop_eq_getElem_cons h1, h2]
theorem last_g {r : List G} {k : Nat} {g : G} (h : r[k]? = some g) : lastOf r (k + 1) = g.2 := by
  show (r.getD k (0, 0)).2 = _
  rw [List.getD_eq_getElem?_getD, h]
  rfl
set_option maxHeartbeats 2000000 in
set_option maxRecDepth 100000 in
theorem good_any (r : List G) (v : Value) (W : World) (hP : GS W v r) : Calls Tryz.prog 12 #[v] W fun e W' => e = .returned (.bool (goodB r)) ∧ Below W.heap.size W W' := by
  have hsm := hP.small
  have HNB := Lib.hid hP.nb
  obtain ⟨sl, cap, rfl, -, hf⟩ := hP.form
  have HF := Lib.hid hf
  clear hf hP
  go_enter Tryz.func12, Tryz.ntmps12
  go_wp2_with fail
  go_loopw [3, 8] (fun l i wr => ∃ k : Nat, k ≤ r.length ∧ i = .int .i64 (k : Int) ∧ l = .int .i64 (lastOf r k) ∧ upB (-1) r = upB (lastOf r k) (r.drop k) ∧ Below W.heap.size W wr) (fun _ i _ => r.length - (intOf i).toNat)
  case atStart => exact ⟨0, Nat.zero_le _, rfl, rfl, rfl, Below.refl _ _⟩
  case round =>
    obtain ⟨k, hk, rfl, rfl, hu, hb⟩ := hrel
    by_cases hlt : k < r.length
    · obtain ⟨g, hg⟩ : ∃ g, r[k]? = some g := ⟨r[k], List.getElem?_eq_getElem hlt⟩
      obtain ⟨b, o, rfl, ha, h3⟩ := HF.out k g hg
      obtain ⟨c0, c1⟩ := h3.below ha hb
      rw [drop_g hg, upB] at hu
      have hlg := last_g hg
      obtain ⟨lo, hi⟩ := g
      have HL := Lib.hid hlg
      have hB := hb.alloc hb.size (.cells #[.int .i64 lo, .int .i64 hi] 42)
      obtain ⟨la, hla⟩ : ∃ la, la = lastOf r k := ⟨_, rfl⟩
      rw [← hla] at hu ⊢
      have HU := Lib.hid hu
      clear hg h3 hlg hla hu
      by_cases g1 : lo ≤ la
      · have HR := Lib.hid (show goodB r = false by simp only [goodB, HU.out]; simp; omega)
        go_wp2_with fail
        go_ret
        rw [HR.out]
        exact ⟨rfl, hB⟩
      by_cases g2 : hi ≤ lo
      · have HR := Lib.hid (show goodB r = false by simp only [goodB, HU.out]; simp; omega)
        go_wp2_with fail
        go_ret
        rw [HR.out]
        exact ⟨rfl, hB⟩
      by_cases g3 : 1000000000 < hi
      · have HR := Lib.hid (show goodB r = false by simp only [goodB, HU.out]; simp; omega)
        go_wp2_with fail
        go_ret
        rw [HR.out]
        exact ⟨rfl, hB⟩
      have HV := Lib.hid (show upB (-1) r = upB (lastOf r (k + 1)) (r.drop (k + 1)) by
        rw [HU.out, HL.out, decide_eq_true (show la < lo by omega), decide_eq_true (show lo < hi by omega), decide_eq_true (show hi ≤ 1000000000 by omega)]
        rfl)
      go_wp2_with fail
      go_roundw
      case rel => exact ⟨k + 1, by omega, by go_num, by rw [HL.out], HV.out, hB⟩
      case measure => simp [intOf]; omega
    · obtain rfl : k = r.length := by omega
      have HR := Lib.hid (show goodB r = decide (r.length ≤ 16) by unfold goodB; rw [hu, List.drop_length, upB, Bool.and_true])
      clear hu
      by_cases h16 : r.length ≤ 16
      · have j1 : (r.length : Int) ≤ 16 := by omega
        have HR2 := Lib.hid (HR.out.trans (decide_eq_true h16))
        clear h16
        go_wp2_with fail
        go_ret
        rw [HR2.out]
        exact ⟨rfl, hb⟩
      · have j1 : ¬ (r.length : Int) ≤ 16 := by omega
        have HR2 := Lib.hid (HR.out.trans (decide_eq_false h16))
        clear h16
        go_wp2_with fail
        go_ret
        rw [HR2.out]
        exact ⟨rfl, hb⟩
end Sg
end Go.Proofs.YtlmmhhkhoaoheaaGreatDoor
