/-
  Walks of the version package and of its reference: Good, Number, Of (both texts). No condition on the arguments.
-/
import Derived.Test.YtflhmoelenmomaaGreatDoorRows
import Derived.WalkKit
import Derived.WalkLawsBesides
import Derived.WalkSpells
import Derived.Lib.Hide
import Derived.Deep.QuietTactic
import Derived.BigQuiet
import Derived.RegionTactic
import Derived.Lib.SplitLaws
import Derived.Lib.ItoaLen
import Derived.Lib.AtoiAll
import Derived.Test.YtflhmoelenmomaaGreatDoorShelf
import Derived.WalkSmall
namespace Go.Proofs.YtflhmoelenmomaaGreatDoor
open Go.RowKit
namespace Vs

def goodB (a b c : Int) : Bool := decide (0 ≤ a ∧ a ≤ 999) && decide (0 ≤ b ∧ b ≤ 999) && decide (0 ≤ c ∧ c ≤ 999)
theorem good_tt {a b c : Int} (ha : 0 ≤ a ∧ a ≤ 999) (hb : 0 ≤ b ∧ b ≤ 999) (hc : 0 ≤ c ∧ c ≤ 999) : goodB a b c = true := by simp [goodB, ha, hb, hc]
theorem good_ff {a b c : Int} (h : ¬ (0 ≤ a ∧ a ≤ 999) ∨ ¬ (0 ≤ b ∧ b ≤ 999) ∨ ¬ (0 ≤ c ∧ c ≤ 999)) : goodB a b c = false := by
  simp only [goodB, Bool.and_eq_false_iff, decide_eq_false_iff_not]; omega
theorem of_good {a b c : Int} (h : goodB a b c = true) : 0 ≤ a ∧ a ≤ 999 ∧ 0 ≤ b ∧ b ≤ 999 ∧ 0 ≤ c ∧ c ≤ 999 := by
  simp only [goodB, Bool.and_eq_true, decide_eq_true_eq] at h; omega
abbrev V (a b c : Int) : Value := .agg #[.int .i64 a, .int .i64 b, .int .i64 c]
def num (a b c : Int) : Int := if goodB a b c = true then (a * 1000 + b) * 1000 + c else -1
theorem ret_int {k : IntKind} {a b : Int} (h : a = b) : Ending.returned (.int k a) = .returned (.int k b) := by rw [h]
theorem ret_bool {a b : Bool} (h : a = b) : Ending.returned (.bool a) = .returned (.bool b) := by rw [h]

set_option maxHeartbeats 400000 in
theorem good_any (a b c : Int) (w : World) : Calls Tryz.prog 47 #[V a b c] w fun e w' => e = .returned (.bool (goodB a b c)) ∧ Below w.heap.size w w' := by
  have i0 : ∀ w : World, (Instr.index 37 (V a b c) (.int .i64 0)).run Tryz.prog w = .ok (.int .i64 a) w := fun _ => by kernel_rfl
  have i1 : ∀ w : World, (Instr.index 37 (V a b c) (.int .i64 1)).run Tryz.prog w = .ok (.int .i64 b) w := fun _ => by kernel_rfl
  have i2 : ∀ w : World, (Instr.index 37 (V a b c) (.int .i64 2)).run Tryz.prog w = .ok (.int .i64 c) w := fun _ => by kernel_rfl
  go_enter Tryz.func47, Tryz.ntmps47
  go_wp2
  go_loop [4, 6] (fun _ i => ∃ k : Nat, k ≤ 3 ∧ i = .int .i64 k ∧ (1 ≤ k → 0 ≤ a ∧ a ≤ 999) ∧ (2 ≤ k → 0 ≤ b ∧ b ≤ 999) ∧ (3 ≤ k → 0 ≤ c ∧ c ≤ 999)) (fun _ i => 3 - (intOf i).toNat)
  case atStart => exact ⟨0, Nat.zero_le _, rfl, by omega, by omega, by omega⟩
  case round =>
    obtain ⟨k, hk, rfl, h0, h1, h2⟩ := hrel
    have hk5 : k = 0 ∨ k = 1 ∨ k = 2 ∨ k = 3 := by omega
    rcases hk5 with rfl | rfl | rfl | rfl
    · by_cases x0 : 0 ≤ a
      · by_cases x1 : a ≤ 999
        · clear h0 h1 h2
          go_wp2
          go_round
          case rel => exact ⟨1, by omega, rfl, by omega, by omega, by omega⟩
          case measure => simp [intOf]
        · have hg := Lib.hid (good_ff (a := a) (b := b) (c := c) (by omega))
          clear h0 h1 h2
          go_wp2
          go_ret
          exact ⟨ret_bool hg.out.symm, (Below.refl _ _).alloc (Nat.le_refl _) _⟩
      · have hg := Lib.hid (good_ff (a := a) (b := b) (c := c) (by omega))
        clear h0 h1 h2
        go_wp2
        go_ret
        exact ⟨ret_bool hg.out.symm, (Below.refl _ _).alloc (Nat.le_refl _) _⟩
    · by_cases x0 : 0 ≤ b
      · by_cases x1 : b ≤ 999
        · have h0' := h0 (by omega)
          clear h0 h1 h2
          go_wp2
          go_round
          case rel => exact ⟨2, by omega, rfl, by omega, by omega, by omega⟩
          case measure => simp [intOf]
        · have hg := Lib.hid (good_ff (a := a) (b := b) (c := c) (by omega))
          clear h0 h1 h2
          go_wp2
          go_ret
          exact ⟨ret_bool hg.out.symm, (Below.refl _ _).alloc (Nat.le_refl _) _⟩
      · have hg := Lib.hid (good_ff (a := a) (b := b) (c := c) (by omega))
        clear h0 h1 h2
        go_wp2
        go_ret
        exact ⟨ret_bool hg.out.symm, (Below.refl _ _).alloc (Nat.le_refl _) _⟩
    · by_cases x0 : 0 ≤ c
      · by_cases x1 : c ≤ 999
        · have h0' := h0 (by omega)
          have h1' := h1 (by omega)
          clear h0 h1 h2
          go_wp2
          go_round
          case rel => exact ⟨3, by omega, rfl, by omega, by omega, by omega⟩
          case measure => simp [intOf]
        · have hg := Lib.hid (good_ff (a := a) (b := b) (c := c) (by omega))
          clear h0 h1 h2
          go_wp2
          go_ret
          exact ⟨ret_bool hg.out.symm, (Below.refl _ _).alloc (Nat.le_refl _) _⟩
      · have hg := Lib.hid (good_ff (a := a) (b := b) (c := c) (by omega))
        clear h0 h1 h2
        go_wp2
        go_ret
        exact ⟨ret_bool hg.out.symm, (Below.refl _ _).alloc (Nat.le_refl _) _⟩
    · have hg := Lib.hid (good_tt (h0 (by omega)) (h1 (by omega)) (h2 (by omega)))
      clear h0 h1 h2
      go_wp2
      go_ret
      exact ⟨ret_bool hg.out.symm, (Below.refl _ _).alloc (Nat.le_refl _) _⟩

set_option maxHeartbeats 400000 in
theorem goodr_any (a b c : Int) (w : World) : Calls Tryz.prog 57 #[V a b c] w fun e w' => e = .returned (.bool (goodB a b c)) ∧ Below w.heap.size w w' := by
  by_cases a0 : 0 ≤ a
  · by_cases a1 : a ≤ 999
    · by_cases b0 : 0 ≤ b
      · by_cases b1 : b ≤ 999
        · by_cases c0 : 0 ≤ c
          · by_cases c1 : c ≤ 999
            · have hg := Lib.hid (good_tt (a := a) (b := b) (c := c) (by omega) (by omega) (by omega))
              go_enter Tryz.func57, Tryz.ntmps57
              go_wp2
              go_ret
              exact ⟨ret_bool hg.out.symm, (Below.refl _ _).alloc (Nat.le_refl _) _⟩
            · have hg := Lib.hid (good_ff (a := a) (b := b) (c := c) (by omega))
              go_enter Tryz.func57, Tryz.ntmps57
              go_wp2
              go_ret
              exact ⟨ret_bool hg.out.symm, (Below.refl _ _).alloc (Nat.le_refl _) _⟩
          · have hg := Lib.hid (good_ff (a := a) (b := b) (c := c) (by omega))
            go_enter Tryz.func57, Tryz.ntmps57
            go_wp2
            go_ret
            exact ⟨ret_bool hg.out.symm, (Below.refl _ _).alloc (Nat.le_refl _) _⟩
        · have hg := Lib.hid (good_ff (a := a) (b := b) (c := c) (by omega))
          go_enter Tryz.func57, Tryz.ntmps57
          go_wp2
          go_ret
          exact ⟨ret_bool hg.out.symm, (Below.refl _ _).alloc (Nat.le_refl _) _⟩
      · have hg := Lib.hid (good_ff (a := a) (b := b) (c := c) (by omega))
        go_enter Tryz.func57, Tryz.ntmps57
        go_wp2
        go_ret
        exact ⟨ret_bool hg.out.symm, (Below.refl _ _).alloc (Nat.le_refl _) _⟩
    · have hg := Lib.hid (good_ff (a := a) (b := b) (c := c) (by omega))
      go_enter Tryz.func57, Tryz.ntmps57
      go_wp2
      go_ret
      exact ⟨ret_bool hg.out.symm, (Below.refl _ _).alloc (Nat.le_refl _) _⟩
  · have hg := Lib.hid (good_ff (a := a) (b := b) (c := c) (by omega))
    go_enter Tryz.func57, Tryz.ntmps57
    go_wp2
    go_ret
    exact ⟨ret_bool hg.out.symm, (Below.refl _ _).alloc (Nat.le_refl _) _⟩

theorem bcell {W w1 : World} (hb : Below W.heap.size W w1) : (∀ b o, b < W.heap.size → w1.cell? ⟨b, o, none⟩ = W.cell? ⟨b, o, none⟩) ∧ (∀ b o, b < W.heap.size → w1.frozen? ⟨b, o, none⟩ = W.frozen? ⟨b, o, none⟩) :=
  ⟨fun b o h => hb.cell (p := ⟨b, o, none⟩) h, fun b o h => hb.frozen (p := ⟨b, o, none⟩) h⟩

/-- block b holds a version -/
structure C3 (W : World) (b : Nat) (x y z : Int) : Prop where
  lt : b < W.heap.size
  c0 : W.cell? ⟨b, 0, none⟩ = some (.int .i64 x)
  c1 : W.cell? ⟨b, 1, none⟩ = some (.int .i64 y)
  c2 : W.cell? ⟨b, 2, none⟩ = some (.int .i64 z)
  fz : ∀ j, W.frozen? ⟨b, j, none⟩ = false
theorem C3.below {W W' : World} {b : Nat} {x y z : Int} (h : C3 W b x y z) (hb : Below W.heap.size W W') : C3 W' b x y z := by
  obtain ⟨hc, hf⟩ := bcell hb
  exact ⟨Nat.lt_of_lt_of_le h.lt hb.size, (hc _ _ h.lt).trans h.c0, (hc _ _ h.lt).trans h.c1, (hc _ _ h.lt).trans h.c2, fun j => (hf _ _ h.lt).trans (h.fz j)⟩
theorem C3.new (W : World) (x y z : Int) : C3 (W.alloc (.cells #[.int .i64 x, .int .i64 y, .int .i64 z] 37)) W.heap.size x y z := by
  refine ⟨by simp, ?_, ?_, ?_, ?_⟩
  all_goals first | go_simp | (intro j; go_simp)
theorem C3.old {W : World} {b : Nat} {x y z : Int} (h : C3 W b x y z) (o : Obj) : C3 (W.alloc o) b x y z := h.below ((Below.refl _ _).alloc (Nat.le_refl _) o)
theorem C3.set {W : World} {b : Nat} {x y z : Int} (h : C3 W b x y z) (x' y' z' : Int) : C3 (((W.setCell ⟨b, 0, none⟩ (.int .i64 x')).setCell ⟨b, 1, none⟩ (.int .i64 y')).setCell ⟨b, 2, none⟩ (.int .i64 z')) b x' y' z' := by
  obtain ⟨h1, h2, h3, h4, h5⟩ := h
  refine ⟨by simpa [World.setCell] using h1, ?_, ?_, ?_, fun j => by simp only [World.frozen?_setCell]; exact h5 j⟩
  · rw [World.cell?_setCell_other _ _ _ _ (by simp), World.cell?_setCell_other _ _ _ _ (by simp)]; exact World.cell?_setCell_same _ _ _ h2
  · rw [World.cell?_setCell_other _ _ _ _ (by simp)]; exact World.cell?_setCell_same _ _ _ ((World.cell?_setCell_other _ _ _ _ (by simp)).trans h3)
  · exact World.cell?_setCell_same _ _ _ ((World.cell?_setCell_other _ _ _ _ (by simp)).trans ((World.cell?_setCell_other _ _ _ _ (by simp)).trans h4))
theorem C3.far {W : World} {b : Nat} {x y z : Int} (h : C3 W b x y z) (q : Nat) (hq : b ≠ q) (x' y' z' : Value) : C3 (((W.setCell ⟨q, 0, none⟩ x').setCell ⟨q, 1, none⟩ y').setCell ⟨q, 2, none⟩ z') b x y z := by
  obtain ⟨h1, h2, h3, h4, h5⟩ := h
  refine ⟨by simpa [World.setCell] using h1, ?_, ?_, ?_, fun j => by simp only [World.frozen?_setCell]; exact h5 j⟩
  all_goals
    rw [World.cell?_setCell_other _ _ _ _ (by intro e; apply hq; simpa using (congrArg Addr.block e).symm), World.cell?_setCell_other _ _ _ _ (by intro e; apply hq; simpa using (congrArg Addr.block e).symm), World.cell?_setCell_other _ _ _ _ (by intro e; apply hq; simpa using (congrArg Addr.block e).symm)]
    assumption

set_option maxHeartbeats 400000 in
theorem number_any (a b c : Int) (w : World) : Calls Tryz.prog 74 #[V a b c] w fun e w' => e = .returned (.int .i64 (num a b c)) ∧ Below w.heap.size w w' := by
  have hn : goodB a b c = true → num a b c = (a * 1000 + b) * 1000 + c := fun h => by simp [num, h]
  have hm : goodB a b c = false → num a b c = -1 := fun h => by simp [num, h]
  cases hg : goodB a b c
  · have hx := Lib.hid (hm hg)
    clear hn hm
    go_enter Tryz.func74, Tryz.ntmps74
    go_wp2_with fail
    refine (good_any a b c _).mono ?_
    rintro e w1 ⟨rfl, hb1⟩
    go_wp2
    go_ret
    exact ⟨ret_int hx.out.symm, ((Below.refl _ _).alloc (Nat.le_refl _) _).trans (hb1.mono (by simp))⟩
  · obtain ⟨a0, a1, b0, b1, c0, c1⟩ := of_good hg
    have hx := Lib.hid (hn hg)
    clear hn hm
    go_enter Tryz.func74, Tryz.ntmps74
    go_wp2_with fail
    refine (good_any a b c _).mono ?_
    rintro e w1 ⟨rfl, hb1⟩
    obtain ⟨hc, hf⟩ := bcell hb1
    have hs : w.heap.size < (w.alloc (.cells #[.int .i64 a, .int .i64 b, .int .i64 c] 37)).heap.size := by simp
    go_wp2
    go_ret
    exact ⟨ret_int hx.out.symm, ((Below.refl _ _).alloc (Nat.le_refl _) _).trans (hb1.mono (by simp))⟩

set_option maxHeartbeats 400000 in
theorem numberr_any (a b c : Int) (w : World) : Calls Tryz.prog 110 #[V a b c] w fun e w' => e = .returned (.int .i64 (num a b c)) ∧ Below w.heap.size w w' := by
  have hn : goodB a b c = true → num a b c = 1000000 * a + 1000 * b + c := fun h => by simp [num, h]; omega
  have hm : goodB a b c = false → num a b c = -1 := fun h => by simp [num, h]
  cases hg : goodB a b c
  · have hx := Lib.hid (hm hg)
    clear hn hm
    go_enter Tryz.func110, Tryz.ntmps110
    go_wp2_with fail
    refine (goodr_any a b c _).mono ?_
    rintro e w1 ⟨rfl, hb1⟩
    go_wp2
    go_ret
    exact ⟨ret_int hx.out.symm, ((Below.refl _ _).alloc (Nat.le_refl _) _).trans (hb1.mono (by simp))⟩
  · obtain ⟨a0, a1, b0, b1, c0, c1⟩ := of_good hg
    have hx := Lib.hid (hn hg)
    clear hn hm
    go_enter Tryz.func110, Tryz.ntmps110
    go_wp2_with fail
    refine (goodr_any a b c _).mono ?_
    rintro e w1 ⟨rfl, hb1⟩
    obtain ⟨hc, hf⟩ := bcell hb1
    have hs : w.heap.size < (w.alloc (.cells #[.int .i64 a, .int .i64 b, .int .i64 c] 37)).heap.size := by simp
    go_wp2
    go_ret
    exact ⟨ret_int hx.out.symm, ((Below.refl _ _).alloc (Nat.le_refl _) _).trans (hb1.mono (by simp))⟩

def isB (n : Int) : Bool := decide (0 ≤ n) && decide (n < 1000000000)
def o0 (n : Int) : Int := if isB n = true then n / 1000000 else 0
def o1 (n : Int) : Int := if isB n = true then n / 1000 % 1000 else 0
def o2 (n : Int) : Int := if isB n = true then n % 1000 else 0
abbrev OfV (n : Int) : Value := .tuple #[V (o0 n) (o1 n) (o2 n), .bool (isB n)]
theorem of_tt {n : Int} (h0 : 0 ≤ n) (h1 : n < 1000000000) : OfV n = .tuple #[V (n / 1000000) (n / 1000 % 1000) (n % 1000), .bool true] := by
  have h : isB n = true := by simp [isB, h0, h1]
  simp [OfV, o0, o1, o2, h]
theorem of_ff {n : Int} (h : ¬ (0 ≤ n ∧ n < 1000000000)) : OfV n = .tuple #[V 0 0 0, .bool false] := by
  have h : isB n = false := by simp only [isB, Bool.and_eq_false_iff, decide_eq_false_iff_not]; omega
  simp [OfV, o0, o1, o2, h]

end Vs
end Go.Proofs.YtflhmoelenmomaaGreatDoor

/-
  Plain lists: the pieces between the points of a text, a part of a version, and what version.Parse answers. No program in sight.
-/
namespace Go.Proofs.YtflhmoelenmomaaGreatDoor
namespace Vs
open Go.Lib

/-- what stands between the bytes c -/
def pieces (c : UInt8) : List UInt8 → List (List UInt8)
  | [] => [[]]
  | b :: l => if b = c then [] :: pieces c l else match pieces c l with
    | p :: ps => (b :: p) :: ps
    | [] => [[b]]
theorem pieces_ne (c : UInt8) (l : List UInt8) : ∃ p ps, pieces c l = p :: ps := by
  cases l with
  | nil => exact ⟨[], [], rfl⟩
  | cons b l =>
    unfold pieces
    split
    · exact ⟨_, _, rfl⟩
    · split <;> exact ⟨_, _, rfl⟩
theorem split_pieces (c : UInt8) : ∀ l : List UInt8, splitK [c] 0 (count l [c]) l = pieces c l
  | [] => by rw [count_miss (by simp [index])]; rfl
  | b :: l => by
    have ih := split_pieces c l
    by_cases h : b = c
    · subst h
      have hix : index (b :: l) [b] = 0 := by rw [index]; simp [List.isPrefixOf]
      rw [count_cons_eq, Nat.add_comm, splitK, hix, pieces, if_pos rfl]
      simp [ih]
    · have hp : ([c] : List UInt8).isPrefixOf (b :: l) = false := by simp [List.isPrefixOf, Ne.symm h]
      have hix : index (b :: l) [c] = if index l [c] == -1 then -1 else index l [c] + 1 := by rw [index, hp]; simp
      rw [count_cons_ne b c l h, pieces, if_neg h]
      by_cases hm : index l [c] = -1
      · rw [count_miss hm] at ih ⊢
        rw [← ih]
        rfl
      · have hge := index_ge l [c]
        obtain ⟨j, hj⟩ : ∃ j : Nat, index l [c] = j := ⟨(index l [c]).toNat, by omega⟩
        have hix' : index (b :: l) [c] = ((j + 1 : Nat) : Int) := by rw [hix, if_neg (fun e => hm (beq_iff_eq.1 e)), hj]; omega
        rw [count_hit (by simp) hj] at ih ⊢
        rw [Nat.add_comm, splitK] at ih ⊢
        rw [if_neg (by rw [hj]; simp), hj] at ih
        rw [if_neg (by rw [hix']; simp; omega), hix', ← ih]
        have e2 : ((j + 1 : Nat) : Int).toNat = j + 1 := by omega
        rw [e2]
        simp
theorem pieces_snoc_hit (c : UInt8) : ∀ l : List UInt8, pieces c (l ++ [c]) = pieces c l ++ [[]]
  | [] => by simp [pieces]
  | b :: l => by
    have ih := pieces_snoc_hit c l
    obtain ⟨p, ps, hp⟩ := pieces_ne c l
    by_cases h : b = c
    · subst h; simp [pieces, ih]
    · simp [pieces, h, ih, hp]
def addLast (x : UInt8) : List (List UInt8) → List (List UInt8)
  | [] => []
  | [p] => [p ++ [x]]
  | p :: q :: r => p :: addLast x (q :: r)
theorem pieces_snoc_miss (c x : UInt8) (hx : x ≠ c) : ∀ l : List UInt8, pieces c (l ++ [x]) = addLast x (pieces c l)
  | [] => by simp [pieces, hx, addLast]
  | b :: l => by
    have ih := pieces_snoc_miss c x hx l
    obtain ⟨p, ps, hp⟩ := pieces_ne c l
    by_cases h : b = c
    · subst h; simp [pieces, ih, hp, addLast]
    · simp only [List.cons_append, pieces, if_neg h, ih, hp]
      cases ps <;> simp [addLast]

theorem pieces_len (c : UInt8) : ∀ (l p : List UInt8), p ∈ pieces c l → p.length ≤ l.length
  | [], p, h => by simp [pieces] at h; simp [h]
  | b :: l, p, h => by
    have ih := pieces_len c l
    unfold pieces at h
    split at h
    · rcases List.mem_cons.1 h with h | h
      · simp [h]
      · have := ih p h; simp only [List.length_cons]; omega
    · split at h
      · rename_i q qs hq
        rcases List.mem_cons.1 h with h | h
        · have := ih q (by rw [hq]; simp); subst h; simp only [List.length_cons]; omega
        · have := ih p (by rw [hq]; exact List.mem_cons_of_mem _ h); simp only [List.length_cons]; omega
      · simp at h; subst h; simp
theorem pieces_len' (c : UInt8) (l : List UInt8) : 1 ≤ (pieces c l).length ∧ (pieces c l).length ≤ l.length + 1 := by
  induction l with
  | nil => simp [pieces]
  | cons b l ih =>
    unfold pieces
    split
    · simp; omega
    · split
      · rename_i q qs hq
        rw [hq] at ih
        simp at ih ⊢
        omega
      · simp
/-- a part, as strconv.Atoi and strconv.Itoa tell it -/
def partV (l : List UInt8) : Option Int := match atoiAll l with
  | .ok n => if itoa n = l then some n else none
  | _ => none
def parse3 (p q r : List UInt8) : Option (Int × Int × Int) := (partV p).bind fun a => (partV q).bind fun b => (partV r).bind fun c => if goodB a b c = true then some (a, b, c) else none
def parseP : List (List UInt8) → Option (Int × Int × Int)
  | [p, q, r] => parse3 p q r
  | _ => none
def parseL (s : List UInt8) : Option (Int × Int × Int) := parseP (pieces 46 s)
theorem partV_some {l : List UInt8} {n : Int} (h : partV l = some n) : atoiAll l = .ok n ∧ itoa n = l := by
  unfold partV at h
  split at h
  · rename_i m hm
    split at h
    · rename_i hi
      cases h
      exact ⟨hm, hi⟩
    · cases h
  · cases h
theorem partV_ok {l : List UInt8} {n : Int} (h : atoiAll l = .ok n) (hi : itoa n = l) : partV l = some n := by simp [partV, h, hi]
theorem partV_off {l : List UInt8} {n : Int} (h : atoiAll l = .ok n) (hi : itoa n ≠ l) : partV l = none := by simp [partV, h, hi]
theorem partV_bad {l : List UInt8} (h : ∀ n, atoiAll l ≠ .ok n) : partV l = none := by
  unfold partV
  split
  · rename_i n hn; exact absurd hn (h n)
  · rfl
theorem atoi_bd {l : List UInt8} {n : Int} (h : atoiAll l = .ok n) : -9223372036854775808 ≤ n ∧ n ≤ 9223372036854775807 := by
  unfold atoiAll at h
  split at h
  · cases h
  · simp only at h
    split at h
    · cases h
    · cases h
    · split at h
      · cases h
      · split at h
        · cases h
        · injection h with h
          split at h <;> omega

/-- what Parse answers -/
def PV : Option (Int × Int × Int) → Value
  | some (a, b, c) => .tuple #[V a b c, .int .i64 0]
  | none => .tuple #[V 0 0 0, .int .i64 20]
theorem PV_none : PV none = .tuple #[V 0 0 0, .int .i64 20] := rfl
theorem PV_some (a b c : Int) : PV (some (a, b, c)) = .tuple #[V a b c, .int .i64 0] := rfl

end Vs
end Go.Proofs.YtflhmoelenmomaaGreatDoor

/-
  What the walks of version.Parse want of the world (the library's variables), and version.Parse for every text of at most 2^20 bytes.
-/
namespace Go.Proofs.YtflhmoelenmomaaGreatDoor
open Go.RowKit
namespace Vs

/-- the library's variables, as start-up code lays them -/
structure Env (W : World) : Prop where
  max : ∃ m : Int, W.cell? ⟨2, 0, none⟩ = some (.int .i64 m)
  pow : Lib.TabIs Tryz.prog W "internal/strconv.uint64pow10" .u64 Lib.pow10Tab
  syn : ∃ tp p, W.var? Tryz.prog "strconv.ErrSyntax" = some #[.iface tp p]
  rng : ∃ tp p, W.var? Tryz.prog "strconv.ErrRange" = some #[.iface tp p]
  big : 8 ≤ W.heap.size
theorem gPow : Tryz.prog.globalNamed "internal/strconv.uint64pow10" = some 3 := by kernel_rfl
theorem gSyn : Tryz.prog.globalNamed "strconv.ErrSyntax" = some 0 := by kernel_rfl
theorem gRng : Tryz.prog.globalNamed "strconv.ErrRange" = some 1 := by kernel_rfl
theorem Env.below {B : Nat} {W W' : World} (h : Env W) (hB : W.heap.size ≤ B) (hb : Below B W W') : Env W' := by
  have hs := h.big
  obtain ⟨m, hm⟩ := h.max
  obtain ⟨t1, p1, h1⟩ := h.syn
  obtain ⟨t2, p2, h2⟩ := h.rng
  exact ⟨⟨m, by rw [hb.cell (p := ⟨2, 0, none⟩) (by show 2 < B; omega)]; exact hm⟩, var?_below hb gPow (by omega) h.pow, ⟨t1, p1, var?_below hb gSyn (by omega) h1⟩, ⟨t2, p2, var?_below hb gRng (by omega) h2⟩, Nat.le_trans hs hb.size⟩
theorem Env.alloc {W : World} (h : Env W) (o : Obj) : Env (W.alloc o) := h.below (Nat.le_refl _) ((Below.refl _ _).alloc (Nat.le_refl _) o)

theorem below_drewN {B : Nat} {a w : World} (h : Below B a w) (n : Nat) : Below B a (w.drewN n) := ⟨h.os, h.tape, h.output, h.size, h.block⟩

theorem below_grow (w : World) (k : Nat) (os : Array Obj) : Below w.heap.size w (Sort.grow (w.drewN k) os) :=
  ⟨rfl, rfl, rfl, by show w.heap.size ≤ (w.heap ++ os).size; simp, fun i hi => by show (w.heap ++ os)[i]? = w.heap[i]?; rw [Array.getElem?_append_left hi]⟩

theorem atoi_ok (s : ByteArray) (hs : s.size ≤ 1048576) (v : Int) (h : Lib.atoiAll s.data.toList = .ok v) (w : World) :
    Calls Tryz.prog 45 #[.string s] w fun e w' => e = .returned (.tuple #[.int .i64 v, .nilIface]) ∧ Below w.heap.size w w' := by
  refine (Tryz.strconv_Atoi_ok s (by omega) v h w).mono fun e w' ⟨he, hw⟩ => ⟨he, ?_⟩
  rcases hw with rfl | ⟨t, rfl⟩
  · exact Below.refl _ _
  · exact Lib.bytesWorld_below _ _ _

theorem atoi_bad (s : ByteArray) (hs : s.size ≤ 1048576) (h : ∀ v, Lib.atoiAll s.data.toList ≠ .ok v) (w : World) (hE : Env w) :
    Calls Tryz.prog 45 #[.string s] w fun e w' => ∃ (x : Int) (N : Nat), e = .returned (.tuple #[.int .i64 x, .iface 147 (.pointer (some ⟨N, 0, none⟩))]) ∧ Below w.heap.size w w' := by
  cases hx : Lib.atoiAll s.data.toList
  · exact absurd hx (h _)
  · obtain ⟨t1, p1, h1⟩ := hE.syn
    exact (Any.strconv_Atoi_syntax_var Tryz.laysC172 s (by omega) hx t1 p1 w h1).mono fun e w' ⟨N, he, _, _, hb⟩ => ⟨_, N, he, hb⟩
  · obtain ⟨t1, p1, h1⟩ := hE.rng
    exact (Any.strconv_Atoi_range_var Tryz.laysC172 s (by omega) hx t1 p1 w h1).mono fun e w' ⟨N, he, _, _, hb⟩ => ⟨_, N, he, hb⟩

theorem itoa_any (n : Int) (h0 : -9223372036854775808 ≤ n) (h1 : n ≤ 9223372036854775807) (w : World) (hE : Env w) :
    Calls Tryz.prog 46 #[.int .i64 n] w fun e w' => e = .returned (.string ⟨(Lib.itoa n).toArray⟩) ∧ Below w.heap.size w w' :=
  (Tryz.strconv_Itoa n h0 h1 w hE.pow).mono fun e w' ⟨he, k, os, hw⟩ => ⟨he, by subst hw; exact below_grow w k os⟩

theorem split_pts (s : ByteArray) : (Lib.splitB ⟨#[46]⟩ 0 (Lib.countB s ⟨#[46]⟩) s).map (·.data.toList) = pieces 46 s.data.toList ∧ (Lib.splitB ⟨#[46]⟩ 0 (Lib.countB s ⟨#[46]⟩) s).length = Lib.countB s ⟨#[46]⟩ + 1 :=
  ⟨by rw [Lib.splitB_data]; exact split_pieces 46 _, Lib.splitB_all _ (by decide) 0 _ _ rfl⟩

/-- the world of Parse's loop: the result's cells (block B), the words (B + 1), the version under way (B + 2) -/
structure PRel (B : Nat) (p q r : ByteArray) (w wr : World) (x0 x1 x2 : Int) : Prop where
  old : Below B w wr
  size : B + 3 ≤ wr.heap.size
  a0 : wr.cell? ⟨B, 0, none⟩ = some (.int .i64 0)
  a1 : wr.cell? ⟨B, 1, none⟩ = some (.int .i64 0)
  a2 : wr.cell? ⟨B, 2, none⟩ = some (.int .i64 0)
  fa : ∀ j, wr.frozen? ⟨B, j, none⟩ = false
  p0 : wr.cell? ⟨B + 1, 0, none⟩ = some (.string p)
  p1 : wr.cell? ⟨B + 1, 1, none⟩ = some (.string q)
  p2 : wr.cell? ⟨B + 1, 2, none⟩ = some (.string r)
  c0 : wr.cell? ⟨B + 1 + 1, 0, none⟩ = some (.int .i64 x0)
  c1 : wr.cell? ⟨B + 1 + 1, 1, none⟩ = some (.int .i64 x1)
  c2 : wr.cell? ⟨B + 1 + 1, 2, none⟩ = some (.int .i64 x2)
  fc : ∀ j, wr.frozen? ⟨B + 1 + 1, j, none⟩ = false
theorem PRel.next {B : Nat} {p q r : ByteArray} {w wr w1 : World} {x0 x1 x2 : Int} (h : PRel B p q r w wr x0 x1 x2) (hb : Below wr.heap.size wr w1) : PRel B p q r w w1 x0 x1 x2 := by
  obtain ⟨hc, hf⟩ := bcell hb
  have hs := h.size
  exact ⟨h.old.trans (hb.mono (by omega)), Nat.le_trans hs hb.size, (hc _ _ (by omega)).trans h.a0, (hc _ _ (by omega)).trans h.a1, (hc _ _ (by omega)).trans h.a2, fun j => (hf _ _ (by omega)).trans (h.fa j),
    (hc _ _ (by omega)).trans h.p0, (hc _ _ (by omega)).trans h.p1, (hc _ _ (by omega)).trans h.p2, (hc _ _ (by omega)).trans h.c0, (hc _ _ (by omega)).trans h.c1, (hc _ _ (by omega)).trans h.c2, fun j => (hf _ _ (by omega)).trans (h.fc j)⟩
theorem PRel.start (p q r : ByteArray) (w : World) : PRel w.heap.size p q r w (((w.alloc (.cells #[.int .i64 0, .int .i64 0, .int .i64 0] 37)).alloc (.cells (List.map Value.string [p, q, r]).toArray 9)).alloc (.cells #[.int .i64 0, .int .i64 0, .int .i64 0] 37)) 0 0 0 := by
  refine ⟨(((Below.refl _ _).alloc (Nat.le_refl _) _).alloc (by simp) _).alloc (by simp; omega) _, by simp, ?_, ?_, ?_, ?_, ?_, ?_, ?_, ?_, ?_, ?_, ?_⟩
  all_goals first | go_simp | (intro j; go_simp)
theorem btl (s : ByteArray) : s.toList = s.data.toList := ByteArray.toList_eq s
theorem PRel.end0 {p q r : ByteArray} {w wr : World} {x0 x1 x2 : Int} (h : PRel w.heap.size p q r w wr x0 x1 x2) : Below w.heap.size w (((wr.setCell ⟨w.heap.size, 0, none⟩ (.int .i64 0)).setCell ⟨w.heap.size, 1, none⟩ (.int .i64 0)).setCell ⟨w.heap.size, 2, none⟩ (.int .i64 0)) :=
  ((h.old.setCell (Nat.le_refl _) _).setCell (Nat.le_refl _) _).setCell (Nat.le_refl _) _
theorem PRel.end1 {p q r : ByteArray} {w wr : World} {x0 x1 x2 y0 y1 y2 : Int} (h : PRel w.heap.size p q r w wr x0 x1 x2) : Below w.heap.size w (((wr.setCell ⟨w.heap.size, 0, none⟩ (.int .i64 y0)).setCell ⟨w.heap.size, 1, none⟩ (.int .i64 y1)).setCell ⟨w.heap.size, 2, none⟩ (.int .i64 y2)) :=
  ((h.old.setCell (Nat.le_refl _) _).setCell (Nat.le_refl _) _).setCell (Nat.le_refl _) _
theorem PRel.set0 {B : Nat} {p q r : ByteArray} {w wr : World} {x0 x1 x2 : Int} (h : PRel B p q r w wr x0 x1 x2) (x : Int) : PRel B p q r w (wr.setCell ⟨B + 1 + 1, 0, none⟩ (.int .i64 x)) x x1 x2 := by
  obtain ⟨h1, h2, h3, h4, h5, h6, h7, h8, h9, h10, h11, h12, h13⟩ := h
  refine ⟨h1.setCell (by show B ≤ B + 1 + 1; omega) _, by simpa [World.setCell] using h2, ?_, ?_, ?_, ?_, ?_, ?_, ?_, ?_, ?_, ?_, ?_⟩
  all_goals first | (intro j; rw [World.frozen?_setCell]; first | exact h6 j | exact h13 j) | (rw [World.cell?_setCell_other _ _ _ _ (by simp)]; assumption) | (exact World.cell?_setCell_same _ _ _ h10)
theorem PRel.set1 {B : Nat} {p q r : ByteArray} {w wr : World} {x0 x1 x2 : Int} (h : PRel B p q r w wr x0 x1 x2) (x : Int) : PRel B p q r w (wr.setCell ⟨B + 1 + 1, 1, none⟩ (.int .i64 x)) x0 x x2 := by
  obtain ⟨h1, h2, h3, h4, h5, h6, h7, h8, h9, h10, h11, h12, h13⟩ := h
  refine ⟨h1.setCell (by show B ≤ B + 1 + 1; omega) _, by simpa [World.setCell] using h2, ?_, ?_, ?_, ?_, ?_, ?_, ?_, ?_, ?_, ?_, ?_⟩
  all_goals first | (intro j; rw [World.frozen?_setCell]; first | exact h6 j | exact h13 j) | (rw [World.cell?_setCell_other _ _ _ _ (by simp)]; assumption) | (exact World.cell?_setCell_same _ _ _ h11)
theorem PRel.set2 {B : Nat} {p q r : ByteArray} {w wr : World} {x0 x1 x2 : Int} (h : PRel B p q r w wr x0 x1 x2) (x : Int) : PRel B p q r w (wr.setCell ⟨B + 1 + 1, 2, none⟩ (.int .i64 x)) x0 x1 x := by
  obtain ⟨h1, h2, h3, h4, h5, h6, h7, h8, h9, h10, h11, h12, h13⟩ := h
  refine ⟨h1.setCell (by show B ≤ B + 1 + 1; omega) _, by simpa [World.setCell] using h2, ?_, ?_, ?_, ?_, ?_, ?_, ?_, ?_, ?_, ?_, ?_⟩
  all_goals first | (intro j; rw [World.frozen?_setCell]; first | exact h6 j | exact h13 j) | (rw [World.cell?_setCell_other _ _ _ _ (by simp)]; assumption) | (exact World.cell?_setCell_same _ _ _ h12)

set_option maxHeartbeats 1000000 in
theorem parse_any (s : ByteArray) (hs : s.size ≤ 1048576) (w : World) (hE : Env w) :
    Calls Tryz.prog 28 #[.string s] w fun e w' => e = .returned (PV (parseL s.data.toList)) ∧ Below w.heap.size w w' := by
  obtain ⟨hp, hl⟩ := split_pts s
  obtain ⟨m, hm⟩ := (hE.alloc (.cells #[.int .i64 0, .int .i64 0, .int .i64 0] 37)).max
  have hc := Lib.countB_le ⟨#[46]⟩ (by decide) _ s (Nat.le_refl _)
  have hc1 : Lib.countB s ⟨#[46]⟩ ≤ 1048576 := by omega
  clear hc
  have HP := Lib.hid (show pieces 46 s.data.toList = _ from hp.symm)
  clear hp
  generalize hxs : Lib.splitB ⟨#[46]⟩ 0 (Lib.countB s ⟨#[46]⟩) s = xs at *
  generalize hn : Lib.countB s ⟨#[46]⟩ = n at *
  have HX := Lib.hid hxs
  have HN := Lib.hid hn
  have HL := Lib.hid hl
  clear hxs hn hl
  go_enter Tryz.func28, Tryz.ntmps28
  go_wp2_with fail
  refine (Tryz.strings_Split s ⟨#[46]⟩ m _ (by omega) hm (by decide)).mono ?_
  rintro e w1 ⟨rfl, rfl⟩
  rw [HN.out, HX.out]
  by_cases h3 : n = 2
  · subst h3
    obtain ⟨p, q, r, rfl⟩ : ∃ p q r, xs = [p, q, r] := by
      have hl := HL.out
      match xs, hl with
      | [p, q, r], _ => exact ⟨p, q, r, rfl⟩
    have HS := PRel.start p q r w
    have hsz0 : Hid (p.size ≤ 1048576) := by
      have h := pieces_len 46 s.data.toList p.data.toList (by rw [HP.out]; simp)
      rw [← Lib.size_eq, ← Lib.size_eq] at h
      exact (show p.size ≤ 1048576 by omega)
    have hsz1 : Hid (q.size ≤ 1048576) := by
      have h := pieces_len 46 s.data.toList q.data.toList (by rw [HP.out]; simp)
      rw [← Lib.size_eq, ← Lib.size_eq] at h
      exact (show q.size ≤ 1048576 by omega)
    have hsz2 : Hid (r.size ≤ 1048576) := by
      have h := pieces_len 46 s.data.toList r.data.toList (by rw [HP.out]; simp)
      rw [← Lib.size_eq, ← Lib.size_eq] at h
      exact (show r.size ≤ 1048576 by omega)
    clear hm
    go_wp2_with fail
    go_loopw [18] (fun i wr => ∃ (k : Nat) (x0 x1 x2 : Int), k ≤ 3 ∧ i = .int .i64 k ∧ PRel w.heap.size p q r w wr x0 x1 x2 ∧ (1 ≤ k → partV p.data.toList = some x0) ∧ (2 ≤ k → partV q.data.toList = some x1) ∧ (3 ≤ k → partV r.data.toList = some x2)) (fun i _ => 3 - (intOf i).toNat)
    case atStart => exact ⟨0, 0, 0, 0, by omega, rfl, HS, by omega, by omega, by omega⟩
    case round =>
      obtain ⟨k, x0, x1, x2, hk, rfl, hR, h0, h1, h2⟩ := hrel
      clear HS
      have hk5 : k = 0 ∨ k = 1 ∨ k = 2 ∨ k = 3 := by omega
      rcases hk5 with rfl | rfl | rfl | rfl
      ·
        clear h0 h1 h2
        have hE1 := hE.below (Nat.le_refl _) hR.old
        have hp0 := hR.p0
        have hsz := hsz0.out
        by_cases hat : ∃ v, Lib.atoiAll p.data.toList = .ok v
        · obtain ⟨v, hv⟩ := hat
          obtain ⟨v0, v1⟩ := atoi_bd hv
          have HV := Lib.hid hv
          clear hv
          by_cases hi : Lib.itoa v = p.data.toList
          · have hpv := Lib.hid (partV_ok HV.out hi)
            have HI := Lib.hid hi
            have ht : (!Lib.itoa v == p.toList) = false := by rw [btl, hi]; simp
            clear hi
            go_wp2_with fail
            refine (atoi_ok p hsz v HV.out _).mono ?_
            rintro e w1 ⟨rfl, hb1⟩
            have hE2 := hE1.below (Nat.le_refl _) hb1
            have hR1 := hR.next hb1
            clear hp0
            go_wp2_with fail
            refine (itoa_any v v0 v1 _ hE2).mono ?_
            rintro e w2 ⟨rfl, hb2⟩
            have hR2 := hR1.next hb2
            have c0 := hR2.c0
            have fc := hR2.fc
            go_wp2
            go_roundw
            case rel => exact ⟨1, v, x1, x2, by omega, rfl, hR2.set0 v, by intro _; exact hpv.out, by omega, by omega⟩
            case measure => simp [intOf]
          · have hpv := Lib.hid (partV_off HV.out hi)
            have HI := Lib.hid hi
            have ht : (!Lib.itoa v == p.toList) = true := by rw [btl]; simpa using hi
            clear hi
            go_wp2_with fail
            refine (atoi_ok p hsz v HV.out _).mono ?_
            rintro e w1 ⟨rfl, hb1⟩
            have hE2 := hE1.below (Nat.le_refl _) hb1
            have hR1 := hR.next hb1
            clear hp0
            go_wp2_with fail
            refine (itoa_any v v0 v1 _ hE2).mono ?_
            rintro e w2 ⟨rfl, hb2⟩
            have hR2 := hR1.next hb2
            have a0 := hR2.a0
            have a1 := hR2.a1
            have a2 := hR2.a2
            have fa := hR2.fa
            go_wp2
            refine bodyPost_ret (v := .tuple #[V 0 0 0, .int .i64 20]) (by simp [results, Tryz.results28, go_sem, a0, a1, a2]) rfl ⟨?_, ?_⟩
            · rw [parseL, HP.out]; simp [parseP, parse3, hpv.out, PV_none]
            · exact hR2.end0
        · have hat' : ∀ v, Lib.atoiAll p.data.toList ≠ .ok v := fun v hv => hat ⟨v, hv⟩
          have hpv := Lib.hid (partV_bad hat')
          have HA := Lib.hid hat'
          clear hat hat'
          go_wp2_with fail
          refine (atoi_bad p hsz HA.out _ hE1).mono ?_
          rintro e w1 ⟨x, N, rfl, hb1⟩
          have hR1 := hR.next hb1
          have a0 := hR1.a0
          have a1 := hR1.a1
          have a2 := hR1.a2
          have fa := hR1.fa
          clear hp0
          go_wp2
          refine bodyPost_ret (v := .tuple #[V 0 0 0, .int .i64 20]) (by simp [results, Tryz.results28, go_sem, a0, a1, a2]) rfl ⟨?_, ?_⟩
          · rw [parseL, HP.out]; simp [parseP, parse3, hpv.out, PV_none]
          · exact hR1.end0
      ·
        have g0 := h0 (by omega)
        clear h0 h1 h2
        have G0 := Lib.hid g0; clear g0
        have hE1 := hE.below (Nat.le_refl _) hR.old
        have hp1 := hR.p1
        have hsz := hsz1.out
        by_cases hat : ∃ v, Lib.atoiAll q.data.toList = .ok v
        · obtain ⟨v, hv⟩ := hat
          obtain ⟨v0, v1⟩ := atoi_bd hv
          have HV := Lib.hid hv
          clear hv
          by_cases hi : Lib.itoa v = q.data.toList
          · have hpv := Lib.hid (partV_ok HV.out hi)
            have HI := Lib.hid hi
            have ht : (!Lib.itoa v == q.toList) = false := by rw [btl, hi]; simp
            clear hi
            go_wp2_with fail
            refine (atoi_ok q hsz v HV.out _).mono ?_
            rintro e w1 ⟨rfl, hb1⟩
            have hE2 := hE1.below (Nat.le_refl _) hb1
            have hR1 := hR.next hb1
            clear hp1
            go_wp2_with fail
            refine (itoa_any v v0 v1 _ hE2).mono ?_
            rintro e w2 ⟨rfl, hb2⟩
            have hR2 := hR1.next hb2
            have c1 := hR2.c1
            have fc := hR2.fc
            go_wp2
            go_roundw
            case rel => exact ⟨2, x0, v, x2, by omega, rfl, hR2.set1 v, by intro _; exact G0.out, by intro _; exact hpv.out, by omega⟩
            case measure => simp [intOf]
          · have hpv := Lib.hid (partV_off HV.out hi)
            have HI := Lib.hid hi
            have ht : (!Lib.itoa v == q.toList) = true := by rw [btl]; simpa using hi
            clear hi
            go_wp2_with fail
            refine (atoi_ok q hsz v HV.out _).mono ?_
            rintro e w1 ⟨rfl, hb1⟩
            have hE2 := hE1.below (Nat.le_refl _) hb1
            have hR1 := hR.next hb1
            clear hp1
            go_wp2_with fail
            refine (itoa_any v v0 v1 _ hE2).mono ?_
            rintro e w2 ⟨rfl, hb2⟩
            have hR2 := hR1.next hb2
            have a0 := hR2.a0
            have a1 := hR2.a1
            have a2 := hR2.a2
            have fa := hR2.fa
            go_wp2
            refine bodyPost_ret (v := .tuple #[V 0 0 0, .int .i64 20]) (by simp [results, Tryz.results28, go_sem, a0, a1, a2]) rfl ⟨?_, ?_⟩
            · rw [parseL, HP.out]; simp [parseP, parse3, hpv.out, PV_none, G0.out]
            · exact hR2.end0
        · have hat' : ∀ v, Lib.atoiAll q.data.toList ≠ .ok v := fun v hv => hat ⟨v, hv⟩
          have hpv := Lib.hid (partV_bad hat')
          have HA := Lib.hid hat'
          clear hat hat'
          go_wp2_with fail
          refine (atoi_bad q hsz HA.out _ hE1).mono ?_
          rintro e w1 ⟨x, N, rfl, hb1⟩
          have hR1 := hR.next hb1
          have a0 := hR1.a0
          have a1 := hR1.a1
          have a2 := hR1.a2
          have fa := hR1.fa
          clear hp1
          go_wp2
          refine bodyPost_ret (v := .tuple #[V 0 0 0, .int .i64 20]) (by simp [results, Tryz.results28, go_sem, a0, a1, a2]) rfl ⟨?_, ?_⟩
          · rw [parseL, HP.out]; simp [parseP, parse3, hpv.out, PV_none, G0.out]
          · exact hR1.end0
      ·
        have g0 := h0 (by omega)
        have g1 := h1 (by omega)
        clear h0 h1 h2
        have G0 := Lib.hid g0; clear g0
        have G1 := Lib.hid g1; clear g1
        have hE1 := hE.below (Nat.le_refl _) hR.old
        have hp2 := hR.p2
        have hsz := hsz2.out
        by_cases hat : ∃ v, Lib.atoiAll r.data.toList = .ok v
        · obtain ⟨v, hv⟩ := hat
          obtain ⟨v0, v1⟩ := atoi_bd hv
          have HV := Lib.hid hv
          clear hv
          by_cases hi : Lib.itoa v = r.data.toList
          · have hpv := Lib.hid (partV_ok HV.out hi)
            have HI := Lib.hid hi
            have ht : (!Lib.itoa v == r.toList) = false := by rw [btl, hi]; simp
            clear hi
            go_wp2_with fail
            refine (atoi_ok r hsz v HV.out _).mono ?_
            rintro e w1 ⟨rfl, hb1⟩
            have hE2 := hE1.below (Nat.le_refl _) hb1
            have hR1 := hR.next hb1
            clear hp2
            go_wp2_with fail
            refine (itoa_any v v0 v1 _ hE2).mono ?_
            rintro e w2 ⟨rfl, hb2⟩
            have hR2 := hR1.next hb2
            have c2 := hR2.c2
            have fc := hR2.fc
            go_wp2
            go_roundw
            case rel => exact ⟨3, x0, x1, v, by omega, rfl, hR2.set2 v, by intro _; exact G0.out, by intro _; exact G1.out, by intro _; exact hpv.out⟩
            case measure => simp [intOf]
          · have hpv := Lib.hid (partV_off HV.out hi)
            have HI := Lib.hid hi
            have ht : (!Lib.itoa v == r.toList) = true := by rw [btl]; simpa using hi
            clear hi
            go_wp2_with fail
            refine (atoi_ok r hsz v HV.out _).mono ?_
            rintro e w1 ⟨rfl, hb1⟩
            have hE2 := hE1.below (Nat.le_refl _) hb1
            have hR1 := hR.next hb1
            clear hp2
            go_wp2_with fail
            refine (itoa_any v v0 v1 _ hE2).mono ?_
            rintro e w2 ⟨rfl, hb2⟩
            have hR2 := hR1.next hb2
            have a0 := hR2.a0
            have a1 := hR2.a1
            have a2 := hR2.a2
            have fa := hR2.fa
            go_wp2
            refine bodyPost_ret (v := .tuple #[V 0 0 0, .int .i64 20]) (by simp [results, Tryz.results28, go_sem, a0, a1, a2]) rfl ⟨?_, ?_⟩
            · rw [parseL, HP.out]; simp [parseP, parse3, hpv.out, PV_none, G0.out, G1.out]
            · exact hR2.end0
        · have hat' : ∀ v, Lib.atoiAll r.data.toList ≠ .ok v := fun v hv => hat ⟨v, hv⟩
          have hpv := Lib.hid (partV_bad hat')
          have HA := Lib.hid hat'
          clear hat hat'
          go_wp2_with fail
          refine (atoi_bad r hsz HA.out _ hE1).mono ?_
          rintro e w1 ⟨x, N, rfl, hb1⟩
          have hR1 := hR.next hb1
          have a0 := hR1.a0
          have a1 := hR1.a1
          have a2 := hR1.a2
          have fa := hR1.fa
          clear hp2
          go_wp2
          refine bodyPost_ret (v := .tuple #[V 0 0 0, .int .i64 20]) (by simp [results, Tryz.results28, go_sem, a0, a1, a2]) rfl ⟨?_, ?_⟩
          · rw [parseL, HP.out]; simp [parseP, parse3, hpv.out, PV_none, G0.out, G1.out]
          · exact hR1.end0
      ·
        have g0 := h0 (by omega)
        have g1 := h1 (by omega)
        have g2 := h2 (by omega)
        clear h0 h1 h2
        have G0 := Lib.hid g0; clear g0
        have G1 := Lib.hid g1; clear g1
        have G2 := Lib.hid g2; clear g2
        have c0 := hR.c0
        have c1 := hR.c1
        have c2 := hR.c2
        cases hg : goodB x0 x1 x2
        · have HG := Lib.hid hg
          go_wp2_with fail
          refine (good_any x0 x1 x2 _).mono ?_
          rintro e w1 ⟨rfl, hb1⟩
          have hR1 := hR.next hb1
          have a0 := hR1.a0
          have a1 := hR1.a1
          have a2 := hR1.a2
          have fa := hR1.fa
          go_wp2
          refine bodyPost_ret (v := .tuple #[V 0 0 0, .int .i64 20]) (by simp [results, Tryz.results28, go_sem, a0, a1, a2]) rfl ⟨?_, ?_⟩
          · rw [parseL, HP.out]; simp [parseP, parse3, G0.out, G1.out, G2.out, HG.out, PV_none]
          · exact hR1.end0
        · have HG := Lib.hid hg
          go_wp2_with fail
          refine (good_any x0 x1 x2 _).mono ?_
          rintro e w1 ⟨rfl, hb1⟩
          have hR1 := hR.next hb1
          have a0 := hR1.a0
          have a1 := hR1.a1
          have a2 := hR1.a2
          have fa := hR1.fa
          have d0 := hR1.c0
          have d1 := hR1.c1
          have d2 := hR1.c2
          clear c0 c1 c2
          go_wp2
          refine bodyPost_ret (v := .tuple #[V x0 x1 x2, .int .i64 0]) (by simp [results, Tryz.results28, go_sem, a0, a1, a2]) rfl ⟨?_, ?_⟩
          · rw [parseL, HP.out]; simp [parseP, parse3, G0.out, G1.out, G2.out, HG.out, PV_some]
          · exact hR1.end1
  · have hx : decide (((n : Int) + 1) = 3) = false := by simp; omega
    have hb : (((n : Int) + 1) != 3) = true := by rw [bne_iff_ne]; omega
    have h3' : ¬ ((n : Int) + 1 = 3) := by omega
    go_wp2_with fail
    refine bodyPost_ret (v := .tuple #[V 0 0 0, .int .i64 20]) (by simp [results, Tryz.results28, go_sem]) rfl ⟨?_, ?_⟩
    · rw [parseL, HP.out]
      have hl := HL.out
      rcases xs with _ | ⟨p, _ | ⟨q, _ | ⟨r, _ | ⟨u, xs⟩⟩⟩⟩ <;> simp_all [parseP, PV_none]
    · exact ((Below.refl _ _).alloc (Nat.le_refl _) _).alloc (by simp) _

end Vs
end Go.Proofs.YtflhmoelenmomaaGreatDoor
