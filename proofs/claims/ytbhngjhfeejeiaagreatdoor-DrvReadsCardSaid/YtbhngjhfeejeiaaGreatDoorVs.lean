/-
  Walks of the version package and of its reference: Good, Number, Of (both texts). No condition on the arguments.
  Plain lists: the pieces between the points of a text, a part of a version, and what version.Parse answers. No program in sight.
  What the walks of version.Parse want of the world (the library's variables), and version.Parse for every text of at most 2^20 bytes.
  saplinglaw06.alive answers true in every world in which the library's variables lie; VersionNumbers answers true.
  Small lemmas; what the texts of versions want of the world.
  version.Text and its reference, for every version.
  Plain laws on versions' texts: a text is read back, what is read is written as it was, and the reference's part is Atoi's and Itoa's.
  VersionTexts answers true for every version and every text.
  The reference's part and its Parse, for every text of at most 2^20 bytes.
  The reference's Pieces, for every text of at most 2^20 bytes: the pieces between the bytes c lie in a row of the call's own.
  The reference's Parse, for every text of at most 2^20 bytes.
-/
import Derived.Test.YtbhngjhfeejeiaaGreatDoorRows
import Derived.WalkKit
import Derived.WalkLawsBesides
import Derived.WalkSpells
import Derived.Lib.Hide
import Derived.Deep.QuietTactic
import Derived.BigQuiet
import Derived.RegionTactic
import Derived.Lib.SplitLaws
import Derived.Lib.ItoaLen
import Derived.Lib.AtoiAll
import Derived.Test.YtbhngjhfeejeiaaGreatDoorShelf
import Derived.WalkSmall
import Derived.ChangeKeysEq
import Derived.Deep.RegionHeld3
import Derived.StillTailTactics
import Derived.Deep.AppendLies
namespace Go.Proofs.YtbhngjhfeejeiaaGreatDoor
open Go.RowKit
namespace Vs

def goodB (a b c : Int) : Bool := decide (0 ≤ a ∧ a ≤ 999) && decide (0 ≤ b ∧ b ≤ 999) && decide (0 ≤ c ∧ c ≤ 999)
theorem good_tt {a b c : Int} (ha : 0 ≤ a ∧ a ≤ 999) (hb : 0 ≤ b ∧ b ≤ 999) (hc : 0 ≤ c ∧ c ≤ 999) : goodB a b c = true := by simp [goodB, ha, hb, hc]
theorem good_ff {a b c : Int} (h : ¬ (0 ≤ a ∧ a ≤ 999) ∨ ¬ (0 ≤ b ∧ b ≤ 999) ∨ ¬ (0 ≤ c ∧ c ≤ 999)) : goodB a b c = false := by
  simp only [goodB, Bool.and_eq_false_iff, decide_eq_false_iff_not]; omega
theorem of_good {a b c : Int} (h : goodB a b c = true) : 0 ≤ a ∧ a ≤ 999 ∧ 0 ≤ b ∧ b ≤ 999 ∧ 0 ≤ c ∧ c ≤ 999 := by
  simp only [goodB, Bool.and_eq_true, decide_eq_true_eq] at h; omega
abbrev V (a b c : Int) : Value := .agg #[.int .i64 a, .int .i64 b, .int .i64 c]
theorem ret_int {k : IntKind} {a b : Int} (h : a = b) : Ending.returned (.int k a) = .returned (.int k b) := by rw [h]
theorem ret_bool {a b : Bool} (h : a = b) : Ending.returned (.bool a) = .returned (.bool b) := by rw [h]

set_option maxHeartbeats 400000 in
theorem good_any (a b c : Int) (w : World) : Calls Tryz.prog 28 #[V a b c] w fun e w' => e = .returned (.bool (goodB a b c)) ∧ Below w.heap.size w w' := by
  have i0 : ∀ w : World, (Instr.index 24 (V a b c) (.int .i64 0)).run Tryz.prog w = .ok (.int .i64 a) w := fun _ => by kernel_rfl
  have i1 : ∀ w : World, (Instr.index 24 (V a b c) (.int .i64 1)).run Tryz.prog w = .ok (.int .i64 b) w := fun _ => by kernel_rfl
  have i2 : ∀ w : World, (Instr.index 24 (V a b c) (.int .i64 2)).run Tryz.prog w = .ok (.int .i64 c) w := fun _ => by kernel_rfl
  go_enter Tryz.func28, Tryz.ntmps28
  go_wp2
  go_loop [4, 6] (fun _ i => ∃ k : Nat, k ≤ 3 ∧ i = .int .i64 k ∧ (1 ≤ k → 0 ≤ a ∧ a ≤ 999) ∧ (2 ≤ k → 0 ≤ b ∧ b ≤ 999) ∧ (3 ≤ k → 0 ≤ c ∧ c ≤ 999)) (fun _ i => 3 - (intOf i).toNat)
  case atStart => exact ⟨0, Nat.zero_le _, rfl, by omega, by omega, by omega⟩
  case round =>
    obtain ⟨k, hk, rfl, h0, h1, h2⟩ := hrel
    have hk5 : k = 0 ∨ k = 1 ∨ k = 2 ∨ k = 3 := by omega
    rcases hk5 with rfl | rfl | rfl | rfl
    · by_cases x0 : 0 ≤ a
      · by_cases x1 : a ≤ 999
        · clear h0 h1 h2
          go_wp2
          go_round
          case rel => exact ⟨1, by omega, rfl, by omega, by omega, by omega⟩
          case measure => simp [intOf]
        · have hg := Lib.hid (good_ff (a := a) (b := b) (c := c) (by omega))
          clear h0 h1 h2
          go_wp2
          go_ret
          exact ⟨ret_bool hg.out.symm, (Below.refl _ _).alloc (Nat.le_refl _) _⟩
      · have hg := Lib.hid (good_ff (a := a) (b := b) (c := c) (by omega))
        clear h0 h1 h2
        go_wp2
        go_ret
        exact ⟨ret_bool hg.out.symm, (Below.refl _ _).alloc (Nat.le_refl _) _⟩
    · by_cases x0 : 0 ≤ b
      · by_cases x1 : b ≤ 999
        · have h0' := h0 (by omega)
          clear h0 h1 h2
          go_wp2
          go_round
          case rel => exact ⟨2, by omega, rfl, by omega, by omega, by omega⟩
          case measure => simp [intOf]
        · have hg := Lib.hid (good_ff (a := a) (b := b) (c := c) (by omega))
          clear h0 h1 h2
          go_wp2
          go_ret
          exact ⟨ret_bool hg.out.symm, (Below.refl _ _).alloc (Nat.le_refl _) _⟩
      · have hg := Lib.hid (good_ff (a := a) (b := b) (c := c) (by omega))
        clear h0 h1 h2
        go_wp2
        go_ret
        exact ⟨ret_bool hg.out.symm, (Below.refl _ _).alloc (Nat.le_refl _) _⟩
    · by_cases x0 : 0 ≤ c
      · by_cases x1 : c ≤ 999
        · have h0' := h0 (by omega)
          have h1' := h1 (by omega)
          clear h0 h1 h2
          go_wp2
          go_round
          case rel => exact ⟨3, by omega, rfl, by omega, by omega, by omega⟩
          case measure => simp [intOf]
        · have hg := Lib.hid (good_ff (a := a) (b := b) (c := c) (by omega))
          clear h0 h1 h2
          go_wp2
          go_ret
          exact ⟨ret_bool hg.out.symm, (Below.refl _ _).alloc (Nat.le_refl _) _⟩
      · have hg := Lib.hid (good_ff (a := a) (b := b) (c := c) (by omega))
        clear h0 h1 h2
        go_wp2
        go_ret
        exact ⟨ret_bool hg.out.symm, (Below.refl _ _).alloc (Nat.le_refl _) _⟩
    · have hg := Lib.hid (good_tt (h0 (by omega)) (h1 (by omega)) (h2 (by omega)))
      clear h0 h1 h2
      go_wp2
      go_ret
      exact ⟨ret_bool hg.out.symm, (Below.refl _ _).alloc (Nat.le_refl _) _⟩

set_option maxHeartbeats 400000 in
theorem goodr_any (a b c : Int) (w : World) : Calls Tryz.prog 34 #[V a b c] w fun e w' => e = .returned (.bool (goodB a b c)) ∧ Below w.heap.size w w' := by
  by_cases a0 : 0 ≤ a
  · by_cases a1 : a ≤ 999
    · by_cases b0 : 0 ≤ b
      · by_cases b1 : b ≤ 999
        · by_cases c0 : 0 ≤ c
          · by_cases c1 : c ≤ 999
            · have hg := Lib.hid (good_tt (a := a) (b := b) (c := c) (by omega) (by omega) (by omega))
              go_enter Tryz.func34, Tryz.ntmps34
              go_wp2
              go_ret
              exact ⟨ret_bool hg.out.symm, (Below.refl _ _).alloc (Nat.le_refl _) _⟩
            · have hg := Lib.hid (good_ff (a := a) (b := b) (c := c) (by omega))
              go_enter Tryz.func34, Tryz.ntmps34
              go_wp2
              go_ret
              exact ⟨ret_bool hg.out.symm, (Below.refl _ _).alloc (Nat.le_refl _) _⟩
          · have hg := Lib.hid (good_ff (a := a) (b := b) (c := c) (by omega))
            go_enter Tryz.func34, Tryz.ntmps34
            go_wp2
            go_ret
            exact ⟨ret_bool hg.out.symm, (Below.refl _ _).alloc (Nat.le_refl _) _⟩
        · have hg := Lib.hid (good_ff (a := a) (b := b) (c := c) (by omega))
          go_enter Tryz.func34, Tryz.ntmps34
          go_wp2
          go_ret
          exact ⟨ret_bool hg.out.symm, (Below.refl _ _).alloc (Nat.le_refl _) _⟩
      · have hg := Lib.hid (good_ff (a := a) (b := b) (c := c) (by omega))
        go_enter Tryz.func34, Tryz.ntmps34
        go_wp2
        go_ret
        exact ⟨ret_bool hg.out.symm, (Below.refl _ _).alloc (Nat.le_refl _) _⟩
    · have hg := Lib.hid (good_ff (a := a) (b := b) (c := c) (by omega))
      go_enter Tryz.func34, Tryz.ntmps34
      go_wp2
      go_ret
      exact ⟨ret_bool hg.out.symm, (Below.refl _ _).alloc (Nat.le_refl _) _⟩
  · have hg := Lib.hid (good_ff (a := a) (b := b) (c := c) (by omega))
    go_enter Tryz.func34, Tryz.ntmps34
    go_wp2
    go_ret
    exact ⟨ret_bool hg.out.symm, (Below.refl _ _).alloc (Nat.le_refl _) _⟩

theorem bcell {W w1 : World} (hb : Below W.heap.size W w1) : (∀ b o, b < W.heap.size → w1.cell? ⟨b, o, none⟩ = W.cell? ⟨b, o, none⟩) ∧ (∀ b o, b < W.heap.size → w1.frozen? ⟨b, o, none⟩ = W.frozen? ⟨b, o, none⟩) :=
  ⟨fun b o h => hb.cell (p := ⟨b, o, none⟩) h, fun b o h => hb.frozen (p := ⟨b, o, none⟩) h⟩

/-- block b holds a version -/
structure C3 (W : World) (b : Nat) (x y z : Int) : Prop where
  lt : b < W.heap.size
  c0 : W.cell? ⟨b, 0, none⟩ = some (.int .i64 x)
  c1 : W.cell? ⟨b, 1, none⟩ = some (.int .i64 y)
  c2 : W.cell? ⟨b, 2, none⟩ = some (.int .i64 z)
  fz : ∀ j, W.frozen? ⟨b, j, none⟩ = false
theorem C3.below {W W' : World} {b : Nat} {x y z : Int} (h : C3 W b x y z) (hb : Below W.heap.size W W') : C3 W' b x y z := by
  obtain ⟨hc, hf⟩ := bcell hb
  exact ⟨Nat.lt_of_lt_of_le h.lt hb.size, (hc _ _ h.lt).trans h.c0, (hc _ _ h.lt).trans h.c1, (hc _ _ h.lt).trans h.c2, fun j => (hf _ _ h.lt).trans (h.fz j)⟩
theorem C3.new (W : World) (x y z : Int) : C3 (W.alloc (.cells #[.int .i64 x, .int .i64 y, .int .i64 z] 24)) W.heap.size x y z := by
  refine ⟨by simp, ?_, ?_, ?_, ?_⟩
  all_goals first | go_simp | (intro j; go_simp)
theorem C3.old {W : World} {b : Nat} {x y z : Int} (h : C3 W b x y z) (o : Obj) : C3 (W.alloc o) b x y z := h.below ((Below.refl _ _).alloc (Nat.le_refl _) o)
theorem C3.set {W : World} {b : Nat} {x y z : Int} (h : C3 W b x y z) (x' y' z' : Int) : C3 (((W.setCell ⟨b, 0, none⟩ (.int .i64 x')).setCell ⟨b, 1, none⟩ (.int .i64 y')).setCell ⟨b, 2, none⟩ (.int .i64 z')) b x' y' z' := by
  obtain ⟨h1, h2, h3, h4, h5⟩ := h
  refine ⟨by simpa [World.setCell] using h1, ?_, ?_, ?_, fun j => by simp only [World.frozen?_setCell]; exact h5 j⟩
  · rw [World.cell?_setCell_other _ _ _ _ (by simp), World.cell?_setCell_other _ _ _ _ (by simp)]; exact World.cell?_setCell_same _ _ _ h2
  · rw [World.cell?_setCell_other _ _ _ _ (by simp)]; exact World.cell?_setCell_same _ _ _ ((World.cell?_setCell_other _ _ _ _ (by simp)).trans h3)
  · exact World.cell?_setCell_same _ _ _ ((World.cell?_setCell_other _ _ _ _ (by simp)).trans ((World.cell?_setCell_other _ _ _ _ (by simp)).trans h4))
theorem C3.far {W : World} {b : Nat} {x y z : Int} (h : C3 W b x y z) (q : Nat) (hq : b ≠ q) (x' y' z' : Value) : C3 (((W.setCell ⟨q, 0, none⟩ x').setCell ⟨q, 1, none⟩ y').setCell ⟨q, 2, none⟩ z') b x y z := by
  obtain ⟨h1, h2, h3, h4, h5⟩ := h
  refine ⟨by simpa [World.setCell] using h1, ?_, ?_, ?_, fun j => by simp only [World.frozen?_setCell]; exact h5 j⟩
  all_goals
    rw [World.cell?_setCell_other _ _ _ _ (by intro e; apply hq; simpa using (congrArg Addr.block e).symm), World.cell?_setCell_other _ _ _ _ (by intro e; apply hq; simpa using (congrArg Addr.block e).symm), World.cell?_setCell_other _ _ _ _ (by intro e; apply hq; simpa using (congrArg Addr.block e).symm)]
    assumption

end Vs
end Go.Proofs.YtbhngjhfeejeiaaGreatDoor
namespace Go.Proofs.YtbhngjhfeejeiaaGreatDoor
namespace Vs
open Go.Lib

/-- what stands between the bytes c -/
def pieces (c : UInt8) : List UInt8 → List (List UInt8)
  | [] => [[]]
  | b :: l => if b = c then [] :: pieces c l else match pieces c l with
    | p :: ps => (b :: p) :: ps
    | [] => [[b]]
theorem pieces_ne (c : UInt8) (l : List UInt8) : ∃ p ps, pieces c l = p :: ps := by
  cases l with
  | nil => exact ⟨[], [], rfl⟩
  | cons b l =>
    unfold pieces
    split
    · exact ⟨_, _, rfl⟩
    · split <;> exact ⟨_, _, rfl⟩
theorem split_pieces (c : UInt8) : ∀ l : List UInt8, splitK [c] 0 (count l [c]) l = pieces c l
  | [] => by rw [count_miss (by simp [index])]; rfl
  | b :: l => by
    have ih := split_pieces c l
    by_cases h : b = c
    · subst h
      have hix : index (b :: l) [b] = 0 := by rw [index]; simp [List.isPrefixOf]
      rw [count_cons_eq, Nat.add_comm, splitK, hix, pieces, if_pos rfl]
      simp [ih]
    · have hp : ([c] : List UInt8).isPrefixOf (b :: l) = false := by simp [List.isPrefixOf, Ne.symm h]
      have hix : index (b :: l) [c] = if index l [c] == -1 then -1 else index l [c] + 1 := by rw [index, hp]; simp
      rw [count_cons_ne b c l h, pieces, if_neg h]
      by_cases hm : index l [c] = -1
      · rw [count_miss hm] at ih ⊢
        rw [← ih]
        rfl
      · have hge := index_ge l [c]
        obtain ⟨j, hj⟩ : ∃ j : Nat, index l [c] = j := ⟨(index l [c]).toNat, by omega⟩
        have hix' : index (b :: l) [c] = ((j + 1 : Nat) : Int) := by rw [hix, if_neg (fun e => hm (beq_iff_eq.1 e)), hj]; omega
        rw [count_hit (by simp) hj] at ih ⊢
        rw [Nat.add_comm, splitK] at ih ⊢
        rw [if_neg (by rw [hj]; simp), hj] at ih
        rw [if_neg (by rw [hix']; simp; omega), hix', ← ih]
        have e2 : ((j + 1 : Nat) : Int).toNat = j + 1 := by omega
        rw [e2]
        simp
theorem pieces_snoc_hit (c : UInt8) : ∀ l : List UInt8, pieces c (l ++ [c]) = pieces c l ++ [[]]
  | [] => by simp [pieces]
  | b :: l => by
    have ih := pieces_snoc_hit c l
    obtain ⟨p, ps, hp⟩ := pieces_ne c l
    by_cases h : b = c
    · subst h; simp [pieces, ih]
    · simp [pieces, h, ih, hp]
def addLast (x : UInt8) : List (List UInt8) → List (List UInt8)
  | [] => []
  | [p] => [p ++ [x]]
  | p :: q :: r => p :: addLast x (q :: r)
theorem pieces_snoc_miss (c x : UInt8) (hx : x ≠ c) : ∀ l : List UInt8, pieces c (l ++ [x]) = addLast x (pieces c l)
  | [] => by simp [pieces, hx, addLast]
  | b :: l => by
    have ih := pieces_snoc_miss c x hx l
    obtain ⟨p, ps, hp⟩ := pieces_ne c l
    by_cases h : b = c
    · subst h; simp [pieces, ih, hp, addLast]
    · simp only [List.cons_append, pieces, if_neg h, ih, hp]
      cases ps <;> simp [addLast]

theorem pieces_len (c : UInt8) : ∀ (l p : List UInt8), p ∈ pieces c l → p.length ≤ l.length
  | [], p, h => by simp [pieces] at h; simp [h]
  | b :: l, p, h => by
    have ih := pieces_len c l
    unfold pieces at h
    split at h
    · rcases List.mem_cons.1 h with h | h
      · simp [h]
      · have := ih p h; simp only [List.length_cons]; omega
    · split at h
      · rename_i q qs hq
        rcases List.mem_cons.1 h with h | h
        · have := ih q (by rw [hq]; simp); subst h; simp only [List.length_cons]; omega
        · have := ih p (by rw [hq]; exact List.mem_cons_of_mem _ h); simp only [List.length_cons]; omega
      · simp at h; subst h; simp
theorem pieces_len' (c : UInt8) (l : List UInt8) : 1 ≤ (pieces c l).length ∧ (pieces c l).length ≤ l.length + 1 := by
  induction l with
  | nil => simp [pieces]
  | cons b l ih =>
    unfold pieces
    split
    · simp; omega
    · split
      · rename_i q qs hq
        rw [hq] at ih
        simp at ih ⊢
        omega
      · simp
/-- a part, as strconv.Atoi and strconv.Itoa tell it -/
def partV (l : List UInt8) : Option Int := match atoiAll l with
  | .ok n => if itoa n = l then some n else none
  | _ => none
def parse3 (p q r : List UInt8) : Option (Int × Int × Int) := (partV p).bind fun a => (partV q).bind fun b => (partV r).bind fun c => if goodB a b c = true then some (a, b, c) else none
def parseP : List (List UInt8) → Option (Int × Int × Int)
  | [p, q, r] => parse3 p q r
  | _ => none
def parseL (s : List UInt8) : Option (Int × Int × Int) := parseP (pieces 46 s)
theorem partV_some {l : List UInt8} {n : Int} (h : partV l = some n) : atoiAll l = .ok n ∧ itoa n = l := by
  unfold partV at h
  split at h
  · rename_i m hm
    split at h
    · rename_i hi
      cases h
      exact ⟨hm, hi⟩
    · cases h
  · cases h
theorem partV_ok {l : List UInt8} {n : Int} (h : atoiAll l = .ok n) (hi : itoa n = l) : partV l = some n := by simp [partV, h, hi]
theorem partV_off {l : List UInt8} {n : Int} (h : atoiAll l = .ok n) (hi : itoa n ≠ l) : partV l = none := by simp [partV, h, hi]
theorem partV_bad {l : List UInt8} (h : ∀ n, atoiAll l ≠ .ok n) : partV l = none := by
  unfold partV
  split
  · rename_i n hn; exact absurd hn (h n)
  · rfl
theorem atoi_bd {l : List UInt8} {n : Int} (h : atoiAll l = .ok n) : -9223372036854775808 ≤ n ∧ n ≤ 9223372036854775807 := by
  unfold atoiAll at h
  split at h
  · cases h
  · simp only at h
    split at h
    · cases h
    · cases h
    · split at h
      · cases h
      · split at h
        · cases h
        · injection h with h
          split at h <;> omega

/-- what Parse answers -/
def PV : Option (Int × Int × Int) → Value
  | some (a, b, c) => .tuple #[V a b c, .int .i64 0]
  | none => .tuple #[V 0 0 0, .int .i64 20]
theorem PV_none : PV none = .tuple #[V 0 0 0, .int .i64 20] := rfl
theorem PV_some (a b c : Int) : PV (some (a, b, c)) = .tuple #[V a b c, .int .i64 0] := rfl

end Vs
end Go.Proofs.YtbhngjhfeejeiaaGreatDoor
namespace Go.Proofs.YtbhngjhfeejeiaaGreatDoor
open Go.RowKit
namespace Vs

/-- the library's variables, as start-up code lays them -/
structure Env (W : World) : Prop where
  max : ∃ m : Int, W.cell? ⟨2, 0, none⟩ = some (.int .i64 m)
  pow : Lib.TabIs Tryz.prog W "internal/strconv.uint64pow10" .u64 Lib.pow10Tab
  syn : ∃ tp p, W.var? Tryz.prog "strconv.ErrSyntax" = some #[.iface tp p]
  rng : ∃ tp p, W.var? Tryz.prog "strconv.ErrRange" = some #[.iface tp p]
  big : 8 ≤ W.heap.size
theorem gPow : Tryz.prog.globalNamed "internal/strconv.uint64pow10" = some 3 := by kernel_rfl
theorem gSyn : Tryz.prog.globalNamed "strconv.ErrSyntax" = some 0 := by kernel_rfl
theorem gRng : Tryz.prog.globalNamed "strconv.ErrRange" = some 1 := by kernel_rfl
theorem Env.below {B : Nat} {W W' : World} (h : Env W) (hB : W.heap.size ≤ B) (hb : Below B W W') : Env W' := by
  have hs := h.big
  obtain ⟨m, hm⟩ := h.max
  obtain ⟨t1, p1, h1⟩ := h.syn
  obtain ⟨t2, p2, h2⟩ := h.rng
  exact ⟨⟨m, by rw [hb.cell (p := ⟨2, 0, none⟩) (by show 2 < B; omega)]; exact hm⟩, var?_below hb gPow (by omega) h.pow, ⟨t1, p1, var?_below hb gSyn (by omega) h1⟩, ⟨t2, p2, var?_below hb gRng (by omega) h2⟩, Nat.le_trans hs hb.size⟩
theorem Env.alloc {W : World} (h : Env W) (o : Obj) : Env (W.alloc o) := h.below (Nat.le_refl _) ((Below.refl _ _).alloc (Nat.le_refl _) o)

theorem below_drewN {B : Nat} {a w : World} (h : Below B a w) (n : Nat) : Below B a (w.drewN n) := ⟨h.os, h.tape, h.output, h.size, h.block⟩

theorem below_grow (w : World) (k : Nat) (os : Array Obj) : Below w.heap.size w (Sort.grow (w.drewN k) os) :=
  ⟨rfl, rfl, rfl, by show w.heap.size ≤ (w.heap ++ os).size; simp, fun i hi => by show (w.heap ++ os)[i]? = w.heap[i]?; rw [Array.getElem?_append_left hi]⟩

theorem atoi_ok (s : ByteArray) (hs : s.size ≤ 1048576) (v : Int) (h : Lib.atoiAll s.data.toList = .ok v) (w : World) :
    Calls Tryz.prog 26 #[.string s] w fun e w' => e = .returned (.tuple #[.int .i64 v, .nilIface]) ∧ Below w.heap.size w w' := by
  refine (Tryz.strconv_Atoi_ok s (by omega) v h w).mono fun e w' ⟨he, hw⟩ => ⟨he, ?_⟩
  rcases hw with rfl | ⟨t, rfl⟩
  · exact Below.refl _ _
  · exact Lib.bytesWorld_below _ _ _

theorem atoi_bad (s : ByteArray) (hs : s.size ≤ 1048576) (h : ∀ v, Lib.atoiAll s.data.toList ≠ .ok v) (w : World) (hE : Env w) :
    Calls Tryz.prog 26 #[.string s] w fun e w' => ∃ (x : Int) (N : Nat), e = .returned (.tuple #[.int .i64 x, .iface 104 (.pointer (some ⟨N, 0, none⟩))]) ∧ Below w.heap.size w w' := by
  cases hx : Lib.atoiAll s.data.toList
  · exact absurd hx (h _)
  · obtain ⟨t1, p1, h1⟩ := hE.syn
    exact (Any.strconv_Atoi_syntax_var Tryz.laysC172 s (by omega) hx t1 p1 w h1).mono fun e w' ⟨N, he, _, _, hb⟩ => ⟨_, N, he, hb⟩
  · obtain ⟨t1, p1, h1⟩ := hE.rng
    exact (Any.strconv_Atoi_range_var Tryz.laysC172 s (by omega) hx t1 p1 w h1).mono fun e w' ⟨N, he, _, _, hb⟩ => ⟨_, N, he, hb⟩

theorem itoa_any (n : Int) (h0 : -9223372036854775808 ≤ n) (h1 : n ≤ 9223372036854775807) (w : World) (hE : Env w) :
    Calls Tryz.prog 27 #[.int .i64 n] w fun e w' => e = .returned (.string ⟨(Lib.itoa n).toArray⟩) ∧ Below w.heap.size w w' :=
  (Tryz.strconv_Itoa n h0 h1 w hE.pow).mono fun e w' ⟨he, k, os, hw⟩ => ⟨he, by subst hw; exact below_grow w k os⟩

theorem split_pts (s : ByteArray) : (Lib.splitB ⟨#[46]⟩ 0 (Lib.countB s ⟨#[46]⟩) s).map (·.data.toList) = pieces 46 s.data.toList ∧ (Lib.splitB ⟨#[46]⟩ 0 (Lib.countB s ⟨#[46]⟩) s).length = Lib.countB s ⟨#[46]⟩ + 1 :=
  ⟨by rw [Lib.splitB_data]; exact split_pieces 46 _, Lib.splitB_all _ (by decide) 0 _ _ rfl⟩

/-- the world of Parse's loop: the result's cells (block B), the words (B + 1), the version under way (B + 2) -/
structure PRel (B : Nat) (p q r : ByteArray) (w wr : World) (x0 x1 x2 : Int) : Prop where
  old : Below B w wr
  size : B + 3 ≤ wr.heap.size
  a0 : wr.cell? ⟨B, 0, none⟩ = some (.int .i64 0)
  a1 : wr.cell? ⟨B, 1, none⟩ = some (.int .i64 0)
  a2 : wr.cell? ⟨B, 2, none⟩ = some (.int .i64 0)
  fa : ∀ j, wr.frozen? ⟨B, j, none⟩ = false
  p0 : wr.cell? ⟨B + 1, 0, none⟩ = some (.string p)
  p1 : wr.cell? ⟨B + 1, 1, none⟩ = some (.string q)
  p2 : wr.cell? ⟨B + 1, 2, none⟩ = some (.string r)
  c0 : wr.cell? ⟨B + 1 + 1, 0, none⟩ = some (.int .i64 x0)
  c1 : wr.cell? ⟨B + 1 + 1, 1, none⟩ = some (.int .i64 x1)
  c2 : wr.cell? ⟨B + 1 + 1, 2, none⟩ = some (.int .i64 x2)
  fc : ∀ j, wr.frozen? ⟨B + 1 + 1, j, none⟩ = false
theorem PRel.next {B : Nat} {p q r : ByteArray} {w wr w1 : World} {x0 x1 x2 : Int} (h : PRel B p q r w wr x0 x1 x2) (hb : Below wr.heap.size wr w1) : PRel B p q r w w1 x0 x1 x2 := by
  obtain ⟨hc, hf⟩ := bcell hb
  have hs := h.size
  exact ⟨h.old.trans (hb.mono (by omega)), Nat.le_trans hs hb.size, (hc _ _ (by omega)).trans h.a0, (hc _ _ (by omega)).trans h.a1, (hc _ _ (by omega)).trans h.a2, fun j => (hf _ _ (by omega)).trans (h.fa j),
    (hc _ _ (by omega)).trans h.p0, (hc _ _ (by omega)).trans h.p1, (hc _ _ (by omega)).trans h.p2, (hc _ _ (by omega)).trans h.c0, (hc _ _ (by omega)).trans h.c1, (hc _ _ (by omega)).trans h.c2, fun j => (hf _ _ (by omega)).trans (h.fc j)⟩
theorem PRel.start (p q r : ByteArray) (w : World) : PRel w.heap.size p q r w (((w.alloc (.cells #[.int .i64 0, .int .i64 0, .int .i64 0] 24)).alloc (.cells (List.map Value.string [p, q, r]).toArray 9)).alloc (.cells #[.int .i64 0, .int .i64 0, .int .i64 0] 24)) 0 0 0 := by
  refine ⟨(((Below.refl _ _).alloc (Nat.le_refl _) _).alloc (by simp) _).alloc (by simp; omega) _, by simp, ?_, ?_, ?_, ?_, ?_, ?_, ?_, ?_, ?_, ?_, ?_⟩
  all_goals first | go_simp | (intro j; go_simp)
theorem btl (s : ByteArray) : s.toList = s.data.toList := ByteArray.toList_eq s
theorem PRel.end0 {p q r : ByteArray} {w wr : World} {x0 x1 x2 : Int} (h : PRel w.heap.size p q r w wr x0 x1 x2) : Below w.heap.size w (((wr.setCell ⟨w.heap.size, 0, none⟩ (.int .i64 0)).setCell ⟨w.heap.size, 1, none⟩ (.int .i64 0)).setCell ⟨w.heap.size, 2, none⟩ (.int .i64 0)) :=
  ((h.old.setCell (Nat.le_refl _) _).setCell (Nat.le_refl _) _).setCell (Nat.le_refl _) _
theorem PRel.end1 {p q r : ByteArray} {w wr : World} {x0 x1 x2 y0 y1 y2 : Int} (h : PRel w.heap.size p q r w wr x0 x1 x2) : Below w.heap.size w (((wr.setCell ⟨w.heap.size, 0, none⟩ (.int .i64 y0)).setCell ⟨w.heap.size, 1, none⟩ (.int .i64 y1)).setCell ⟨w.heap.size, 2, none⟩ (.int .i64 y2)) :=
  ((h.old.setCell (Nat.le_refl _) _).setCell (Nat.le_refl _) _).setCell (Nat.le_refl _) _
theorem PRel.set0 {B : Nat} {p q r : ByteArray} {w wr : World} {x0 x1 x2 : Int} (h : PRel B p q r w wr x0 x1 x2) (x : Int) : PRel B p q r w (wr.setCell ⟨B + 1 + 1, 0, none⟩ (.int .i64 x)) x x1 x2 := by
  obtain ⟨h1, h2, h3, h4, h5, h6, h7, h8, h9, h10, h11, h12, h13⟩ := h
  refine ⟨h1.setCell (by show B ≤ B + 1 + 1; omega) _, by simpa [World.setCell] using h2, ?_, ?_, ?_, ?_, ?_, ?_, ?_, ?_, ?_, ?_, ?_⟩
  all_goals first | (intro j; rw [World.frozen?_setCell]; first | exact h6 j | exact h13 j) | (rw [World.cell?_setCell_other _ _ _ _ (by simp)]; assumption) | (exact World.cell?_setCell_same _ _ _ h10)
theorem PRel.set1 {B : Nat} {p q r : ByteArray} {w wr : World} {x0 x1 x2 : Int} (h : PRel B p q r w wr x0 x1 x2) (x : Int) : PRel B p q r w (wr.setCell ⟨B + 1 + 1, 1, none⟩ (.int .i64 x)) x0 x x2 := by
  obtain ⟨h1, h2, h3, h4, h5, h6, h7, h8, h9, h10, h11, h12, h13⟩ := h
  refine ⟨h1.setCell (by show B ≤ B + 1 + 1; omega) _, by simpa [World.setCell] using h2, ?_, ?_, ?_, ?_, ?_, ?_, ?_, ?_, ?_, ?_, ?_⟩
  all_goals first | (intro j; rw [World.frozen?_setCell]; first | exact h6 j | exact h13 j) | (rw [World.cell?_setCell_other _ _ _ _ (by simp)]; assumption) | (exact World.cell?_setCell_same _ _ _ h11)
theorem PRel.set2 {B : Nat} {p q r : ByteArray} {w wr : World} {x0 x1 x2 : Int} (h : PRel B p q r w wr x0 x1 x2) (x : Int) : PRel B p q r w (wr.setCell ⟨B + 1 + 1, 2, none⟩ (.int .i64 x)) x0 x1 x := by
  obtain ⟨h1, h2, h3, h4, h5, h6, h7, h8, h9, h10, h11, h12, h13⟩ := h
  refine ⟨h1.setCell (by show B ≤ B + 1 + 1; omega) _, by simpa [World.setCell] using h2, ?_, ?_, ?_, ?_, ?_, ?_, ?_, ?_, ?_, ?_, ?_⟩
  all_goals first | (intro j; rw [World.frozen?_setCell]; first | exact h6 j | exact h13 j) | (rw [World.cell?_setCell_other _ _ _ _ (by simp)]; assumption) | (exact World.cell?_setCell_same _ _ _ h12)

set_option maxHeartbeats 1000000 in
theorem parse_any (s : ByteArray) (hs : s.size ≤ 1048576) (w : World) (hE : Env w) :
    Calls Tryz.prog 11 #[.string s] w fun e w' => e = .returned (PV (parseL s.data.toList)) ∧ Below w.heap.size w w' := by
  obtain ⟨hp, hl⟩ := split_pts s
  obtain ⟨m, hm⟩ := (hE.alloc (.cells #[.int .i64 0, .int .i64 0, .int .i64 0] 24)).max
  have hc := Lib.countB_le ⟨#[46]⟩ (by decide) _ s (Nat.le_refl _)
  have hc1 : Lib.countB s ⟨#[46]⟩ ≤ 1048576 := by omega
  clear hc
  have HP := Lib.hid (show pieces 46 s.data.toList = _ from hp.symm)
  clear hp
  generalize hxs : Lib.splitB ⟨#[46]⟩ 0 (Lib.countB s ⟨#[46]⟩) s = xs at *
  generalize hn : Lib.countB s ⟨#[46]⟩ = n at *
  have HX := Lib.hid hxs
  have HN := Lib.hid hn
  have HL := Lib.hid hl
  clear hxs hn hl
  go_enter Tryz.func11, Tryz.ntmps11
  go_wp2_with fail
  refine (Tryz.strings_Split s ⟨#[46]⟩ m _ (by omega) hm (by decide)).mono ?_
  rintro e w1 ⟨rfl, rfl⟩
  rw [HN.out, HX.out]
  by_cases h3 : n = 2
  · subst h3
    obtain ⟨p, q, r, rfl⟩ : ∃ p q r, xs = [p, q, r] := by
      have hl := HL.out
      match xs, hl with
      | [p, q, r], _ => exact ⟨p, q, r, rfl⟩
    have HS := PRel.start p q r w
    have hsz0 : Hid (p.size ≤ 1048576) := by
      have h := pieces_len 46 s.data.toList p.data.toList (by rw [HP.out]; simp)
      rw [← Lib.size_eq, ← Lib.size_eq] at h
      exact (show p.size ≤ 1048576 by omega)
    have hsz1 : Hid (q.size ≤ 1048576) := by
      have h := pieces_len 46 s.data.toList q.data.toList (by rw [HP.out]; simp)
      rw [← Lib.size_eq, ← Lib.size_eq] at h
      exact (show q.size ≤ 1048576 by omega)
    have hsz2 : Hid (r.size ≤ 1048576) := by
      have h := pieces_len 46 s.data.toList r.data.toList (by rw [HP.out]; simp)
      rw [← Lib.size_eq, ← Lib.size_eq] at h
      exact (show r.size ≤ 1048576 by omega)
    clear hm
    go_wp2_with fail
    go_loopw [18] (fun i wr => ∃ (k : Nat) (x0 x1 x2 : Int), k ≤ 3 ∧ i = .int .i64 k ∧ PRel w.heap.size p q r w wr x0 x1 x2 ∧ (1 ≤ k → partV p.data.toList = some x0) ∧ (2 ≤ k → partV q.data.toList = some x1) ∧ (3 ≤ k → partV r.data.toList = some x2)) (fun i _ => 3 - (intOf i).toNat)
    case atStart => exact ⟨0, 0, 0, 0, by omega, rfl, HS, by omega, by omega, by omega⟩
    case round =>
      obtain ⟨k, x0, x1, x2, hk, rfl, hR, h0, h1, h2⟩ := hrel
      clear HS
      have hk5 : k = 0 ∨ k = 1 ∨ k = 2 ∨ k = 3 := by omega
      rcases hk5 with rfl | rfl | rfl | rfl
      ·
        clear h0 h1 h2
        have hE1 := hE.below (Nat.le_refl _) hR.old
        have hp0 := hR.p0
        have hsz := hsz0.out
        by_cases hat : ∃ v, Lib.atoiAll p.data.toList = .ok v
        · obtain ⟨v, hv⟩ := hat
          obtain ⟨v0, v1⟩ := atoi_bd hv
          have HV := Lib.hid hv
          clear hv
          by_cases hi : Lib.itoa v = p.data.toList
          · have hpv := Lib.hid (partV_ok HV.out hi)
            have HI := Lib.hid hi
            have ht : (!Lib.itoa v == p.toList) = false := by rw [btl, hi]; simp
            clear hi
            go_wp2_with fail
            refine (atoi_ok p hsz v HV.out _).mono ?_
            rintro e w1 ⟨rfl, hb1⟩
            have hE2 := hE1.below (Nat.le_refl _) hb1
            have hR1 := hR.next hb1
            clear hp0
            go_wp2_with fail
            refine (itoa_any v v0 v1 _ hE2).mono ?_
            rintro e w2 ⟨rfl, hb2⟩
            have hR2 := hR1.next hb2
            have c0 := hR2.c0
            have fc := hR2.fc
            go_wp2
            go_roundw
            case rel => exact ⟨1, v, x1, x2, by omega, rfl, hR2.set0 v, by intro _; exact hpv.out, by omega, by omega⟩
            case measure => simp [intOf]
          · have hpv := Lib.hid (partV_off HV.out hi)
            have HI := Lib.hid hi
            have ht : (!Lib.itoa v == p.toList) = true := by rw [btl]; simpa using hi
            clear hi
            go_wp2_with fail
            refine (atoi_ok p hsz v HV.out _).mono ?_
            rintro e w1 ⟨rfl, hb1⟩
            have hE2 := hE1.below (Nat.le_refl _) hb1
            have hR1 := hR.next hb1
            clear hp0
            go_wp2_with fail
            refine (itoa_any v v0 v1 _ hE2).mono ?_
            rintro e w2 ⟨rfl, hb2⟩
            have hR2 := hR1.next hb2
            have a0 := hR2.a0
            have a1 := hR2.a1
            have a2 := hR2.a2
            have fa := hR2.fa
            go_wp2
            refine bodyPost_ret (v := .tuple #[V 0 0 0, .int .i64 20]) (by simp [results, Tryz.results11, go_sem, a0, a1, a2]) rfl ⟨?_, ?_⟩
            · rw [parseL, HP.out]; simp [parseP, parse3, hpv.out, PV_none]
            · exact hR2.end0
        · have hat' : ∀ v, Lib.atoiAll p.data.toList ≠ .ok v := fun v hv => hat ⟨v, hv⟩
          have hpv := Lib.hid (partV_bad hat')
          have HA := Lib.hid hat'
          clear hat hat'
          go_wp2_with fail
          refine (atoi_bad p hsz HA.out _ hE1).mono ?_
          rintro e w1 ⟨x, N, rfl, hb1⟩
          have hR1 := hR.next hb1
          have a0 := hR1.a0
          have a1 := hR1.a1
          have a2 := hR1.a2
          have fa := hR1.fa
          clear hp0
          go_wp2
          refine bodyPost_ret (v := .tuple #[V 0 0 0, .int .i64 20]) (by simp [results, Tryz.results11, go_sem, a0, a1, a2]) rfl ⟨?_, ?_⟩
          · rw [parseL, HP.out]; simp [parseP, parse3, hpv.out, PV_none]
          · exact hR1.end0
      ·
        have g0 := h0 (by omega)
        clear h0 h1 h2
        have G0 := Lib.hid g0; clear g0
        have hE1 := hE.below (Nat.le_refl _) hR.old
        have hp1 := hR.p1
        have hsz := hsz1.out
        by_cases hat : ∃ v, Lib.atoiAll q.data.toList = .ok v
        · obtain ⟨v, hv⟩ := hat
          obtain ⟨v0, v1⟩ := atoi_bd hv
          have HV := Lib.hid hv
          clear hv
          by_cases hi : Lib.itoa v = q.data.toList
          · have hpv := Lib.hid (partV_ok HV.out hi)
            have HI := Lib.hid hi
            have ht : (!Lib.itoa v == q.toList) = false := by rw [btl, hi]; simp
            clear hi
            go_wp2_with fail
            refine (atoi_ok q hsz v HV.out _).mono ?_
            rintro e w1 ⟨rfl, hb1⟩
            have hE2 := hE1.below (Nat.le_refl _) hb1
            have hR1 := hR.next hb1
            clear hp1
            go_wp2_with fail
            refine (itoa_any v v0 v1 _ hE2).mono ?_
            rintro e w2 ⟨rfl, hb2⟩
            have hR2 := hR1.next hb2
            have c1 := hR2.c1
            have fc := hR2.fc
            go_wp2
            go_roundw
            case rel => exact ⟨2, x0, v, x2, by omega, rfl, hR2.set1 v, by intro _; exact G0.out, by intro _; exact hpv.out, by omega⟩
            case measure => simp [intOf]
          · have hpv := Lib.hid (partV_off HV.out hi)
            have HI := Lib.hid hi
            have ht : (!Lib.itoa v == q.toList) = true := by rw [btl]; simpa using hi
            clear hi
            go_wp2_with fail
            refine (atoi_ok q hsz v HV.out _).mono ?_
            rintro e w1 ⟨rfl, hb1⟩
            have hE2 := hE1.below (Nat.le_refl _) hb1
            have hR1 := hR.next hb1
            clear hp1
            go_wp2_with fail
            refine (itoa_any v v0 v1 _ hE2).mono ?_
            rintro e w2 ⟨rfl, hb2⟩
            have hR2 := hR1.next hb2
            have a0 := hR2.a0
            have a1 := hR2.a1
            have a2 := hR2.a2
            have fa := hR2.fa
            go_wp2
            refine bodyPost_ret (v := .tuple #[V 0 0 0, .int .i64 20]) (by simp [results, Tryz.results11, go_sem, a0, a1, a2]) rfl ⟨?_, ?_⟩
            · rw [parseL, HP.out]; simp [parseP, parse3, hpv.out, PV_none, G0.out]
            · exact hR2.end0
        · have hat' : ∀ v, Lib.atoiAll q.data.toList ≠ .ok v := fun v hv => hat ⟨v, hv⟩
          have hpv := Lib.hid (partV_bad hat')
          have HA := Lib.hid hat'
          clear hat hat'
          go_wp2_with fail
          refine (atoi_bad q hsz HA.out _ hE1).mono ?_
          rintro e w1 ⟨x, N, rfl, hb1⟩
          have hR1 := hR.next hb1
          have a0 := hR1.a0
          have a1 := hR1.a1
          have a2 := hR1.a2
          have fa := hR1.fa
          clear hp1
          go_wp2
          refine bodyPost_ret (v := .tuple #[V 0 0 0, .int .i64 20]) (by simp [results, Tryz.results11, go_sem, a0, a1, a2]) rfl ⟨?_, ?_⟩
          · rw [parseL, HP.out]; simp [parseP, parse3, hpv.out, PV_none, G0.out]
          · exact hR1.end0
      ·
        have g0 := h0 (by omega)
        have g1 := h1 (by omega)
        clear h0 h1 h2
        have G0 := Lib.hid g0; clear g0
        have G1 := Lib.hid g1; clear g1
        have hE1 := hE.below (Nat.le_refl _) hR.old
        have hp2 := hR.p2
        have hsz := hsz2.out
        by_cases hat : ∃ v, Lib.atoiAll r.data.toList = .ok v
        · obtain ⟨v, hv⟩ := hat
          obtain ⟨v0, v1⟩ := atoi_bd hv
          have HV := Lib.hid hv
          clear hv
          by_cases hi : Lib.itoa v = r.data.toList
          · have hpv := Lib.hid (partV_ok HV.out hi)
            have HI := Lib.hid hi
            have ht : (!Lib.itoa v == r.toList) = false := by rw [btl, hi]; simp
            clear hi
            go_wp2_with fail
            refine (atoi_ok r hsz v HV.out _).mono ?_
            rintro e w1 ⟨rfl, hb1⟩
            have hE2 := hE1.below (Nat.le_refl _) hb1
            have hR1 := hR.next hb1
            clear hp2
            go_wp2_with fail
            refine (itoa_any v v0 v1 _ hE2).mono ?_
            rintro e w2 ⟨rfl, hb2⟩
            have hR2 := hR1.next hb2
            have c2 := hR2.c2
            have fc := hR2.fc
            go_wp2
            go_roundw
            case rel => exact ⟨3, x0, x1, v, by omega, rfl, hR2.set2 v, by intro _; exact G0.out, by intro _; exact G1.out, by intro _; exact hpv.out⟩
            case measure => simp [intOf]
          · have hpv := Lib.hid (partV_off HV.out hi)
            have HI := Lib.hid hi
            have ht : (!Lib.itoa v == r.toList) = true := by rw [btl]; simpa using hi
            clear hi
            go_wp2_with fail
            refine (atoi_ok r hsz v HV.out _).mono ?_
            rintro e w1 ⟨rfl, hb1⟩
            have hE2 := hE1.below (Nat.le_refl _) hb1
            have hR1 := hR.next hb1
            clear hp2
            go_wp2_with fail
            refine (itoa_any v v0 v1 _ hE2).mono ?_
            rintro e w2 ⟨rfl, hb2⟩
            have hR2 := hR1.next hb2
            have a0 := hR2.a0
            have a1 := hR2.a1
            have a2 := hR2.a2
            have fa := hR2.fa
            go_wp2
            refine bodyPost_ret (v := .tuple #[V 0 0 0, .int .i64 20]) (by simp [results, Tryz.results11, go_sem, a0, a1, a2]) rfl ⟨?_, ?_⟩
            · rw [parseL, HP.out]; simp [parseP, parse3, hpv.out, PV_none, G0.out, G1.out]
            · exact hR2.end0
        · have hat' : ∀ v, Lib.atoiAll r.data.toList ≠ .ok v := fun v hv => hat ⟨v, hv⟩
          have hpv := Lib.hid (partV_bad hat')
          have HA := Lib.hid hat'
          clear hat hat'
          go_wp2_with fail
          refine (atoi_bad r hsz HA.out _ hE1).mono ?_
          rintro e w1 ⟨x, N, rfl, hb1⟩
          have hR1 := hR.next hb1
          have a0 := hR1.a0
          have a1 := hR1.a1
          have a2 := hR1.a2
          have fa := hR1.fa
          clear hp2
          go_wp2
          refine bodyPost_ret (v := .tuple #[V 0 0 0, .int .i64 20]) (by simp [results, Tryz.results11, go_sem, a0, a1, a2]) rfl ⟨?_, ?_⟩
          · rw [parseL, HP.out]; simp [parseP, parse3, hpv.out, PV_none, G0.out, G1.out]
          · exact hR1.end0
      ·
        have g0 := h0 (by omega)
        have g1 := h1 (by omega)
        have g2 := h2 (by omega)
        clear h0 h1 h2
        have G0 := Lib.hid g0; clear g0
        have G1 := Lib.hid g1; clear g1
        have G2 := Lib.hid g2; clear g2
        have c0 := hR.c0
        have c1 := hR.c1
        have c2 := hR.c2
        cases hg : goodB x0 x1 x2
        · have HG := Lib.hid hg
          go_wp2_with fail
          refine (good_any x0 x1 x2 _).mono ?_
          rintro e w1 ⟨rfl, hb1⟩
          have hR1 := hR.next hb1
          have a0 := hR1.a0
          have a1 := hR1.a1
          have a2 := hR1.a2
          have fa := hR1.fa
          go_wp2
          refine bodyPost_ret (v := .tuple #[V 0 0 0, .int .i64 20]) (by simp [results, Tryz.results11, go_sem, a0, a1, a2]) rfl ⟨?_, ?_⟩
          · rw [parseL, HP.out]; simp [parseP, parse3, G0.out, G1.out, G2.out, HG.out, PV_none]
          · exact hR1.end0
        · have HG := Lib.hid hg
          go_wp2_with fail
          refine (good_any x0 x1 x2 _).mono ?_
          rintro e w1 ⟨rfl, hb1⟩
          have hR1 := hR.next hb1
          have a0 := hR1.a0
          have a1 := hR1.a1
          have a2 := hR1.a2
          have fa := hR1.fa
          have d0 := hR1.c0
          have d1 := hR1.c1
          have d2 := hR1.c2
          clear c0 c1 c2
          go_wp2
          refine bodyPost_ret (v := .tuple #[V x0 x1 x2, .int .i64 0]) (by simp [results, Tryz.results11, go_sem, a0, a1, a2]) rfl ⟨?_, ?_⟩
          · rw [parseL, HP.out]; simp [parseP, parse3, G0.out, G1.out, G2.out, HG.out, PV_some]
          · exact hR1.end1
  · have hx : decide (((n : Int) + 1) = 3) = false := by simp; omega
    have hb : (((n : Int) + 1) != 3) = true := by rw [bne_iff_ne]; omega
    have h3' : ¬ ((n : Int) + 1 = 3) := by omega
    go_wp2_with fail
    refine bodyPost_ret (v := .tuple #[V 0 0 0, .int .i64 20]) (by simp [results, Tryz.results11, go_sem]) rfl ⟨?_, ?_⟩
    · rw [parseL, HP.out]
      have hl := HL.out
      rcases xs with _ | ⟨p, _ | ⟨q, _ | ⟨r, _ | ⟨u, xs⟩⟩⟩⟩ <;> simp_all [parseP, PV_none]
    · exact ((Below.refl _ _).alloc (Nat.le_refl _) _).alloc (by simp) _

end Vs
end Go.Proofs.YtbhngjhfeejeiaaGreatDoor
namespace Go.Proofs.YtbhngjhfeejeiaaGreatDoor
open Go.RowKit
namespace Vs

theorem info_int : (Tryz.prog.info? 3).map (fun i => (i.zero, i.size, i.bytes)) = some (some (.int .i64 0), 1, 8) := by kernel_rfl
theorem size_int : Tryz.prog.cellsOf 3 = 1 := by kernel_rfl
theorem eqV (a b c x y z : Int) (w : World) : (Op.equalIn 10000 24 (V a b c) (V x y z)).run Tryz.prog w = .ok (a == x && (b == y && c == z)) w := by
  obtain ⟨i, hi, -⟩ := info_parts info_int
  rw [show (10000 : Nat) = 9999 + 1 from rfl, run_equalIn_array w 9999 _ _ Tryz.underlying24 hi, size_int]
  simp only [List.range, List.range.loop, Op.eqItems]
  by_cases h1 : a = x <;> by_cases h2 : b = y <;> by_cases h3 : c = z <;> simp [go_sem, part, Tryz.isAgg3, h1, h2, h3]

attribute [local go_sem] eqV

end Vs
end Go.Proofs.YtbhngjhfeejeiaaGreatDoor
namespace Go.Proofs.YtbhngjhfeejeiaaGreatDoor
open Go.RowKit
namespace Vs

theorem keep_cell {W W' : World} {p : Addr} {v : Value} (hb : Below W.heap.size W W') (h : W.cell? p = some v) : W'.cell? p = some v :=
  (hb.cell (World.block_lt_of_cell? W p h)).trans h
theorem keep_below {W0 W W' : World} (h : Below W0.heap.size W0 W) (hb : Below W.heap.size W W') : Below W0.heap.size W0 W' := h.trans (hb.mono h.size)

theorem below_grow0 (w : World) (k : Nat) (os : Array Obj) : Below w.heap.size w (Sort.grow (w.drewN k) os) :=
  ⟨rfl, rfl, rfl, by show w.heap.size ≤ (w.heap ++ os).size; simp, fun i hi => by show (w.heap ++ os)[i]? = w.heap[i]?; rw [Array.getElem?_append_left hi]⟩
/-- the powers of ten lie -/
structure Env0 (W : World) : Prop where
  pow : Lib.TabIs Tryz.prog W "internal/strconv.uint64pow10" .u64 Lib.pow10Tab
  big : 3 < W.heap.size
theorem gPow0 : Tryz.prog.globalNamed "internal/strconv.uint64pow10" = some 3 := by kernel_rfl
theorem Env0.below {B : Nat} {W W' : World} (h : Env0 W) (hB : W.heap.size ≤ B) (hb : Below B W W') : Env0 W' :=
  ⟨var?_below hb gPow0 (by have := h.big; omega) h.pow, Nat.lt_of_lt_of_le h.big hb.size⟩
theorem Env0.alloc {W : World} (h : Env0 W) (o : Obj) : Env0 (W.alloc o) := h.below (Nat.le_refl _) ((Below.refl _ _).alloc (Nat.le_refl _) o)
theorem itoa_any0 (n : Int) (h0 : -9223372036854775808 ≤ n) (h1 : n ≤ 9223372036854775807) (w : World) (hE : Env0 w) :
    Calls Tryz.prog 27 #[.int .i64 n] w fun e w' => e = .returned (.string ⟨(Lib.itoa n).toArray⟩) ∧ Below w.heap.size w w' :=
  (Tryz.strconv_Itoa n h0 h1 w hE.pow).mono fun e w' ⟨he, k, os, hw⟩ => ⟨he, by subst hw; exact below_grow0 w k os⟩
theorem size_alloc (w : World) (o : Obj) : (w.alloc o).heap.size = w.heap.size + 1 := by simp

end Vs
end Go.Proofs.YtbhngjhfeejeiaaGreatDoor
namespace Go.Proofs.YtbhngjhfeejeiaaGreatDoor
open Go.RowKit
namespace Vs

def textL (a b c : Int) : List UInt8 := if goodB a b c = true then Lib.itoa a ++ ([46] ++ (Lib.itoa b ++ ([46] ++ Lib.itoa c))) else []
abbrev T (a b c : Int) : Value := .string ⟨(textL a b c).toArray⟩

/-- block b holds three texts -/
structure S3 (W : World) (b : Nat) (x y z : ByteArray) : Prop where
  lt : b < W.heap.size
  c0 : W.cell? ⟨b, 0, none⟩ = some (.string x)
  c1 : W.cell? ⟨b, 1, none⟩ = some (.string y)
  c2 : W.cell? ⟨b, 2, none⟩ = some (.string z)
  fz : ∀ j, W.frozen? ⟨b, j, none⟩ = false
theorem S3.below {W W' : World} {b : Nat} {x y z : ByteArray} (h : S3 W b x y z) (hb : Below W.heap.size W W') : S3 W' b x y z := by
  obtain ⟨hc, hf⟩ := bcell hb
  exact ⟨Nat.lt_of_lt_of_le h.lt hb.size, (hc _ _ h.lt).trans h.c0, (hc _ _ h.lt).trans h.c1, (hc _ _ h.lt).trans h.c2, fun j => (hf _ _ h.lt).trans (h.fz j)⟩
theorem S3.new (W : World) (x y z : ByteArray) : S3 (W.alloc (.cells #[.string x, .string y, .string z] 82)) W.heap.size x y z := by
  refine ⟨by simp, ?_, ?_, ?_, ?_⟩
  all_goals first | go_simp | (intro j; go_simp)
theorem S3.set0 {W : World} {b : Nat} {x y z : ByteArray} (h : S3 W b x y z) (s : ByteArray) : S3 (W.setCell ⟨b, 0, none⟩ (.string s)) b s y z := by
  obtain ⟨h1, h2, h3, h4, h5⟩ := h
  refine ⟨by simpa [World.setCell] using h1, ?_, ?_, ?_, fun j => by simp only [World.frozen?_setCell]; exact h5 j⟩
  all_goals first | (rw [World.cell?_setCell_other _ _ _ _ (by simp)]; assumption) | (exact World.cell?_setCell_same _ _ _ h2)
theorem S3.set1 {W : World} {b : Nat} {x y z : ByteArray} (h : S3 W b x y z) (s : ByteArray) : S3 (W.setCell ⟨b, 1, none⟩ (.string s)) b x s z := by
  obtain ⟨h1, h2, h3, h4, h5⟩ := h
  refine ⟨by simpa [World.setCell] using h1, ?_, ?_, ?_, fun j => by simp only [World.frozen?_setCell]; exact h5 j⟩
  all_goals first | (rw [World.cell?_setCell_other _ _ _ _ (by simp)]; assumption) | (exact World.cell?_setCell_same _ _ _ h3)
theorem S3.set2 {W : World} {b : Nat} {x y z : ByteArray} (h : S3 W b x y z) (s : ByteArray) : S3 (W.setCell ⟨b, 2, none⟩ (.string s)) b x y s := by
  obtain ⟨h1, h2, h3, h4, h5⟩ := h
  refine ⟨by simpa [World.setCell] using h1, ?_, ?_, ?_, fun j => by simp only [World.frozen?_setCell]; exact h5 j⟩
  all_goals first | (rw [World.cell?_setCell_other _ _ _ _ (by simp)]; assumption) | (exact World.cell?_setCell_same _ _ _ h4)

set_option maxHeartbeats 1000000 in
set_option maxRecDepth 100000 in
theorem text_any (a b c : Int) (w : World) (hE : Env0 w) : Calls Tryz.prog 21 #[V a b c] w fun e w' => e = .returned (T a b c) ∧ Below w.heap.size w w' := by
  have i0 : ∀ w : World, (Instr.index 24 (V a b c) (.int .i64 0)).run Tryz.prog w = .ok (.int .i64 a) w := fun _ => by kernel_rfl
  have i1 : ∀ w : World, (Instr.index 24 (V a b c) (.int .i64 1)).run Tryz.prog w = .ok (.int .i64 b) w := fun _ => by kernel_rfl
  have i2 : ∀ w : World, (Instr.index 24 (V a b c) (.int .i64 2)).run Tryz.prog w = .ok (.int .i64 c) w := fun _ => by kernel_rfl
  have A0 := C3.new w a b c
  have B0 := (Below.refl w.heap.size w).alloc (Nat.le_refl _) (.cells #[.int .i64 a, .int .i64 b, .int .i64 c] 24)
  have hE0 := hE.alloc (.cells #[.int .i64 a, .int .i64 b, .int .i64 c] 24)
  cases hg : goodB a b c
  · have hr := Lib.hid (show T a b c = .string ⟨#[]⟩ by simp [T, textL, hg])
    have HG := Lib.hid hg
    clear hg
    go_enter Tryz.func21, Tryz.ntmps21
    go_wp2_with fail
    refine (good_any a b c _).mono ?_
    rintro e w1 ⟨rfl, hb1⟩
    rw [HG.out]
    go_wp2
    go_ret
    exact ⟨Eq.trans (by rfl) (congrArg Ending.returned hr.out).symm, keep_below B0 hb1⟩
  · have hr := Lib.hid (show T a b c = .string ⟨(Lib.join ([ByteArray.mk (Lib.itoa a).toArray, ByteArray.mk (Lib.itoa b).toArray, ByteArray.mk (Lib.itoa c).toArray].map (·.data.toList)) (ByteArray.mk #[46]).data.toList).toArray⟩ by simp [T, textL, hg, Lib.join, List.intercalate])
    obtain ⟨a0, a1, b0, b1, c0, c1⟩ := of_good hg
    have HG := Lib.hid hg
    clear hg
    go_enter Tryz.func21, Tryz.ntmps21
    go_wp2_with fail
    refine (good_any a b c _).mono ?_
    rintro e w1 ⟨rfl, hb1⟩
    rw [HG.out]
    have A1 := A0.below hb1
    have B1 := keep_below B0 hb1
    have E1 := hE0.below (Nat.le_refl _) hb1
    obtain ⟨al, k0, k1, k2, kf⟩ := id A1
    have S1 := S3.new w1 ⟨#[]⟩ ⟨#[]⟩ ⟨#[]⟩
    have E1' := E1.alloc (.cells #[.string ⟨#[]⟩, .string ⟨#[]⟩, .string ⟨#[]⟩] 82)
    go_wp2_with fail
    refine wp_loop_rounds 4 ?_
    rw [rounds_succ]
    go_wp2_with fail
    refine (itoa_any0 a (by omega) (by omega) _ E1').mono ?_
    rintro e w2 ⟨rfl, hb2⟩
    have S2 := S1.below hb2
    have B2 := keep_below (B1.alloc B1.size _) hb2
    have hw1 := B1.size
    obtain ⟨sl, s0, s1, s2, sf⟩ := id S2
    go_wp2_with fail
    rw [rounds_succ]
    go_wp2_with fail
    have B2' := B2.setCell (p := ⟨w1.heap.size, 0, none⟩) hw1 (.string ⟨(Lib.itoa a).toArray⟩)
    refine (itoa_any0 b (by omega) (by omega) _ (hE.below (Nat.le_refl _) B2')).mono ?_
    rintro e w3 ⟨rfl, hb3⟩
    have S3' := (S2.set0 ⟨(Lib.itoa a).toArray⟩).below hb3
    have B3 := keep_below B2' hb3
    clear sl s0 s1 s2 sf
    obtain ⟨sl, s0, s1, s2, sf⟩ := id S3'
    go_wp2_with fail
    rw [rounds_succ]
    go_wp2_with fail
    have B3' := B3.setCell (p := ⟨w1.heap.size, 1, none⟩) hw1 (.string ⟨(Lib.itoa b).toArray⟩)
    refine (itoa_any0 c (by omega) (by omega) _ (hE.below (Nat.le_refl _) B3')).mono ?_
    rintro e w4 ⟨rfl, hb4⟩
    have S4 := (S3'.set1 ⟨(Lib.itoa b).toArray⟩).below hb4
    have B4 := keep_below B3' hb4
    clear sl s0 s1 s2 sf
    obtain ⟨sl, s0, s1, s2, sf⟩ := id S4
    go_wp2_with fail
    rw [rounds_succ]
    go_wp2_with fail
    have B4' := B4.setCell (p := ⟨w1.heap.size, 2, none⟩) hw1 (.string ⟨(Lib.itoa c).toArray⟩)
    have S5 := S4.set2 ⟨(Lib.itoa c).toArray⟩
    refine (Tryz.strings_Join w1.heap.size 0 3 [ByteArray.mk (Lib.itoa a).toArray, ByteArray.mk (Lib.itoa b).toArray, ByteArray.mk (Lib.itoa c).toArray] ⟨#[46]⟩ _ ?_ S5.lt (by simp) (by simp) ?_).mono ?_
    · intro j x hj
      rcases j with _ | _ | _ | j
      · simp at hj; subst hj; exact S5.c0
      · simp at hj; subst hj; exact S5.c1
      · simp at hj; subst hj; exact S5.c2
      · simp at hj
    · have l0 := Lib.itoa_length_le a (by omega) (by omega)
      have l1 := Lib.itoa_length_le b (by omega) (by omega)
      have l2 := Lib.itoa_length_le c (by omega) (by omega)
      simp [Lib.join, List.intercalate]
      omega
    rintro e w5 ⟨rfl, hb5⟩
    have B5 := keep_below B4' hb5
    go_wp2
    go_ret
    exact ⟨Eq.trans (by rfl) (congrArg Ending.returned hr.out).symm, B5⟩

theorem ret_str {a b : ByteArray} (h : a = b) : Ending.returned (.string a) = .returned (.string b) := by rw [h]
theorem size_le_of {l : List UInt8} {n : Nat} (h : l.length ≤ n) : (ByteArray.mk l.toArray).size ≤ n := by simpa [ByteArray.size] using h

set_option maxHeartbeats 1000000 in
set_option maxRecDepth 100000 in
theorem textr_any (a b c : Int) (w : World) (hE : Env0 w) : Calls Tryz.prog 39 #[V a b c] w fun e w' => e = .returned (T a b c) ∧ Below w.heap.size w w' := by
  have A0 := C3.new w a b c
  have B0 := (Below.refl w.heap.size w).alloc (Nat.le_refl _) (.cells #[.int .i64 a, .int .i64 b, .int .i64 c] 24)
  have hE0 := hE.alloc (.cells #[.int .i64 a, .int .i64 b, .int .i64 c] 24)
  cases hg : goodB a b c
  · have hr := Lib.hid (show T a b c = .string ⟨#[]⟩ by simp [T, textL, hg])
    have HG := Lib.hid hg
    clear hg
    go_enter Tryz.func39, Tryz.ntmps39
    go_wp2_with fail
    refine (goodr_any a b c _).mono ?_
    rintro e w1 ⟨rfl, hb1⟩
    rw [HG.out]
    go_wp2
    go_ret
    exact ⟨Eq.trans (by rfl) (congrArg Ending.returned hr.out).symm, keep_below B0 hb1⟩
  · obtain ⟨a0, a1, b0, b1, c0, c1⟩ := of_good hg
    have hr := Lib.hid (show textL a b c = Lib.itoa a ++ ([46] ++ (Lib.itoa b ++ ([46] ++ Lib.itoa c))) by simp [textL, hg])
    have HG := Lib.hid hg
    clear hg
    have l0 := Lib.itoa_length_le a (by omega) (by omega)
    have l1 := Lib.itoa_length_le b (by omega) (by omega)
    have l2 := Lib.itoa_length_le c (by omega) (by omega)
    have s1 : ∀ W : World, (Op.stringOp .add ⟨(Lib.itoa a).toArray⟩ ⟨#[46]⟩).run Tryz.prog W = .ok (.string (⟨(Lib.itoa a).toArray⟩ ++ ⟨#[46]⟩)) W := fun W => run_string_add_sum _ _ _ (by simp [ByteArray.size]; omega)
    have s2 : ∀ W : World, (Op.stringOp .add (⟨(Lib.itoa a).toArray⟩ ++ ⟨#[46]⟩) ⟨(Lib.itoa b).toArray⟩).run Tryz.prog W = .ok (.string (⟨(Lib.itoa a).toArray⟩ ++ ⟨#[46]⟩ ++ ⟨(Lib.itoa b).toArray⟩)) W := fun W => run_string_add_sum _ _ _ (by simp [ByteArray.size]; omega)
    have s3 : ∀ W : World, (Op.stringOp .add (⟨(Lib.itoa a).toArray⟩ ++ ⟨#[46]⟩ ++ ⟨(Lib.itoa b).toArray⟩) ⟨#[46]⟩).run Tryz.prog W = .ok (.string (⟨(Lib.itoa a).toArray⟩ ++ ⟨#[46]⟩ ++ ⟨(Lib.itoa b).toArray⟩ ++ ⟨#[46]⟩)) W := fun W => run_string_add_sum _ _ _ (by simp [ByteArray.size]; omega)
    have s4 : ∀ W : World, (Op.stringOp .add (⟨(Lib.itoa a).toArray⟩ ++ ⟨#[46]⟩ ++ ⟨(Lib.itoa b).toArray⟩ ++ ⟨#[46]⟩) ⟨(Lib.itoa c).toArray⟩).run Tryz.prog W = .ok (.string (⟨(Lib.itoa a).toArray⟩ ++ ⟨#[46]⟩ ++ ⟨(Lib.itoa b).toArray⟩ ++ ⟨#[46]⟩ ++ ⟨(Lib.itoa c).toArray⟩)) W := fun W => run_string_add_sum _ _ _ (by simp [ByteArray.size]; omega)
    go_enter Tryz.func39, Tryz.ntmps39
    go_wp2_with fail
    refine (goodr_any a b c _).mono ?_
    rintro e w1 ⟨rfl, hb1⟩
    rw [HG.out]
    have A1 := A0.below hb1
    have B1 := keep_below B0 hb1
    obtain ⟨al, k0, k1, k2, kf⟩ := id A1
    go_wp2_with fail
    go_region_held3 (fun w' => w'.cell? ⟨w.heap.size, 0, none⟩ = some (.int .i64 a) ∧ w'.cell? ⟨w.heap.size, 1, none⟩ = some (.int .i64 b) ∧ w'.cell? ⟨w.heap.size, 2, none⟩ = some (.int .i64 c) ∧ Below w.heap.size w w')
      (((try go_split_ands); (try dsimp only); (repeat' apply And.intro) <;> (first | exact keep_cell hb (by assumption) | exact keep_below (by assumption) hb | exact Below.drew (by assumption) | go_keep)))
      (first | (go_at_call 27; go_split_ands; refine (itoa_any0 _ (by omega) (by omega) _ (hE.below (Nat.le_refl _) (by assumption))).mono ?_; rintro e w' ⟨rfl, hb⟩))
    go_wp2
    go_ret
    go_split_ands
    refine ⟨ret_str ?_, by assumption⟩
    rw [hr.out]
    apply ByteArray.ext
    simp

end Vs
end Go.Proofs.YtbhngjhfeejeiaaGreatDoor
namespace Go.Proofs.YtbhngjhfeejeiaaGreatDoor
namespace Vs
open Go.Lib

theorem itoa_small : ∀ n : Fin 1000, partV (itoa ((n.val : Nat) : Int)) = some ((n.val : Nat) : Int) ∧ (46 : UInt8) ∉ itoa ((n.val : Nat) : Int) := by decide +kernel
theorem part_small {n : Int} (h0 : 0 ≤ n) (h1 : n ≤ 999) : partV (itoa n) = some n ∧ (46 : UInt8) ∉ itoa n := by
  have h := itoa_small ⟨n.toNat, by omega⟩
  rw [show ((n.toNat : Nat) : Int) = n by omega] at h
  exact h
theorem pieces_no (c : UInt8) : ∀ l : List UInt8, c ∉ l → pieces c l = [l]
  | [], _ => rfl
  | b :: l, h => by
    rw [List.mem_cons, not_or] at h
    rw [pieces, if_neg (fun e => h.1 e.symm), pieces_no c l h.2]
theorem pieces_app (c : UInt8) (m : List UInt8) : ∀ l : List UInt8, c ∉ l → pieces c (l ++ c :: m) = l :: pieces c m
  | [], _ => by simp [pieces]
  | b :: l, h => by
    rw [List.mem_cons, not_or] at h
    rw [List.cons_append, pieces, if_neg (fun e => h.1 e.symm), pieces_app c m l h.2]
theorem parse_text {a b c : Int} (h : goodB a b c = true) : parseL (textL a b c) = some (a, b, c) := by
  obtain ⟨a0, a1, b0, b1, c0, c1⟩ := of_good h
  obtain ⟨pa, na⟩ := part_small a0 a1
  obtain ⟨pb, nb⟩ := part_small b0 b1
  obtain ⟨pc, nc⟩ := part_small c0 c1
  rw [parseL, textL, if_pos h]
  have e : itoa a ++ ([46] ++ (itoa b ++ ([46] ++ itoa c))) = itoa a ++ 46 :: (itoa b ++ 46 :: itoa c) := by simp
  rw [e, pieces_app 46 _ _ na, pieces_app 46 _ _ nb, pieces_no 46 _ nc]
  simp [parseP, parse3, pa, pb, pc, h]
theorem join_pieces (c : UInt8) : ∀ l : List UInt8, [c].intercalate (pieces c l) = l
  | [] => by simp [pieces, List.intercalate]
  | b :: l => by
    have ih := join_pieces c l
    obtain ⟨p, ps, hp⟩ := pieces_ne c l
    rw [hp] at ih
    rw [pieces]
    split
    · rename_i h
      subst h
      rw [hp]
      cases ps with
      | nil => simpa [List.intercalate, List.intersperse] using ih
      | cons q qs => simpa [List.intercalate, List.intersperse] using ih
    · rw [hp]
      cases ps with
      | nil => simpa [List.intercalate, List.intersperse] using ih
      | cons q qs => simpa [List.intercalate, List.intersperse] using ih
theorem text_parse {s : List UInt8} {a b c : Int} (h : parseL s = some (a, b, c)) : textL a b c = s ∧ goodB a b c = true := by
  have hj := join_pieces 46 s
  unfold parseL parseP at h
  split at h
  · rename_i p q r hp
    unfold parse3 at h
    simp only [Option.bind_eq_some_iff] at h
    obtain ⟨x, hx, y, hy, z, hz, h⟩ := h
    split at h
    · rename_i hg
      simp only [Option.some.injEq, Prod.mk.injEq] at h
      obtain ⟨rfl, rfl, rfl⟩ := h
      refine ⟨?_, hg⟩
      rw [textL, if_pos hg, (partV_some hx).2, (partV_some hy).2, (partV_some hz).2, ← hj, hp]
      simp [List.intercalate, List.intersperse]
    · cases h
  · cases h

/-- the reference's part of a text -/
def digits (l : List UInt8) : Bool := l.all fun c => decide (48 ≤ c.toNat) && decide (c.toNat ≤ 57)
def value (l : List UInt8) : Int := l.foldl (fun n c => n * 10 + ((c.toNat : Int) - 48)) 0
def partR (l : List UInt8) : Int :=
  if l = [] ∨ 3 < l.length ∨ (l.head? = some 48 ∧ 1 < l.length) then -1 else if digits l = true then value l else -1
theorem partR_small : ∀ n : Fin 1000, partR (itoa ((n.val : Nat) : Int)) = ((n.val : Nat) : Int) := by decide +kernel
theorem one_small : ∀ x : Fin 10, itoa (value [UInt8.ofNat (48 + x.val)]) = [UInt8.ofNat (48 + x.val)] := by decide +kernel
theorem two_small : ∀ x y : Fin 10, x.val ≠ 0 → itoa (value [UInt8.ofNat (48 + x.val), UInt8.ofNat (48 + y.val)]) = [UInt8.ofNat (48 + x.val), UInt8.ofNat (48 + y.val)] := by decide +kernel
theorem three_small : ∀ x y z : Fin 10, x.val ≠ 0 → itoa (value [UInt8.ofNat (48 + x.val), UInt8.ofNat (48 + y.val), UInt8.ofNat (48 + z.val)]) = [UInt8.ofNat (48 + x.val), UInt8.ofNat (48 + y.val), UInt8.ofNat (48 + z.val)] := by decide +kernel
theorem digit_of {c : UInt8} (h0 : 48 ≤ c.toNat) (h1 : c.toNat ≤ 57) : ∃ x : Fin 10, c = UInt8.ofNat (48 + x.val) := by
  refine ⟨⟨c.toNat - 48, by omega⟩, ?_⟩
  have : 48 + (c.toNat - 48) = c.toNat := by omega
  simp [this]
theorem head_zero (x : Fin 10) : UInt8.ofNat (48 + x.val) = 48 → x.val = 0 := by
  revert x; decide
theorem partR_itoa {l : List UInt8} (h : partR l ≠ -1) : itoa (partR l) = l ∧ 0 ≤ partR l ∧ partR l ≤ 999 := by
  unfold partR at h ⊢
  split at h
  · exact absurd rfl h
  · rename_i hc
    rw [if_neg hc]
    split at h
    · rename_i hd
      rw [if_pos hd]
      clear h
      simp only [not_or, not_and] at hc
      obtain ⟨c1, c2, c3⟩ := hc
      match l, c1, c2, c3, hd with
      | [x], _, _, _, hd =>
        simp [digits] at hd
        obtain ⟨x, rfl⟩ := digit_of hd.1 hd.2
        refine ⟨one_small x, ?_⟩
        revert x; decide +kernel
      | [x, y], _, _, c3, hd =>
        simp [digits] at hd
        obtain ⟨x, rfl⟩ := digit_of hd.1.1 hd.1.2
        obtain ⟨y, rfl⟩ := digit_of hd.2.1 hd.2.2
        have hx : x.val ≠ 0 := fun e => by have := c3 (by simp [e]); simp at this
        refine ⟨two_small x y hx, ?_⟩
        clear hx c3 hd
        revert x y; decide +kernel
      | [x, y, z], _, _, c3, hd =>
        simp [digits] at hd
        obtain ⟨x, rfl⟩ := digit_of hd.1.1 hd.1.2
        obtain ⟨y, rfl⟩ := digit_of hd.2.1.1 hd.2.1.2
        obtain ⟨z, rfl⟩ := digit_of hd.2.2.1 hd.2.2.2
        have hx : x.val ≠ 0 := fun e => by have := c3 (by simp [e]); simp at this
        refine ⟨three_small x y z hx, ?_⟩
        clear hx c3 hd
        revert x y z; decide +kernel
      | _ :: _ :: _ :: _ :: _, _, c2, _, _ => simp at c2
    · exact absurd rfl h
theorem partV_partR (l : List UInt8) : (partV l).bind (fun n => if 0 ≤ n ∧ n ≤ 999 then some n else none) = if partR l = -1 then none else some (partR l) := by
  by_cases h : partR l = -1
  · rw [if_pos h]
    cases hv : partV l with
    | none => rfl
    | some n =>
      show (if 0 ≤ n ∧ n ≤ 999 then some n else none) = none
      rw [if_neg]
      rintro ⟨h0, h1⟩
      have e := (partV_some hv).2
      have h2 := partR_small ⟨n.toNat, by omega⟩
      rw [show ((n.toNat : Nat) : Int) = n by omega, e, h] at h2
      omega
  · rw [if_neg h]
    obtain ⟨e, h0, h1⟩ := partR_itoa h
    have hp := (part_small h0 h1).1
    rw [e] at hp
    rw [hp]
    show (if 0 ≤ partR l ∧ partR l ≤ 999 then some (partR l) else none) = _
    rw [if_pos ⟨h0, h1⟩]
theorem partR_bd (l : List UInt8) : partR l = -1 ∨ (0 ≤ partR l ∧ partR l ≤ 999) := by
  by_cases h : partR l = -1
  · exact Or.inl h
  · exact Or.inr (partR_itoa h).2
theorem parse3_R (p q r : List UInt8) : parse3 p q r = if goodB (partR p) (partR q) (partR r) = true then some (partR p, partR q, partR r) else none := by
  have hp := partV_partR p
  have hq := partV_partR q
  have hr := partV_partR r
  have key : parse3 p q r = ((partV p).bind fun n => if 0 ≤ n ∧ n ≤ 999 then some n else none).bind fun a => ((partV q).bind fun n => if 0 ≤ n ∧ n ≤ 999 then some n else none).bind fun b => ((partV r).bind fun n => if 0 ≤ n ∧ n ≤ 999 then some n else none).bind fun c => some (a, b, c) := by
    unfold parse3
    cases partV p with
    | none => rfl
    | some a =>
      cases partV q with
      | none => simp only [Option.bind_some, Option.bind_none]; split <;> rfl
      | some b =>
        cases partV r with
        | none => simp only [Option.bind_some, Option.bind_none]; split <;> simp
        | some c =>
          simp only [Option.bind_some]
          by_cases ha : 0 ≤ a ∧ a ≤ 999
          · by_cases hb : 0 ≤ b ∧ b ≤ 999
            · by_cases hc : 0 ≤ c ∧ c ≤ 999
              · simp [ha, hb, hc, good_tt ha hb hc]
              · simp [ha, hb, hc, good_ff (a := a) (b := b) (c := c) (by omega)]
            · simp [ha, hb, good_ff (a := a) (b := b) (c := c) (by omega)]
          · simp [ha, good_ff (a := a) (b := b) (c := c) (by omega)]
  rw [key, hp, hq, hr]
  by_cases h1 : partR p = -1
  · rw [if_pos h1, good_ff (by rw [h1]; omega)]; simp
  · by_cases h2 : partR q = -1
    · rw [if_neg h1, if_pos h2, good_ff (by rw [h2]; omega)]; simp
    · by_cases h3 : partR r = -1
      · rw [if_neg h1, if_neg h2, if_pos h3, good_ff (by rw [h3]; omega)]; simp
      · rw [if_neg h1, if_neg h2, if_neg h3, good_tt (partR_itoa h1).2 (partR_itoa h2).2 (partR_itoa h3).2]; simp

end Vs
end Go.Proofs.YtbhngjhfeejeiaaGreatDoor
namespace Go.Proofs.YtbhngjhfeejeiaaGreatDoor
open Go.RowKit
namespace Vs
attribute [local go_sem] eqV

theorem text_len (a b c : Int) : (textL a b c).length ≤ 1000 := by
  unfold textL
  split
  · rename_i h
    obtain ⟨a0, a1, b0, b1, c0, c1⟩ := of_good h
    have l0 := Lib.itoa_length_le a (by omega) (by omega)
    have l1 := Lib.itoa_length_le b (by omega) (by omega)
    have l2 := Lib.itoa_length_le c (by omega) (by omega)
    simp
    omega
  · simp
theorem parse_T {a b c : Int} (h : goodB a b c = true) : PV (parseL (ByteArray.mk (textL a b c).toArray).data.toList) = .tuple #[V a b c, .int .i64 0] := by
  show PV (parseL (textL a b c)) = _
  rw [parse_text h]
  rfl
theorem parse_F {a b c : Int} (h : goodB a b c = false) : PV (parseL (ByteArray.mk (textL a b c).toArray).data.toList) = .tuple #[V 0 0 0, .int .i64 20] := by
  have : textL a b c = [] := by simp [textL, h]
  rw [this]
  show PV (parseL []) = _
  rw [show parseL [] = none by decide +kernel]
  rfl

end Vs
end Go.Proofs.YtbhngjhfeejeiaaGreatDoor
namespace Go.Proofs.YtbhngjhfeejeiaaGreatDoor
open Go.RowKit
namespace Vs
attribute [local go_sem] eqV

theorem value_snoc (l : List UInt8) (c : UInt8) : value (l ++ [c]) = value l * 10 + ((c.toNat : Int) - 48) := by simp [value]
theorem digits_snoc (l : List UInt8) (c : UInt8) : digits (l ++ [c]) = (digits l && (decide (48 ≤ c.toNat) && decide (c.toNat ≤ 57))) := by simp [digits]
theorem take_snoc (s : ByteArray) (k : Nat) (h : k < s.size) : s.data.toList.take (k + 1) = s.data.toList.take k ++ [s[k]] := by
  rw [List.take_succ_eq_append_getElem (by simpa using h)]; rfl
theorem value_take (s : ByteArray) : ∀ k, k ≤ s.size → digits (s.data.toList.take k) = true → 0 ≤ value (s.data.toList.take k) ∧ value (s.data.toList.take k) < 10 ^ k
  | 0, _, _ => by simp [value]
  | k + 1, hk, hd => by
    rw [take_snoc s k (by omega), digits_snoc, Bool.and_eq_true, Bool.and_eq_true, decide_eq_true_eq, decide_eq_true_eq] at hd
    have := value_take s k (by omega) hd.1
    rw [take_snoc s k (by omega), value_snoc, Int.pow_succ]
    omega
theorem digits_get {s : ByteArray} (h : digits s.data.toList = true) (k : Nat) (hk : k < s.size) : 48 ≤ s[k].toNat ∧ s[k].toNat ≤ 57 := by
  have hm : s[k] ∈ s.data.toList := by
    have : s[k] = s.data[k] := rfl
    rw [this]
    exact Array.mem_toList_iff.2 (Array.getElem_mem _)
  have := List.all_eq_true.1 h _ hm
  simpa using this
theorem head_get (s : ByteArray) (h : 0 < s.size) : s.data.toList.head? = some s[0] := by
  rw [List.head?_eq_getElem?, List.getElem?_eq_getElem (by rw [← Lib.size_eq]; exact h)]
  rfl
theorem partR_loop {s : ByteArray} (h0 : 0 < s.size) (h3 : s.size ≤ 3) (hz : ¬ (s[0].toNat = 48 ∧ 1 < s.size)) : partR s.data.toList = if digits s.data.toList = true then value s.data.toList else -1 := by
  unfold partR
  rw [if_neg]
  have hl := Lib.size_eq s
  rintro (h | h | ⟨h, h'⟩)
  · rw [h, List.length_nil] at hl; omega
  · rw [← Lib.size_eq] at h; omega
  · rw [head_get s h0] at h
    simp only [Option.some.injEq] at h
    exact hz ⟨by rw [h]; rfl, by rw [Lib.size_eq]; exact h'⟩

set_option maxHeartbeats 1000000 in
set_option maxRecDepth 100000 in
theorem part_any (s : ByteArray) (w : World) (hs : s.size ≤ 1048576) : Calls Tryz.prog 33 #[.string s] w fun e w' => e = .returned (.int .i64 (partR s.data.toList)) ∧ w = w' := by
  have hl := Lib.size_eq s
  by_cases h0 : s.size = 0
  · have hr := Lib.hid (show partR s.data.toList = -1 by unfold partR; rw [if_pos (Or.inl (List.length_eq_zero_iff.1 (hl.symm.trans h0)))])
    have he : s.toList = [] := by rw [btl]; exact List.length_eq_zero_iff.1 (hl.symm.trans h0)
    clear hl h0
    go_enter Tryz.func33, Tryz.ntmps33
    go_wp2
    go_ret
    exact ⟨ret_int hr.out.symm, rfl⟩
  · have he : s.toList.isEmpty = false := by
      rw [btl]
      cases h : s.data.toList with
      | nil => rw [h, List.length_nil] at hl; omega
      | cons => rfl
    by_cases h3 : 3 < s.size
    · have hr := Lib.hid (show partR s.data.toList = -1 by unfold partR; rw [if_pos (Or.inr (Or.inl (by rw [← Lib.size_eq]; exact h3)))])
      clear hl
      go_enter Tryz.func33, Tryz.ntmps33
      go_wp2
      go_ret
      exact ⟨ret_int hr.out.symm, rfl⟩
    · have hp : 0 < s.size := by omega
      by_cases hz : s[0].toNat = 48 ∧ 1 < s.size
      · have hr := Lib.hid (show partR s.data.toList = -1 by unfold partR; rw [if_pos (Or.inr (Or.inr ⟨by rw [head_get s hp]; congr 1; exact UInt8.toNat_inj.1 hz.1, by rw [← Lib.size_eq]; exact hz.2⟩))])
        clear hl
        have hz1 : ((s[0].toNat : Int) == 48) = true := by simp [hz.1]
        have hz2 := hz.2
        clear hz
        go_enter Tryz.func33, Tryz.ntmps33
        go_wp2
        go_ret
        exact ⟨ret_int hr.out.symm, rfl⟩
      · have hr := Lib.hid (partR_loop hp (by omega) hz)
        have hnz := Lib.hid hz
        clear hz hl
        by_cases hz1 : s[0].toNat = 48
        · have hz2 : s.size = 1 := by
            have := hnz.out
            omega
          have hz3 : ((s[0].toNat : Int) == 48) = true := by simp [hz1]
          have hle : s.size ≤ 1 := by omega
          clear hz1 hz2
          go_enter Tryz.func33, Tryz.ntmps33
          go_wp2
          go_loop [3, 4] (fun n i => ∃ k : Nat, k ≤ s.size ∧ i = .int .i64 k ∧ n = .int .i64 (value (s.data.toList.take k)) ∧ digits (s.data.toList.take k) = true) (fun _ i => s.size - (intOf i).toNat)
          case atStart => exact ⟨0, Nat.zero_le _, rfl, rfl, rfl⟩
          case round =>
            obtain ⟨k, hk, rfl, rfl, hd⟩ := hrel
            obtain ⟨b0, b1⟩ := value_take s k hk hd
            have hp10 : (10 : Int) ^ k ≤ 1000 := by
              have hk5 : k = 0 ∨ k = 1 ∨ k = 2 ∨ k = 3 := by omega
              rcases hk5 with rfl | rfl | rfl | rfl <;> decide
            have b2 : value (s.data.toList.take k) < 1000 := by omega
            clear b1 hp10
            by_cases hlt : k < s.size
            · have ht := Lib.hid (take_snoc s k hlt)
              by_cases hc0 : 48 ≤ (s[k].toNat : Int)
              · by_cases hc1 : (s[k].toNat : Int) ≤ 57
                · have hD := Lib.hid (show digits (s.data.toList.take (k + 1)) = true by rw [ht.out, digits_snoc, hd]; simp; omega)
                  have HV := Lib.hid (show value (s.data.toList.take (k + 1)) = value (s.data.toList.take k) * 10 + ((s[k].toNat : Int) - 48) by rw [ht.out, value_snoc])
                  clear hd
                  go_wp2
                  go_round
                  case rel => exact ⟨k + 1, by omega, by go_num, by rw [HV.out], hD.out⟩
                  case measure => simp [intOf]; omega
                · have hn := Lib.hid (show digits s.data.toList = false by
                    cases h : digits s.data.toList with
                    | false => rfl
                    | true => have := digits_get h k hlt; omega)
                  clear hd
                  go_wp2
                  go_ret
                  exact ⟨ret_int (by rw [hr.out, hn.out]; rfl), rfl⟩
              · have hn := Lib.hid (show digits s.data.toList = false by
                  cases h : digits s.data.toList with
                  | false => rfl
                  | true => have := digits_get h k hlt; omega)
                clear hd
                go_wp2
                go_ret
                exact ⟨ret_int (by rw [hr.out, hn.out]; rfl), rfl⟩
            · obtain rfl : k = s.size := by omega
              have ht := Lib.hid (show s.data.toList.take s.size = s.data.toList from List.take_of_length_le (by rw [← Lib.size_eq]; exact Nat.le_refl _))
              rw [ht.out] at hd
              have HD := Lib.hid hd
              clear hd
              go_wp2
              go_ret
              exact ⟨ret_int (by rw [hr.out, HD.out, ht.out]; rfl), rfl⟩
        · have hz3 : ((s[0].toNat : Int) == 48) = false := by simp; omega
          clear hz1
          go_enter Tryz.func33, Tryz.ntmps33
          go_wp2
          go_loop [3, 4] (fun n i => ∃ k : Nat, k ≤ s.size ∧ i = .int .i64 k ∧ n = .int .i64 (value (s.data.toList.take k)) ∧ digits (s.data.toList.take k) = true) (fun _ i => s.size - (intOf i).toNat)
          case atStart => exact ⟨0, Nat.zero_le _, rfl, rfl, rfl⟩
          case round =>
            obtain ⟨k, hk, rfl, rfl, hd⟩ := hrel
            obtain ⟨b0, b1⟩ := value_take s k hk hd
            have hp10 : (10 : Int) ^ k ≤ 1000 := by
              have hk5 : k = 0 ∨ k = 1 ∨ k = 2 ∨ k = 3 := by omega
              rcases hk5 with rfl | rfl | rfl | rfl <;> decide
            have b2 : value (s.data.toList.take k) < 1000 := by omega
            clear b1 hp10
            by_cases hlt : k < s.size
            · have ht := Lib.hid (take_snoc s k hlt)
              by_cases hc0 : 48 ≤ (s[k].toNat : Int)
              · by_cases hc1 : (s[k].toNat : Int) ≤ 57
                · have hD := Lib.hid (show digits (s.data.toList.take (k + 1)) = true by rw [ht.out, digits_snoc, hd]; simp; omega)
                  have HV := Lib.hid (show value (s.data.toList.take (k + 1)) = value (s.data.toList.take k) * 10 + ((s[k].toNat : Int) - 48) by rw [ht.out, value_snoc])
                  clear hd
                  go_wp2
                  go_round
                  case rel => exact ⟨k + 1, by omega, by go_num, by rw [HV.out], hD.out⟩
                  case measure => simp [intOf]; omega
                · have hn := Lib.hid (show digits s.data.toList = false by
                    cases h : digits s.data.toList with
                    | false => rfl
                    | true => have := digits_get h k hlt; omega)
                  clear hd
                  go_wp2
                  go_ret
                  exact ⟨ret_int (by rw [hr.out, hn.out]; rfl), rfl⟩
              · have hn := Lib.hid (show digits s.data.toList = false by
                  cases h : digits s.data.toList with
                  | false => rfl
                  | true => have := digits_get h k hlt; omega)
                clear hd
                go_wp2
                go_ret
                exact ⟨ret_int (by rw [hr.out, hn.out]; rfl), rfl⟩
            · obtain rfl : k = s.size := by omega
              have ht := Lib.hid (show s.data.toList.take s.size = s.data.toList from List.take_of_length_le (by rw [← Lib.size_eq]; exact Nat.le_refl _))
              rw [ht.out] at hd
              have HD := Lib.hid hd
              clear hd
              go_wp2
              go_ret
              exact ⟨ret_int (by rw [hr.out, HD.out, ht.out]; rfl), rfl⟩

end Vs
end Go.Proofs.YtbhngjhfeejeiaaGreatDoor
namespace Go.Proofs.YtbhngjhfeejeiaaGreatDoor
open Go.RowKit
namespace Vs

theorem info_str : (Tryz.prog.info? 9).map (fun i => (i.zero, i.size, i.bytes)) = some (some (.string ⟨#[]⟩), 1, 16) := by kernel_rfl
abbrev str (l : List UInt8) : Value := .string ⟨l.toArray⟩
def PK (c : UInt8) (s : ByteArray) (k : Nat) : List (List UInt8) := pieces c (s.data.toList.take k)
theorem addLast_concat (x : UInt8) (p : List UInt8) : ∀ l : List (List UInt8), addLast x (l ++ [p]) = l ++ [p ++ [x]]
  | [] => rfl
  | [q] => rfl
  | q :: r :: l => by
    have ih := addLast_concat x p (r :: l)
    simp only [List.cons_append] at ih ⊢
    rw [addLast, ih]
theorem PK_hit {c : UInt8} {s : ByteArray} {k : Nat} (h : k < s.size) (hc : s[k] = c) : PK c s (k + 1) = PK c s k ++ [[]] := by
  unfold PK
  rw [take_snoc s k h, hc]
  exact pieces_snoc_hit c _
theorem PK_miss {c : UInt8} {s : ByteArray} {k : Nat} (h : k < s.size) (hc : s[k] ≠ c) : PK c s (k + 1) = addLast s[k] (PK c s k) := by
  unfold PK
  rw [take_snoc s k h]
  exact pieces_snoc_miss c _ hc _
theorem PK_le (c : UInt8) (s : ByteArray) : ∀ k, k ≤ s.size → 1 ≤ (PK c s k).length ∧ (PK c s k).length ≤ k + 1
  | 0, _ => by simp [PK, pieces]
  | k + 1, hk => by
    have ih := PK_le c s k (by omega)
    by_cases hc : s[k] = c
    · rw [PK_hit (by omega) hc]; simp; omega
    · rw [PK_miss (by omega) hc]
      rcases List.eq_nil_or_concat (PK c s k) with h | ⟨l, p, h⟩
      · rw [h] at ih; simp at ih
      · rw [List.concat_eq_append] at h
        rw [h, addLast_concat]
        rw [h] at ih
        simp at ih ⊢
        omega

set_option maxHeartbeats 2000000 in
set_option maxRecDepth 100000 in
theorem pieces_any (s : ByteArray) (c : UInt8) (w : World) (hs : s.size ≤ 1048576) :
    Calls Tryz.prog 32 #[.string s, .int .u8 (c.toNat : Int)] w fun e w' =>
      ∃ v, e = .returned v ∧ w'.ownsRow w.heap.size 9 1 v (pieces c s.data.toList).length ((pieces c s.data.toList).map str) ∧ Below w.heap.size w w' := by
  obtain ⟨i0, hi0, hz0, hz1, hz2⟩ := info_parts info_str
  have hst : (w.alloc (.cells #[.string ⟨#[]⟩] 9)).ownsRow w.heap.size 9 1 (.slice (some ⟨w.heap.size, 0, none⟩) 1 1) 1 [.string ⟨#[]⟩] :=
    World.ownsRow_lit w #[.string ⟨#[]⟩] 1 (Nat.le_refl _) (by decide) rfl
  go_enter Tryz.func32, Tryz.ntmps32
  go_wp2_with fail
  go_loopw [5, 6] (fun v i wr => ∃ k : Nat, k ≤ s.size ∧ i = .int .i64 k ∧ wr.ownsRow w.heap.size 9 1 v (PK c s k).length ((PK c s k).map str) ∧ Below w.heap.size w wr) (fun _ i _ => s.size - (intOf i).toNat)
  case atStart => exact ⟨0, Nat.zero_le _, rfl, hst, (Below.refl _ _).alloc (Nat.le_refl _) _⟩
  case round =>
    obtain ⟨k, hk, rfl, hown, hb⟩ := hrel
    clear hst
    by_cases hlt : k < s.size
    · obtain ⟨l0, l1⟩ := PK_le c s k hk
      by_cases hc : s[k] = c
      · have hL := Lib.hid (PK_hit hlt hc)
        have hc1 : ((s[k].toNat : Int) == (c.toNat : Int)) = true := by rw [hc]; simp
        clear hc
        go_wp2_with (first
          | (at_builtin; refine wpList_append_own _ rfl _ _ 42 rfl w.heap.size 9 i0 (.string ⟨#[]⟩) 1 16 Tryz.underlying42 hi0 hz0 hz1 hz2 rfl (by decide) _ _ _ rfl (hown.alloc _) ⟨wr.heap.size, 0, none⟩ 1 1 [.string ⟨#[]⟩] rfl rfl ?c1 ?c2 ?c3 ?c4 ?c5 ?_))
        case c1 =>
          intro j u hj
          match j, hj with
          | 0, hj => simp at hj; subst hj; simp [Addr.add]
        case c2 => intro u hu; simp at hu; subst hu; rfl
        case c3 => unfold maxLen; omega
        case c4 => omega
        case c5 => have := hb.size; simp; omega
        intro v' w1 hown1 hg1 _
        have hb1 : Below w.heap.size w w1 := (hb.alloc hb.size _).grown hg1 (by have := hb.size; simp; omega) (fun j hj => (hown.lt j hj).1)
        have hown2 : w1.ownsRow w.heap.size 9 1 v' (PK c s (k + 1)).length ((PK c s (k + 1)).map str) := by
          rw [hL.out]
          simpa using hown1
        clear hown hown1 hg1 hb
        go_wp2
        go_roundw
        case rel => exact ⟨k + 1, by omega, by go_num, hown2, hb1⟩
        case measure => simp [intOf]; omega
      · have hL := Lib.hid (PK_miss hlt hc)
        have hc1 : ((s[k].toNat : Int) == (c.toNat : Int)) = false := by
          rw [beq_eq_false_iff_ne]
          intro e
          exact hc (UInt8.toNat_inj.1 (by omega))
        clear hc
        obtain ⟨l, p, hp⟩ : ∃ l p, PK c s k = l ++ [p] := by
          rcases List.eq_nil_or_concat (PK c s k) with h | ⟨l, p, h⟩
          · rw [h] at l0; simp at l0
          · exact ⟨l, p, by rw [h, List.concat_eq_append]⟩
        rw [hp] at hown l0 l1
        have hpl : p.length ≤ k := by
          have h := pieces_len c (s.data.toList.take k) p (by show p ∈ PK c s k; rw [hp]; simp)
          rw [List.length_take] at h
          omega
        have q11 : ∀ W : World, (Op.stringOp .add ⟨p.toArray⟩ (s.extract k (k + 1))).run Tryz.prog W = .ok (.string (⟨p.toArray⟩ ++ s.extract k (k + 1))) W := fun W => run_string_add_sum _ _ _ (by
          rw [Lib.size_eq, ByteArray.size_extract]
          show p.length + _ ≤ _
          omega)
        have q12 : (ByteArray.mk p.toArray ++ s.extract k (k + 1)) = ⟨(p ++ [s[k]]).toArray⟩ := by
          apply ByteArray.ext
          apply Array.toList_inj.1
          rw [ByteArray.data_append, Array.toList_append, Lib.extract_data]
          show p ++ _ = p ++ [s[k]]
          rw [List.append_cancel_left_eq, ← List.drop_take, take_snoc s k hlt, List.drop_append_of_le_length (by rw [List.length_take, ← Lib.size_eq]; omega), List.drop_of_length_le (by rw [List.length_take]; omega)]
          rfl
        have HP := Lib.hid hp
        clear hp hpl
        have hlen : (l ++ [p]).length = l.length + 1 := by simp
        rw [hlen] at hown l0 l1
        obtain ⟨g, cap, rfl, hg0, hg1⟩ := hown.form (by omega)
        clear hlen
        have hcell := hown.cellAt l.length (by simp)
        have hfz := hown.frozenAt l.length
        have hcell' : wr.cell? ⟨g, l.length, none⟩ = some (str p) := by rw [hcell]; simp
        clear hcell
        have hsto := Lib.hid (hown.stored l.length (str (p ++ [s[k]])))
        clear hown
        have q1 : IntKind.i64.wrap (l.length : Int) = (l.length : Int) := IntWalk.i64_in _ (by omega)
        have q4 : (0 : Int) ≤ (l.length : Int) := by omega
        have q5 : (l.length : Int) < (l.length : Int) + 1 := by omega
        have q6 : ((k : Int) + 1).toNat = k + 1 := by omega
        have q7 : (0 : Int) ≤ (k : Int) + 1 := by omega
        have q8 : k + 1 ≤ s.size := by omega
        have q9 : (k : Int) ≤ (k : Int) + 1 := by omega
        have q10 : (k : Int) + 1 ≤ (s.size : Int) := by omega
        have q2 : IntKind.i64.wrap ((k : Int) + 1) = (k : Int) + 1 := IntWalk.i64_in _ (by omega)
        have q3 : ((l.length : Int) + 1 - 1) = (l.length : Int) := by omega
        have hcd : ({ heap := wr.heap, tape := wr.tape, drawn := wr.drawn + 1, os := wr.os, output := wr.output } : World).cell? ⟨g, l.length, none⟩ = some (str p) := hcell'
        go_wp2_with fail
        go_still_tail 17, (by kernel_rfl)
        change wpList _ _ _ _ _ wr.drew
        obtain ⟨hs1, hs2⟩ := hsto.out
        have hPK : PK c s (k + 1) = l ++ [p ++ [s[k]]] := by rw [hL.out, HP.out, addLast_concat]
        have hlenK : (PK c s (k + 1)).length = l.length + 1 := by rw [hPK]; simp
        have hmapK : (PK c s (k + 1)).map str = ((l ++ [p]).map str).set l.length (str (p ++ [s[k]])) := by
          rw [hPK, List.map_append, List.map_append, List.set_append_right _ _ (by simp)]
          simp
        have hs1' : ((wr.setCell ⟨g, l.length, none⟩ (str (p ++ [s[k]]))).drew).ownsRow w.heap.size 9 1 (.slice (some ⟨g, 0, none⟩) (l.length + 1) cap) (PK c s (k + 1)).length ((PK c s (k + 1)).map str) := by
          rw [hlenK, hmapK]
          exact hs1
        have hb' : Below w.heap.size w ((wr.setCell ⟨g, l.length, none⟩ (str (p ++ [s[k]]))).drew) := (hb.setCell (p := ⟨g, l.length, none⟩) hg0 _).drew
        have H1 := Lib.hid hs1'
        have H2 := Lib.hid hb'
        clear hs1 hs2 hPK hlenK hmapK hs1' hb' q1 q3 q4 q5 q6 q7 q9 q11 q12 hcd
        go_wp2
        go_roundw
        case rel => exact ⟨k + 1, by omega, by go_num, H1.out, H2.out⟩
        case measure => simp [intOf]; omega
    · obtain rfl : k = s.size := by omega
      have ht : PK c s s.size = pieces c s.data.toList := by unfold PK; rw [List.take_of_length_le (by rw [← Lib.size_eq]; exact Nat.le_refl _)]
      rw [ht] at hown
      have H1 := Lib.hid hown
      clear hown ht
      go_wp2
      go_ret
      exact ⟨_, rfl, H1.out, hb⟩

end Vs
end Go.Proofs.YtbhngjhfeejeiaaGreatDoor
namespace Go.Proofs.YtbhngjhfeejeiaaGreatDoor
open Go.RowKit
namespace Vs
attribute [local go_sem] eqV

theorem C3.set0 {W : World} {b : Nat} {x y z : Int} (h : C3 W b x y z) (s : Int) : C3 (W.setCell ⟨b, 0, none⟩ (.int .i64 s)) b s y z := by
  obtain ⟨h1, h2, h3, h4, h5⟩ := h
  refine ⟨by simpa [World.setCell] using h1, ?_, ?_, ?_, fun j => by simp only [World.frozen?_setCell]; exact h5 j⟩
  all_goals first | (rw [World.cell?_setCell_other _ _ _ _ (by simp)]; assumption) | (exact World.cell?_setCell_same _ _ _ h2)
theorem C3.set1 {W : World} {b : Nat} {x y z : Int} (h : C3 W b x y z) (s : Int) : C3 (W.setCell ⟨b, 1, none⟩ (.int .i64 s)) b x s z := by
  obtain ⟨h1, h2, h3, h4, h5⟩ := h
  refine ⟨by simpa [World.setCell] using h1, ?_, ?_, ?_, fun j => by simp only [World.frozen?_setCell]; exact h5 j⟩
  all_goals first | (rw [World.cell?_setCell_other _ _ _ _ (by simp)]; assumption) | (exact World.cell?_setCell_same _ _ _ h3)
theorem C3.set2 {W : World} {b : Nat} {x y z : Int} (h : C3 W b x y z) (s : Int) : C3 (W.setCell ⟨b, 2, none⟩ (.int .i64 s)) b x y s := by
  obtain ⟨h1, h2, h3, h4, h5⟩ := h
  refine ⟨by simpa [World.setCell] using h1, ?_, ?_, ?_, fun j => by simp only [World.frozen?_setCell]; exact h5 j⟩
  all_goals first | (rw [World.cell?_setCell_other _ _ _ _ (by simp)]; assumption) | (exact World.cell?_setCell_same _ _ _ h4)

set_option maxHeartbeats 2000000 in
set_option maxRecDepth 100000 in
theorem parser_any (s : ByteArray) (hs : s.size ≤ 1048576) (w : World) :
    Calls Tryz.prog 14 #[.string s] w fun e w' => e = .returned (PV (parseL s.data.toList)) ∧ Below w.heap.size w w' := by
  have hpc := pieces_any s 46 (w.alloc (.cells #[.int .i64 0, .int .i64 0, .int .i64 0] 24)) hs
  rw [show (((46 : UInt8).toNat : Nat) : Int) = 46 from rfl] at hpc
  have R0 := C3.new w 0 0 0
  have B0 := (Below.refl w.heap.size w).alloc (Nat.le_refl _) (.cells #[.int .i64 0, .int .i64 0, .int .i64 0] 24)
  have hall : ∀ p ∈ pieces 46 s.data.toList, p.length ≤ 1048576 := fun p hp => by
    have := pieces_len 46 _ p hp
    rw [← Lib.size_eq] at this
    omega
  have hall2 := pieces_len' 46 s.data.toList
  rw [← Lib.size_eq] at hall2
  have HPd := Lib.hid (show parseL s.data.toList = parseP (pieces 46 s.data.toList) from rfl)
  generalize pieces 46 s.data.toList = ps at *
  have HALL := Lib.hid hall
  have HPC := Lib.hid hpc
  clear hall hpc
  go_enter Tryz.func14, Tryz.ntmps14
  go_wp2_with fail
  refine HPC.out.mono ?_
  rintro e w1 ⟨v, rfl, hown, hb1⟩
  have R1 := R0.below hb1
  have B1 := keep_below B0 hb1
  obtain ⟨rl, r0, r1, r2, rf⟩ := id R1
  obtain ⟨g, cap, rfl, hg0, hg1⟩ := hown.form (by omega)
  rw [size_alloc] at hg0
  by_cases h3 : ps.length = 3
  · obtain ⟨p, q, r, rfl⟩ : ∃ p q r, ps = [p, q, r] := by
      match ps, h3 with
      | [p, q, r], _ => exact ⟨p, q, r, rfl⟩
    have k0 : w1.cell? ⟨g, 0, none⟩ = some (str p) := by rw [hown.cellAt 0 (by simp)]; rfl
    have k1 : w1.cell? ⟨g, 1, none⟩ = some (str q) := by rw [hown.cellAt 1 (by simp)]; rfl
    have k2 : w1.cell? ⟨g, 2, none⟩ = some (str r) := by rw [hown.cellAt 2 (by simp)]; rfl
    have hsp : (ByteArray.mk p.toArray).size ≤ 1048576 := size_le_of (HALL.out p (by simp))
    have hsq : (ByteArray.mk q.toArray).size ≤ 1048576 := size_le_of (HALL.out q (by simp))
    have hsr : (ByteArray.mk r.toArray).size ≤ 1048576 := size_le_of (HALL.out r (by simp))
    have hlen : [p, q, r].length = 3 := rfl
    rw [hlen] at *
    clear hown h3 hall2
    have V1 := C3.new w1 0 0 0
    have hw1 := B1.size
    have B1' := B1.alloc hw1 (.cells #[.int .i64 0, .int .i64 0, .int .i64 0] 24)
    go_wp2_with fail
    refine wp_loop_rounds 4 ?_
    rw [rounds_succ]
    go_wp2_with fail
    refine (part_any ⟨p.toArray⟩ _ hsp).mono ?_
    rintro e w' ⟨rfl, rfl⟩
    go_wp2_with fail
    rw [rounds_succ]
    go_wp2_with fail
    refine (part_any ⟨q.toArray⟩ _ hsq).mono ?_
    rintro e w' ⟨rfl, rfl⟩
    go_wp2_with fail
    rw [rounds_succ]
    go_wp2_with fail
    refine (part_any ⟨r.toArray⟩ _ hsr).mono ?_
    rintro e w' ⟨rfl, rfl⟩
    go_wp2_with fail
    rw [rounds_succ]
    have hz := Lib.hid (parse3_R p q r)
    generalize partR p = x at *
    generalize partR q = y at *
    generalize partR r = z at *
    have V2 := C3.new w1 x y z
    have B2 := B1.alloc hw1 (.cells #[.int .i64 x, .int .i64 y, .int .i64 z] 24)
    have R2 := R1.old (.cells #[.int .i64 x, .int .i64 y, .int .i64 z] 24)
    clear k0 k1 k2 V1 B1'
    go_wp2_with fail
    refine (goodr_any x y z _).mono ?_
    rintro e w3 ⟨rfl, hb3⟩
    have V3 := V2.below hb3
    have B3 := keep_below B2 hb3
    have R3 := R2.below hb3
    clear rl r0 r1 r2 rf
    obtain ⟨rl, r0, r1, r2, rf⟩ := id R3
    obtain ⟨vl, v0, v1, v2, vf⟩ := id V3
    cases hg : goodB x y z
    · have HG := Lib.hid hg
      clear hg
      go_wp2
      refine bodyPost_ret (v := .tuple #[V 0 0 0, .int .i64 20]) (by simp [results, Tryz.results14, go_sem, r0, r1, r2]) rfl ⟨?_, ?_⟩
      · rw [HPd.out]
        show _ = Ending.returned (PV (parse3 p q r))
        rw [hz.out, HG.out]
        rfl
      · exact ((B3.setCell (p := ⟨w.heap.size, 0, none⟩) (Nat.le_refl _) _).setCell (p := ⟨w.heap.size, 1, none⟩) (Nat.le_refl _) _).setCell (p := ⟨w.heap.size, 2, none⟩) (Nat.le_refl _) _
    · have HG := Lib.hid hg
      clear hg
      go_wp2
      refine bodyPost_ret (v := .tuple #[V x y z, .int .i64 0]) (by simp [results, Tryz.results14, go_sem, r0, r1, r2]) rfl ⟨?_, ?_⟩
      · rw [HPd.out]
        show _ = Ending.returned (PV (parse3 p q r))
        rw [hz.out, HG.out]
        rfl
      · exact ((B3.setCell (p := ⟨w.heap.size, 0, none⟩) (Nat.le_refl _) _).setCell (p := ⟨w.heap.size, 1, none⟩) (Nat.le_refl _) _).setCell (p := ⟨w.heap.size, 2, none⟩) (Nat.le_refl _) _
  · have hx : ¬ ((ps.length : Int) = 3) := by omega
    have hy : (((ps.length : Int)) != 3) = true := by rw [bne_iff_ne]; exact hx
    have hq := Lib.hid (show parseP ps = none by
      rcases ps with _ | ⟨p, _ | ⟨q, _ | ⟨r, _ | ⟨u, xs⟩⟩⟩⟩ <;> first | rfl | (simp at h3))
    clear hown
    go_wp2
    refine bodyPost_ret (v := .tuple #[V 0 0 0, .int .i64 20]) (by simp [results, Tryz.results14, go_sem, r0, r1, r2]) rfl ⟨?_, ?_⟩
    · rw [HPd.out, hq.out]
      rfl
    · exact ((B1.setCell (p := ⟨w.heap.size, 0, none⟩) (Nat.le_refl _) _).setCell (p := ⟨w.heap.size, 1, none⟩) (Nat.le_refl _) _).setCell (p := ⟨w.heap.size, 2, none⟩) (Nat.le_refl _) _

end Vs
end Go.Proofs.YtbhngjhfeejeiaaGreatDoor
