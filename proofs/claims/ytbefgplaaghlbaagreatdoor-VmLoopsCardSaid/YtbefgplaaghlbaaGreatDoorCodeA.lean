/-
  Walks: Word, Words, Op, Takes of both texts.
-/
import Derived.Test.YtbefgplaaghlbaaGreatDoorCodeP
namespace Go.Proofs.YtbefgplaaghlbaaGreatDoor
open Go.RowKit
namespace Cd

theorem bcell {W w1 : World} (hb : Below W.heap.size W w1) : (∀ b o, b < W.heap.size → w1.cell? ⟨b, o, none⟩ = W.cell? ⟨b, o, none⟩) ∧ (∀ b o, b < W.heap.size → w1.frozen? ⟨b, o, none⟩ = W.frozen? ⟨b, o, none⟩) :=
  ⟨fun b o h => hb.cell (p := ⟨b, o, none⟩) h, fun b o h => hb.frozen (p := ⟨b, o, none⟩) h⟩
theorem ret_int {k : IntKind} {a b : Int} (h : a = b) : Ending.returned (.int k a) = .returned (.int k b) := by rw [h]
theorem ret_bool {a b : Bool} (h : a = b) : Ending.returned (.bool a) = .returned (.bool b) := by rw [h]
theorem ret_str {a b : ByteArray} (h : a = b) : Ending.returned (.string a) = .returned (.string b) := by rw [h]

theorem seq_tt {a b : ByteArray} (h : a = b) : (a.toList == b.toList) = true := by subst h; exact beq_self_eq_true _
theorem seq_ff {a b : ByteArray} (h : a ≠ b) : (a.toList == b.toList) = false := by
  rw [beq_eq_false_iff_ne]
  intro e
  rw [ByteArray.toList_eq, ByteArray.toList_eq] at e
  exact h (ByteArray.ext (Array.toList_inj.1 e))

theorem emp_tt {a : ByteArray} (h : a = ⟨#[]⟩) : a.toList.isEmpty = true := by subst h; decide +kernel
theorem emp_ff {a : ByteArray} (h : a ≠ ⟨#[]⟩) : a.toList.isEmpty = false := by
  cases he : a.toList.isEmpty
  · rfl
  · rw [ByteArray.toList_eq, List.isEmpty_iff] at he
    exact absurd (ByteArray.ext (Array.toList_inj.1 he)) h

/-- the table of words lies where start-up code lays it -/
structure Tab (W : World) : Prop where
  words : ∀ k, k < 31 → W.cell? ⟨0, k, none⟩ = some (.string (wb k))
  big : 1 ≤ W.heap.size
theorem Tab.below {B : Nat} {W W' : World} (h : Tab W) (hB : W.heap.size ≤ B) (hb : Below B W W') : Tab W' := by
  have hs := h.big
  exact ⟨fun k hk => by rw [hb.cell (p := ⟨0, k, none⟩) (by show 0 < B; omega)]; exact h.words k hk, Nat.le_trans hs hb.size⟩
theorem Tab.alloc {W : World} (h : Tab W) (o : Obj) : Tab (W.alloc o) := h.below (Nat.le_refl _) ((Below.refl _ _).alloc (Nat.le_refl _) o)

set_option maxHeartbeats 400000 in
theorem word_any (n : Int) (w : World) (hT : Tab w) : Calls Tryz.prog 65 #[.int .i64 n] w fun e w' => e = .returned (.string (wordB n)) ∧ Below w.heap.size w w' := by
  by_cases h0 : 0 ≤ n
  · by_cases h1 : n < 31
    · obtain ⟨k, rfl⟩ : ∃ k : Nat, n = k := ⟨n.toNat, by omega⟩
      have hx := Lib.hid (word_in (k := k) (by omega))
      have hk := hT.words k (by omega)
      have hk2 : k < 31 := by omega
      go_enter Tryz.func65, Tryz.ntmps65
      go_wp2
      go_ret
      exact ⟨ret_str hx.out.symm, Below.refl _ _⟩
    · have hx := Lib.hid (word_out (n := n) (by omega))
      go_enter Tryz.func65, Tryz.ntmps65
      go_wp2
      go_ret
      exact ⟨ret_str hx.out.symm, Below.refl _ _⟩
  · have hx := Lib.hid (word_out (n := n) (by omega))
    go_enter Tryz.func65, Tryz.ntmps65
    go_wp2
    go_ret
    exact ⟨ret_str hx.out.symm, Below.refl _ _⟩

theorem takes_tt : ∀ n : Int, n = 2 ∨ n = 30 ∨ n = 3 ∨ n = 7 ∨ n = 8 ∨ n = 17 ∨ n = 18 ∨ n = 19 ∨ (n ≠ 2 ∧ n ≠ 30 ∧ n ≠ 3 ∧ n ≠ 7 ∧ n ≠ 8 ∧ n ≠ 17 ∧ n ≠ 18 ∧ n ≠ 19) := by omega
set_option maxHeartbeats 400000 in
theorem takes_any (n : Int) (w : World) : Calls Tryz.prog 22 #[.int .i64 n] w fun e w' => e = .returned (.int .i64 (takes n)) ∧ Below w.heap.size w w' := by
  rcases takes_tt n with rfl | rfl | rfl | rfl | rfl | rfl | rfl | rfl | ⟨h1, h2, h3, h4, h5, h6, h7, h8⟩
  case inr.inr.inr.inr.inr.inr.inr.inr =>
    have hx := Lib.hid (show takes n = 0 by simp [takes, h1, h2, h3, h4, h5, h6, h7, h8])
    go_enter Tryz.func22, Tryz.ntmps22
    go_wp2
    go_ret
    exact ⟨ret_int hx.out.symm, Below.refl _ _⟩
  all_goals
    go_enter Tryz.func22, Tryz.ntmps22
    go_wp2
    go_ret
    exact ⟨ret_int (by decide +kernel), Below.refl _ _⟩

/-- the reference's row of words -/
structure WRow (W : World) (b : Nat) : Prop where
  lt : b < W.heap.size
  words : ∀ k, k < 30 → W.cell? ⟨b, k, none⟩ = some (.string (wb (k + 1)))
theorem WRow.below {W W' : World} {b : Nat} (h : WRow W b) (hb : Below W.heap.size W W') : WRow W' b :=
  ⟨Nat.lt_of_lt_of_le h.lt hb.size, fun k hk => ((bcell hb).1 _ _ h.lt).trans (h.words k hk)⟩
theorem words_cells : (∀ k, k < 30 → ((((List.range 30).map fun k => Value.string (wb (k + 1))).toArray : Array Value)[k]?) = some (.string (wb (k + 1)))) := by
  intro k hk
  simp [hk]

set_option maxHeartbeats 400000 in
set_option maxRecDepth 100000 in
theorem words_any (w : World) : Calls Tryz.prog 74 #[] w fun e w' => e = .returned (.slice (some ⟨w.heap.size, 0, none⟩) 30 30) ∧ WRow w' w.heap.size ∧ Below w.heap.size w w' := by
  go_enter Tryz.func74, Tryz.ntmps74
  go_wp2
  go_ret
  refine ⟨rfl, ⟨by simp, fun k hk => ?_⟩, (Below.refl _ _).alloc (Nat.le_refl _) _⟩
  change (w.alloc (.cells (((List.range 30).map fun k => Value.string (wb (k + 1))).toArray) 9)).cell? ⟨w.heap.size, k, none⟩ = _
  have hq := words_cells k hk
  generalize ((List.range 30).map fun k => Value.string (wb (k + 1))).toArray = cs at *
  simpa using hq

set_option maxHeartbeats 400000 in
theorem wordr_any (n : Int) (w : World) : Calls Tryz.prog 48 #[.int .i64 n] w fun e w' => e = .returned (.string (wordB n)) ∧ Below w.heap.size w w' := by
  go_enter Tryz.func48, Tryz.ntmps48
  go_wp2_with fail
  refine (words_any _).mono ?_
  rintro e w1 ⟨rfl, hW, hb1⟩
  go_wp2_with fail
  go_loop [7] (fun i => ∃ k : Nat, k ≤ 30 ∧ i = .int .i64 k ∧ (∀ j, 1 ≤ j → j ≤ k → n ≠ j)) (fun i => 30 - (intOf i).toNat)
  case atStart => exact ⟨0, Nat.zero_le _, rfl, by omega⟩
  case round =>
    obtain ⟨k, hk, rfl, hn⟩ := hrel
    by_cases hlt : k < 30
    · have hc := hW.words k hlt
      by_cases he : n = (k : Int) + 1
      · have hx := Lib.hid (show wordB n = wb (k + 1) by rw [he]; exact word_in (k := k + 1) (by omega))
        have he1 : (((k : Int) + 1) == n) = true := by simp [he]
        clear hn he
        go_wp2
        go_ret
        exact ⟨ret_str hx.out.symm, hb1⟩
      · have he1 : (((k : Int) + 1) == n) = false := by simp; omega
        go_wp2
        go_round
        case rel => exact ⟨k + 1, by omega, by go_num, fun j h1 h2 => by
          by_cases h : j ≤ k
          · exact hn j h1 h
          · omega⟩
        case measure => simp [intOf]; omega
    · have hx := Lib.hid (show wordB n = ⟨#[]⟩ by
        by_cases h : 0 ≤ n ∧ n < 31
        · obtain ⟨m, rfl⟩ : ∃ m : Nat, n = m := ⟨n.toNat, by omega⟩
          rcases Nat.eq_zero_or_pos m with rfl | hm
          · rfl
          · exact absurd rfl (hn m hm (by omega))
        · exact word_out (by omega))
      clear hn
      go_wp2
      go_ret
      exact ⟨ret_str hx.out.symm, hb1⟩

theorem take_words (n : Int) (h : n ≠ 2 ∧ n ≠ 30 ∧ n ≠ 3 ∧ n ≠ 7 ∧ n ≠ 8 ∧ n ≠ 17 ∧ n ≠ 18 ∧ n ≠ 19) : wordL n ∉ [wl 2, wl 30, wl 3, wl 7, wl 8, wl 17, wl 18, wl 19] := by
  by_cases hn : 0 ≤ n ∧ n < 31
  · obtain ⟨m, rfl⟩ : ∃ m : Nat, n = m := ⟨n.toNat, by omega⟩
    have hall : ∀ k : Fin 31, k.1 ∈ [2, 30, 3, 7, 8, 17, 18, 19] ∨ wl k.1 ∉ [wl 2, wl 30, wl 3, wl 7, wl 8, wl 17, wl 18, wl 19] := by decide +kernel
    have hw : wordL (m : Int) = wl m := by unfold wordL; rw [if_pos hn]; simp
    rw [hw]
    rcases hall ⟨m, by omega⟩ with h' | h'
    · simp at h'; omega
    · exact h'
  · have hw : wordL n = [] := by unfold wordL; rw [if_neg hn]
    rw [hw]
    decide +kernel

set_option maxHeartbeats 400000 in
theorem takesr_any (n : Int) (w : World) : Calls Tryz.prog 47 #[.int .i64 n] w fun e w' => e = .returned (.int .i64 (takes n)) ∧ Below w.heap.size w w' := by
  rcases takes_tt n with rfl | rfl | rfl | rfl | rfl | rfl | rfl | rfl | h
  case inr.inr.inr.inr.inr.inr.inr.inr =>
    have hm := take_words n h
    obtain ⟨h1, h2, h3, h4, h5, h6, h7, h8⟩ := h
    have hx := Lib.hid (show takes n = 0 by simp [takes, h1, h2, h3, h4, h5, h6, h7, h8])
    simp only [List.mem_cons, List.not_mem_nil, or_false, not_or] at hm
    obtain ⟨g1, g2, g3, g4, g5, g6, g7, g8⟩ := hm
    clear h1 h2 h3 h4 h5 h6 h7 h8
    generalize hl : wordL n = l at *
    have hwb : wordB n = ⟨l.toArray⟩ := by unfold wordB; rw [hl]
    clear hl
    have q1 : (l == [112, 117, 115, 104]) = false := by simpa [wl, WL] using g1
    have q2 : (l == [102, 97, 105, 108]) = false := by simpa [wl, WL] using g2
    have q3 : (l == [116, 101, 120, 116]) = false := by simpa [wl, WL] using g3
    have q4 : (l == [108, 111, 97, 100]) = false := by simpa [wl, WL] using g4
    have q5 : (l == [115, 116, 111, 114, 101]) = false := by simpa [wl, WL] using g5
    have q6 : (l == [106, 117, 109, 112]) = false := by simpa [wl, WL] using g6
    have q7 : (l == [122, 101, 114, 111]) = false := by simpa [wl, WL] using g7
    have q8 : (l == [99, 97, 108, 108]) = false := by simpa [wl, WL] using g8
    clear g1 g2 g3 g4 g5 g6 g7 g8
    go_enter Tryz.func47, Tryz.ntmps47
    go_wp2_with fail
    refine (wordr_any _ _).mono ?_
    rintro e w1 ⟨rfl, hb1⟩
    rw [hwb]
    go_wp2
    go_ret
    exact ⟨ret_int hx.out.symm, hb1⟩
  all_goals
    go_enter Tryz.func47, Tryz.ntmps47
    go_wp2_with fail
    refine (wordr_any _ _).mono ?_
    rintro e w1 ⟨rfl, hb1⟩
    simp (config := {decide := true}) only [wordB, wordL, if_pos, wl, WL, List.getD_eq_getElem?_getD]
    go_wp2
    go_ret
    exact ⟨ret_int (by decide +kernel), hb1⟩
end Cd
end Go.Proofs.YtbefgplaaghlbaaGreatDoor
