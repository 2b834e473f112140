/-
  Walks: right, and Check of both texts.
-/
import Derived.Test.YtbefgplaaghlbaaGreatDoorCodeB
namespace Go.Proofs.YtbefgplaaghlbaaGreatDoor
open Go.RowKit
namespace Cd

/-- block b holds an instruction -/
structure CI (W : World) (b : Nat) (x : I) : Prop where
  lt : b < W.heap.size
  c0 : W.cell? ⟨b, 0, none⟩ = some (.int .i64 x.op)
  c1 : W.cell? ⟨b, 1, none⟩ = some (.int .i64 x.n)
  c2 : W.cell? ⟨b, 2, none⟩ = some (.string x.s)
theorem CI.below {W W' : World} {b : Nat} {x : I} (h : CI W b x) (hb : Below W.heap.size W W') : CI W' b x := by
  obtain ⟨hc, hf⟩ := bcell hb
  exact ⟨Nat.lt_of_lt_of_le h.lt hb.size, (hc _ _ h.lt).trans h.c0, (hc _ _ h.lt).trans h.c1, (hc _ _ h.lt).trans h.c2⟩
theorem CI.new (W : World) (x : I) : CI (W.alloc (.cells #[.int .i64 x.op, .int .i64 x.n, .string x.s] 38)) W.heap.size x := by
  refine ⟨by simp, ?_, ?_, ?_⟩
  all_goals go_simp

theorem right_w {x : I} {c : Int} (h : wordB x.op = ⟨#[]⟩) : right x c = false := by simp [right, h]
theorem right_2 {x : I} {c : Int} (h : wordB x.op ≠ ⟨#[]⟩) (t : takes x.op = 2) : right x c = (decide (x.n = 0) && decide (x.s.size ≤ 256)) := by simp [right, h, t]
theorem right_s {x : I} {c : Int} (t : takes x.op ≠ 2) (s : x.s ≠ ⟨#[]⟩) : right x c = false := by simp [right, t, s]
theorem right_0 {x : I} {c : Int} (h : wordB x.op ≠ ⟨#[]⟩) (t : takes x.op = 0) (s : x.s = ⟨#[]⟩) : right x c = decide (x.n = 0) := by simp [right, h, t, s]
theorem right_3 {x : I} {c : Int} (h : wordB x.op ≠ ⟨#[]⟩) (t : takes x.op = 3) (s : x.s = ⟨#[]⟩) : right x c = (decide (0 ≤ x.n) && decide (x.n < 16)) := by simp [right, h, t, s]
theorem right_4 {x : I} {c : Int} (h : wordB x.op ≠ ⟨#[]⟩) (t : takes x.op = 4) (s : x.s = ⟨#[]⟩) : right x c = (decide (0 ≤ x.n) && decide (x.n < c)) := by simp [right, h, t, s]
theorem right_1 {x : I} {c : Int} (h : wordB x.op ≠ ⟨#[]⟩) (t : takes x.op = 1) (s : x.s = ⟨#[]⟩) : right x c = true := by simp [right, h, t, s]
theorem takes_5 (n : Int) : takes n = 0 ∨ takes n = 1 ∨ takes n = 2 ∨ takes n = 3 ∨ takes n = 4 := by
  unfold takes
  repeat' split
  all_goals simp

set_option maxHeartbeats 1000000 in
theorem right_any (x : I) (c : Int) (w : World) (hT : Tab w) : Calls Tryz.prog 41 #[IV x, .int .i64 c] w fun e w' => e = .returned (.bool (right x c)) ∧ Below w.heap.size w w' := by
  have hC := CI.new w x
  have hB0 : Below w.heap.size w (w.alloc (.cells #[.int .i64 x.op, .int .i64 x.n, .string x.s] 38)) := (Below.refl _ _).alloc (Nat.le_refl _) _
  have hT0 := hT.below (Nat.le_refl _) hB0
  go_enter Tryz.func41, Tryz.ntmps41
  go_wp2_with fail
  refine (takes_any _ _).mono ?_
  rintro e w1 ⟨rfl, hb1⟩
  have hC1 := hC.below hb1
  have hB1 := hB0.trans (hb1.mono hB0.size)
  have hT1 := hT0.below (Nat.le_refl _) hb1
  have hd0 := hC1.c0
  go_wp2_with fail
  refine (word_any _ _ hT1).mono ?_
  rintro e w2 ⟨rfl, hb2⟩
  have hC2 := hC1.below hb2
  have hB2 := hB1.trans (hb2.mono hB1.size)
  have he0 := hC2.c0
  have he1 := hC2.c1
  have he2 := hC2.c2
  clear hC hC1 hB0 hB1 hd0 hb1 hb2 hT0 hT1
  by_cases hw : wordB x.op = ⟨#[]⟩
  · have hx := Lib.hid (right_w (c := c) hw)
    rw [hw]
    go_wp2
    go_ret
    exact ⟨ret_bool hx.out.symm, hB2⟩
  · have hw1 := emp_ff hw
    by_cases ht2 : takes x.op = 2
    · have hx := Lib.hid (right_2 (c := c) hw ht2)
      rw [ht2]
      go_wp2
      all_goals
        go_ret
        refine ⟨ret_bool ?_, hB2⟩
        rw [hx.out, Bool.eq_iff_iff]
        simp [*] <;> omega
    · by_cases hs : x.s = ⟨#[]⟩
      · have hs1 := emp_tt hs
        rcases takes_5 x.op with ht | ht | ht | ht | ht
        · have hx := Lib.hid (right_0 (c := c) hw ht hs)
          rw [ht]
          go_wp2
          all_goals
            go_ret
            refine ⟨ret_bool ?_, hB2⟩
            rw [hx.out, Bool.eq_iff_iff]
            simp [*] <;> omega
        · have hx := Lib.hid (right_1 (c := c) hw ht hs)
          rw [ht]
          go_wp2
          all_goals
            go_ret
            exact ⟨ret_bool hx.out.symm, hB2⟩
        · exact absurd ht ht2
        · have hx := Lib.hid (right_3 (c := c) hw ht hs)
          rw [ht]
          go_wp2
          all_goals
            go_ret
            refine ⟨ret_bool ?_, hB2⟩
            rw [hx.out, Bool.eq_iff_iff]
            simp [*] <;> omega
        · have hx := Lib.hid (right_4 (c := c) hw ht hs)
          rw [ht]
          go_wp2
          all_goals
            go_ret
            refine ⟨ret_bool ?_, hB2⟩
            rw [hx.out, Bool.eq_iff_iff]
            simp [*] <;> omega
      · have hs1 := emp_ff hs
        have hx := Lib.hid (right_s (c := c) ht2 hs)
        have ht3 : (takes x.op == 2) = false := by simpa using ht2
        go_wp2
        all_goals
          go_ret
          exact ⟨ret_bool hx.out.symm, hB2⟩
end Cd
end Go.Proofs.YtbefgplaaghlbaaGreatDoor
