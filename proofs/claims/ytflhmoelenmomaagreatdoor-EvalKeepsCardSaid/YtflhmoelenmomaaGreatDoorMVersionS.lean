/-
  The reference's Parse, for every text of at most 2^20 bytes.
-/
import Derived.Test.YtflhmoelenmomaaGreatDoorMPieces
namespace Go.Proofs.YtflhmoelenmomaaGreatDoor
open Go.RowKit
namespace Vs
attribute [local go_sem] eqV

theorem C3.set0 {W : World} {b : Nat} {x y z : Int} (h : C3 W b x y z) (s : Int) : C3 (W.setCell ⟨b, 0, none⟩ (.int .i64 s)) b s y z := by
  obtain ⟨h1, h2, h3, h4, h5⟩ := h
  refine ⟨by simpa [World.setCell] using h1, ?_, ?_, ?_, fun j => by simp only [World.frozen?_setCell]; exact h5 j⟩
  all_goals first | (rw [World.cell?_setCell_other _ _ _ _ (by simp)]; assumption) | (exact World.cell?_setCell_same _ _ _ h2)
theorem C3.set1 {W : World} {b : Nat} {x y z : Int} (h : C3 W b x y z) (s : Int) : C3 (W.setCell ⟨b, 1, none⟩ (.int .i64 s)) b x s z := by
  obtain ⟨h1, h2, h3, h4, h5⟩ := h
  refine ⟨by simpa [World.setCell] using h1, ?_, ?_, ?_, fun j => by simp only [World.frozen?_setCell]; exact h5 j⟩
  all_goals first | (rw [World.cell?_setCell_other _ _ _ _ (by simp)]; assumption) | (exact World.cell?_setCell_same _ _ _ h3)
theorem C3.set2 {W : World} {b : Nat} {x y z : Int} (h : C3 W b x y z) (s : Int) : C3 (W.setCell ⟨b, 2, none⟩ (.int .i64 s)) b x y s := by
  obtain ⟨h1, h2, h3, h4, h5⟩ := h
  refine ⟨by simpa [World.setCell] using h1, ?_, ?_, ?_, fun j => by simp only [World.frozen?_setCell]; exact h5 j⟩
  all_goals first | (rw [World.cell?_setCell_other _ _ _ _ (by simp)]; assumption) | (exact World.cell?_setCell_same _ _ _ h4)

set_option maxHeartbeats 2000000 in
set_option maxRecDepth 100000 in
theorem parser_any (s : ByteArray) (hs : s.size ≤ 1048576) (w : World) :
    Calls Tryz.prog 33 #[.string s] w fun e w' => e = .returned (PV (parseL s.data.toList)) ∧ Below w.heap.size w w' := by
  have hpc := pieces_any s 46 (w.alloc (.cells #[.int .i64 0, .int .i64 0, .int .i64 0] 37)) hs
  rw [show (((46 : UInt8).toNat : Nat) : Int) = 46 from rfl] at hpc
  have R0 := C3.new w 0 0 0
  have B0 := (Below.refl w.heap.size w).alloc (Nat.le_refl _) (.cells #[.int .i64 0, .int .i64 0, .int .i64 0] 37)
  have hall : ∀ p ∈ pieces 46 s.data.toList, p.length ≤ 1048576 := fun p hp => by
    have := pieces_len 46 _ p hp
    rw [← Lib.size_eq] at this
    omega
  have hall2 := pieces_len' 46 s.data.toList
  rw [← Lib.size_eq] at hall2
  have HPd := Lib.hid (show parseL s.data.toList = parseP (pieces 46 s.data.toList) from rfl)
  generalize pieces 46 s.data.toList = ps at *
  have HALL := Lib.hid hall
  have HPC := Lib.hid hpc
  clear hall hpc
  go_enter Tryz.func33, Tryz.ntmps33
  go_wp2_with fail
  refine HPC.out.mono ?_
  rintro e w1 ⟨v, rfl, hown, hb1⟩
  have R1 := R0.below hb1
  have B1 := keep_below B0 hb1
  obtain ⟨rl, r0, r1, r2, rf⟩ := id R1
  obtain ⟨g, cap, rfl, hg0, hg1⟩ := hown.form (by omega)
  rw [size_alloc] at hg0
  by_cases h3 : ps.length = 3
  · obtain ⟨p, q, r, rfl⟩ : ∃ p q r, ps = [p, q, r] := by
      match ps, h3 with
      | [p, q, r], _ => exact ⟨p, q, r, rfl⟩
    have k0 : w1.cell? ⟨g, 0, none⟩ = some (str p) := by rw [hown.cellAt 0 (by simp)]; rfl
    have k1 : w1.cell? ⟨g, 1, none⟩ = some (str q) := by rw [hown.cellAt 1 (by simp)]; rfl
    have k2 : w1.cell? ⟨g, 2, none⟩ = some (str r) := by rw [hown.cellAt 2 (by simp)]; rfl
    have hsp : (ByteArray.mk p.toArray).size ≤ 1048576 := size_le_of (HALL.out p (by simp))
    have hsq : (ByteArray.mk q.toArray).size ≤ 1048576 := size_le_of (HALL.out q (by simp))
    have hsr : (ByteArray.mk r.toArray).size ≤ 1048576 := size_le_of (HALL.out r (by simp))
    have hlen : [p, q, r].length = 3 := rfl
    rw [hlen] at *
    clear hown h3 hall2
    have V1 := C3.new w1 0 0 0
    have hw1 := B1.size
    have B1' := B1.alloc hw1 (.cells #[.int .i64 0, .int .i64 0, .int .i64 0] 37)
    go_wp2_with fail
    refine wp_loop_rounds 4 ?_
    rw [rounds_succ]
    go_wp2_with fail
    refine (part_any ⟨p.toArray⟩ _ hsp).mono ?_
    rintro e w' ⟨rfl, rfl⟩
    go_wp2_with fail
    rw [rounds_succ]
    go_wp2_with fail
    refine (part_any ⟨q.toArray⟩ _ hsq).mono ?_
    rintro e w' ⟨rfl, rfl⟩
    go_wp2_with fail
    rw [rounds_succ]
    go_wp2_with fail
    refine (part_any ⟨r.toArray⟩ _ hsr).mono ?_
    rintro e w' ⟨rfl, rfl⟩
    go_wp2_with fail
    rw [rounds_succ]
    have hz := Lib.hid (parse3_R p q r)
    generalize partR p = x at *
    generalize partR q = y at *
    generalize partR r = z at *
    have V2 := C3.new w1 x y z
    have B2 := B1.alloc hw1 (.cells #[.int .i64 x, .int .i64 y, .int .i64 z] 37)
    have R2 := R1.old (.cells #[.int .i64 x, .int .i64 y, .int .i64 z] 37)
    clear k0 k1 k2 V1 B1'
    go_wp2_with fail
    refine (goodr_any x y z _).mono ?_
    rintro e w3 ⟨rfl, hb3⟩
    have V3 := V2.below hb3
    have B3 := keep_below B2 hb3
    have R3 := R2.below hb3
    clear rl r0 r1 r2 rf
    obtain ⟨rl, r0, r1, r2, rf⟩ := id R3
    obtain ⟨vl, v0, v1, v2, vf⟩ := id V3
    cases hg : goodB x y z
    · have HG := Lib.hid hg
      clear hg
      go_wp2
      refine bodyPost_ret (v := .tuple #[V 0 0 0, .int .i64 20]) (by simp [results, Tryz.results33, go_sem, r0, r1, r2]) rfl ⟨?_, ?_⟩
      · rw [HPd.out]
        show _ = Ending.returned (PV (parse3 p q r))
        rw [hz.out, HG.out]
        rfl
      · exact ((B3.setCell (p := ⟨w.heap.size, 0, none⟩) (Nat.le_refl _) _).setCell (p := ⟨w.heap.size, 1, none⟩) (Nat.le_refl _) _).setCell (p := ⟨w.heap.size, 2, none⟩) (Nat.le_refl _) _
    · have HG := Lib.hid hg
      clear hg
      go_wp2
      refine bodyPost_ret (v := .tuple #[V x y z, .int .i64 0]) (by simp [results, Tryz.results33, go_sem, r0, r1, r2]) rfl ⟨?_, ?_⟩
      · rw [HPd.out]
        show _ = Ending.returned (PV (parse3 p q r))
        rw [hz.out, HG.out]
        rfl
      · exact ((B3.setCell (p := ⟨w.heap.size, 0, none⟩) (Nat.le_refl _) _).setCell (p := ⟨w.heap.size, 1, none⟩) (Nat.le_refl _) _).setCell (p := ⟨w.heap.size, 2, none⟩) (Nat.le_refl _) _
  · have hx : ¬ ((ps.length : Int) = 3) := by omega
    have hy : (((ps.length : Int)) != 3) = true := by rw [bne_iff_ne]; exact hx
    have hq := Lib.hid (show parseP ps = none by
      rcases ps with _ | ⟨p, _ | ⟨q, _ | ⟨r, _ | ⟨u, xs⟩⟩⟩⟩ <;> first | rfl | (simp at h3))
    clear hown
    go_wp2
    refine bodyPost_ret (v := .tuple #[V 0 0 0, .int .i64 20]) (by simp [results, Tryz.results33, go_sem, r0, r1, r2]) rfl ⟨?_, ?_⟩
    · rw [HPd.out, hq.out]
      rfl
    · exact ((B1.setCell (p := ⟨w.heap.size, 0, none⟩) (Nat.le_refl _) _).setCell (p := ⟨w.heap.size, 1, none⟩) (Nat.le_refl _) _).setCell (p := ⟨w.heap.size, 2, none⟩) (Nat.le_refl _) _

end Vs
end Go.Proofs.YtflhmoelenmomaaGreatDoor
