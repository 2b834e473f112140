/-
  The law AsmBack, for every list of instructions.
-/
import Derived.Test.YtipcockcndnipaaGreatDoorMAmP
namespace Go.Proofs.YtipcockcndnipaaGreatDoor
open Go.RowKit
namespace Aw
open As

set_option maxHeartbeats 4000000 in
set_option maxRecDepth 100000 in
theorem backlaw_any (p : List Cd.I) (v : Value) (W : World) (hP : Cd.PS W v p) (hv : ∃ sl cap, v = .slice sl p.length cap ∧ (sl = none → cap = 0)) (hR : p.length * 32 ≤ 140737488355328) (hE : Env W) :
    Calls Tryz.prog 4 #[v] W fun e W' => e = .returned (.bool true) ∧ Below W.heap.size W W' := by
  have hal := alive_any W hE
  have HP := Lib.hid hP
  have HNB := Lib.hid hP.nb
  obtain ⟨sl, cap, rfl, hn⟩ := hv
  have HSR := Lib.hid (SR.of_ps hP hn)
  have HR := Lib.hid hR
  clear hP hn hR
  go_enter Tryz.func4, Tryz.ntmps4
  go_wp2_with (first
    | (go_at_call 8; refine hal.mono ?_; clear hal; rintro e w1 ⟨rfl, hb1⟩; have hg := great_any p _ w1 (HP.out.below hb1)))
  refine hg.mono ?_
  clear hg
  rintro e w2 ⟨b, rfl, hb2⟩
  have hB2 := hb1.trans (hb2.mono hb1.size)
  clear hb1 hb2
  cases b with
  | true =>
    go_wp2_with fail
    go_ret
    exact ⟨rfl, hB2⟩
  | false =>
    have hA2 : Below w2.heap.size w2 (w2.alloc (.cells #[] 38)) := (Below.refl _ _).alloc (Nat.le_refl _) _
    have HS2 := Lib.hid (HSR.out.below (hB2.trans (hA2.mono hB2.size)))
    have HO2 := Lib.hid (own_empty w2)
    have HB2 := Lib.hid (hB2.trans (hA2.mono hB2.size))
    clear hA2
    go_wp2_with (first
      | (at_builtin; refine wpList_append_sr rfl _ _ rfl w2.heap.size (.slice (some ⟨w2.heap.size, 0, none⟩) 0 0) [] rfl HO2.out _ p rfl HS2.out (by have := HR.out; simp; omega) (by simp) ?_))
    intro v3 w3 hown3 hg3
    have hown3 : OI w3 w2.heap.size v3 p := hown3
    have hB3 : Below W.heap.size W w3 := HB2.out.grown hg3 (by have := hB2.size; simp; omega) (fun g hg => by
      have h9 : w2.heap.size = g := by simpa [Value.ownBlock, eq_comm] using hg
      have := hB2.size
      omega)
    have hM3 := ps_of' hown3 HR.out HNB.out
    obtain ⟨sl3, cap3, rfl⟩ := own_form hown3
    have HM3 := Lib.hid hM3
    have hD := disassemble_any p _ w3 hM3 (hE.below hB3)
    have hD2 := fun (w : World) (h : Below w3.heap.size w3 w) => rdisassemble_any p _ w (HP.out.below (hB3.trans (h.mono hB3.size))) (hE.below (hB3.trans (h.mono hB3.size)))
    unfold DQ at hD hD2
    clear hown3 hg3 hM3
    by_cases hc : (Cd.check p).2 = 0
    · obtain ⟨hck, hl256, hne⟩ := chk_zero hc
      have HALL := Lib.hid (right_all hc HNB.out)
      rw [hc, if_pos rfl] at hD hD2
      have HCK := Lib.hid hck
      obtain ⟨t, ht⟩ : ∃ t : ByteArray, t = ⟨(disL p).toArray⟩ := ⟨_, rfl⟩
      have HT := Lib.hid (show t.data.toList = disL p by rw [ht])
      have htt := Sx.seq_tt (a := t) (b := t) rfl
      rw [← ht] at hD hD2
      clear hc ht hck hne
      by_cases hs : 65536 < t.size
      · have hAs := fun (w : World) (hw : Below w3.heap.size w3 w) => assemble_any t w (hE.below (hB3.trans (hw.mono hB3.size)))
        unfold AQ at hAs
        rw [show asmP t.data.toList = ([], 0, 3) by unfold asmP; rw [if_pos (by rw [← Lib.size_eq]; exact hs)]] at hAs
        have j1 : (65536 : Int) < t.size := by omega
        clear hs
        go_wp2_with (first
          | (go_at_call 13; refine hD.mono ?_; clear hD; rintro e w4 ⟨rfl, hb4⟩)
          | (go_at_call 14; refine (hD2 _ hb4).mono ?_; clear hD2; rintro e w5 ⟨rfl, hb5⟩; have hb35 := hb4.trans (hb5.mono hb4.size); have hSm := same_any p _ _ w5 (HM3.out.below hb35) (HP.out.below (hB3.trans (hb35.mono hB3.size))))
          | (go_at_call 11; refine hSm.mono ?_; clear hSm; rintro e w6 ⟨rfl, hb6⟩; have hb36 := hb35.trans (hb6.mono hb35.size))
          | (go_at_call 9; refine (hAs _ hb36).mono ?_; clear hAs; rintro e w7 ⟨vq, rfl, hQ, hb7⟩))
        go_ret
        exact ⟨rfl, hB3.trans ((hb36.trans (hb7.mono hb36.size)).mono hB3.size)⟩
      · have hAs := fun (w : World) (hw : Below w3.heap.size w3 w) => assemble_any t w (hE.below (hB3.trans (hw.mono hB3.size)))
        unfold AQ at hAs
        rw [HT.out, asm_dis HCK.out hl256 HALL.out (by rw [← HT.out, ← Lib.size_eq]; omega)] at hAs
        have j1 : ¬ (65536 : Int) < t.size := by omega
        clear hs
        go_wp2_with (first
          | (go_at_call 13; refine hD.mono ?_; clear hD; rintro e w4 ⟨rfl, hb4⟩)
          | (go_at_call 14; refine (hD2 _ hb4).mono ?_; clear hD2; rintro e w5 ⟨rfl, hb5⟩; have hb35 := hb4.trans (hb5.mono hb4.size); have hSm := same_any p _ _ w5 (HM3.out.below hb35) (HP.out.below (hB3.trans (hb35.mono hB3.size))))
          | (go_at_call 9; refine (hAs _ hb36).mono ?_; clear hAs; rintro e w7 ⟨vq, rfl, hQ, hb7⟩; have hb37 := hb36.trans (hb7.mono hb36.size); have hSm2 := same_any p _ _ w7 hQ (HP.out.below (hB3.trans (hb37.mono hB3.size))); obtain ⟨slq, capq, rfl, -⟩ := hQ.form)
          | (go_at_call 11; refine hSm.mono ?_; clear hSm; rintro e w6 ⟨rfl, hb6⟩; have hb36 := hb35.trans (hb6.mono hb35.size))
          | (go_at_call 11; refine hSm2.mono ?_; clear hSm2; rintro e w8 ⟨rfl, hb8⟩))
        go_ret
        exact ⟨rfl, hB3.trans ((hb37.trans (hb8.mono hb37.size)).mono hB3.size)⟩
    · rw [if_neg hc] at hD hD2
      obtain ⟨ce, hce⟩ : ∃ ce, ce = (Cd.check p).2 := ⟨_, rfl⟩
      rw [← hce] at hc hD hD2
      have htt := Sx.seq_tt (a := (⟨#[]⟩ : ByteArray)) (b := ⟨#[]⟩) rfl
      clear hce
      go_wp2_with (first
        | (go_at_call 13; refine hD.mono ?_; clear hD; rintro e w4 ⟨rfl, hb4⟩)
        | (go_at_call 14; refine (hD2 _ hb4).mono ?_; clear hD2; rintro e w5 ⟨rfl, hb5⟩; have hb35 := hb4.trans (hb5.mono hb4.size); have hSm := same_any p _ _ w5 (HM3.out.below hb35) (HP.out.below (hB3.trans (hb35.mono hB3.size))))
        | (go_at_call 11; refine hSm.mono ?_; clear hSm; rintro e w6 ⟨rfl, hb6⟩; have hb36 := hb35.trans (hb6.mono hb35.size)))
      go_ret
      exact ⟨rfl, hB3.trans (hb36.mono hB3.size)⟩
end Aw
end Go.Proofs.YtipcockcndnipaaGreatDoor
