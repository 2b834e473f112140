/-
  The law CodeBack, for every list of instructions.
-/
import Derived.Test.YtjfchdgdgbdeeaaDoorCodeBackA
namespace Go.Proofs.YtjfchdgdgbdeeaaDoor
open Go.RowKit
namespace Cd

set_option maxHeartbeats 4000000 in
set_option maxRecDepth 100000 in
theorem backlaw_any (p : List I) (v : Value) (W : World) (hP : PS W v p) (hv : ∃ sl cap, v = .slice sl p.length cap ∧ (sl = none → cap = 0)) (hR : p.length * 32 ≤ 140737488355328) (hE : Env2 W) :
    Calls Tryd.prog 7 #[v] W fun e W' => e = .returned (.bool true) ∧ Below W.heap.size W W' := by
  have hP0 := hP
  obtain ⟨sl, cap, rfl, hn⟩ := hv
  have hnb := Lib.hid hP.nb
  go_enter Tryd.func7, Tryd.ntmps7
  go_wp2_with fail
  refine (alive_any _ hE.env).mono ?_
  rintro e w1 ⟨rfl, hb1⟩
  have hgr := great_any p _ w1 (hP0.below hb1)
  go_wp2_with fail
  refine hgr.mono ?_
  rintro e w2 ⟨b, rfl, hb2⟩
  have hB2 := hb1.trans (hb2.mono hb1.size)
  clear hgr
  cases b with
  | true =>
    go_wp2_with fail
    go_ret
    exact ⟨rfl, hB2⟩
  | false =>
    have hA2 : Below w2.heap.size w2 (w2.alloc (.cells #[] 31)) := (Below.refl _ _).alloc (Nat.le_refl _) _
    have hP2 := hP0.below (hB2.trans (hA2.mono hB2.size))
    have HR := Lib.hid hR
    have HS2 := Lib.hid (SR.of_ps hP2 hn)
    have HO2 := Lib.hid (own_empty w2)
    clear hP hP2 hn hR
    go_wp2_with (first
      | (at_builtin; refine wpList_append_sr rfl _ _ rfl w2.heap.size (.slice (some ⟨w2.heap.size, 0, none⟩) 0 0) [] rfl HO2.out _ p rfl HS2.out ?c1 ?c2 ?_))
    case c1 => have := HR.out; simp; omega
    case c2 => simp
    intro v3 w3 hown3 hgr3
    have hB3 : Below W.heap.size W w3 := ((hB2.trans (hA2.mono hB2.size)).grown hgr3 (by have := hB2.size; simp; omega) (fun g hg => by simp [Value.ownBlock] at hg; have := hB2.size; omega))
    have hM3 := PS.of_own' hown3 HR.out hnb.out
    have hP3 := hP0.below hB3
    have hE3 := hE.below hB3
    obtain ⟨sl3, cap3, rfl⟩ := own_form hown3
    have hen := encode_any p _ w3 hM3 hE3.env
    obtain ⟨σ, n, hENV, hn1, hn2⟩ := env_parts p
    rw [hENV] at hen
    clear hown3 hgr3 hA2 hENV
    go_wp2_with fail
    refine hen.mono ?_
    rintro e w4 ⟨rfl, hb4⟩
    have hB4 := hB3.trans (hb4.mono hB3.size)
    have hsm := same8_any p _ _ w4 (hM3.below hb4) (hP3.below hb4)
    clear hen
    go_wp2_with fail
    refine hsm.mono ?_
    rintro e w5 ⟨rfl, hb5⟩
    have hB5 := hB4.trans (hb5.mono hB4.size)
    have hE5 := hE.below hB5
    have hP5 := hP0.below hB5
    clear hsm hM3 hP3 hE3
    by_cases hn0 : n = 0
    · subst hn0
      obtain ⟨hc, hl, hσ⟩ := hn2 rfl
      have hdec := dec_back hc hnb.out hl
      rw [← hσ] at hdec
      have hcall := cdecode_any σ w5 hE5
      obtain ⟨hpos, hp256⟩ := check_len hc
      have HD := Lib.hid hdec
      clear hn1 hn2 hc hl hσ hdec
      go_wp2_with fail
      refine hcall.mono ?_
      rintro e w6 ⟨⟨slq, capq, he, hown6, hl6, hn6⟩, hb6⟩
      rw [HD.out] at he hown6 hl6 hn6
      dsimp only at he hown6 hl6 hn6
      subst he
      have hB6 := hB5.trans (hb6.mono hB5.size)
      have hQ6 := PS.of_own hown6 (by omega) hn6
      have hP6 := hP0.below hB6
      obtain ⟨g, cq, e, hg6, hlt6⟩ := hown6.form hpos
      cases e
      have hCE := CE.of_own hown6 (by rw [rowI_len]; exact Nat.le_refl _)
      have hsm := same8_any p _ _ w6 hQ6 hP6
      clear hcall hown6
      go_wp2_with fail
      refine hsm.mono ?_
      rintro e w7 ⟨rfl, hb7⟩
      have hB7 := hB6.trans (hb7.mono hB6.size)
      have hCE7 : CE w7 g (p.length * 3) := ⟨Nat.lt_of_lt_of_le hCE.lt hb7.size, fun j hj => by
        obtain ⟨u, hu⟩ := hCE.ex j hj
        exact ⟨u, keep_cell hb7 hu⟩, fun j => ((bcell hb7).2 _ _ hCE.lt).trans (hCE.fz j)⟩
      have hgW : W.heap.size ≤ g := Nat.le_trans hB5.size hg6
      clear hsm hQ6 hP6 hCE hb7 hb6 hg6 hlt6
      go_wp2_with fail
      go_loopw [43] (fun i wr => ∃ k : Nat, k ≤ p.length ∧ i = .int .i64 k ∧ CE wr g (p.length * 3) ∧ Below W.heap.size W wr) (fun i _ => p.length - (intOf i).toNat)
      case atStart => exact ⟨0, Nat.zero_le _, rfl, hCE7, hB7⟩
      case round =>
        obtain ⟨k, hk, rfl, hC, hB⟩ := hrel
        clear hCE7 hB7
        by_cases hlt : k < p.length
        · obtain ⟨u0, c0⟩ := hC.ex (k * 3) (by omega)
          obtain ⟨u1, c1⟩ := hC.ex (k * 3 + 1) (by omega)
          obtain ⟨u2, c2⟩ := hC.ex (k * 3 + 2) (by omega)
          have fz := hC.fz
          have HC := Lib.hid (((hC.set (k * 3) (.int .i64 0)).set (k * 3 + 1) (.int .i64 0)).set (k * 3 + 2) (.string ⟨#[]⟩))
          have HB := Lib.hid (((hB.setCell (p := ⟨g, k * 3, none⟩) hgW (.int .i64 0)).setCell (p := ⟨g, k * 3 + 1, none⟩) hgW (.int .i64 0)).setCell (p := ⟨g, k * 3 + 2, none⟩) hgW (.string ⟨#[]⟩))
          clear hC hB
          go_wp2_with fail
          go_roundw
          case rel => exact ⟨k + 1, by omega, by go_num, HC.out, HB.out⟩
          case measure => simp [intOf]; omega
        · have hEr := hE.below hB
          have hcall := cdecode_any σ wr hEr
          clear hC
          go_wp2_with fail
          refine hcall.mono ?_
          rintro e w8 ⟨⟨slq, capq, he, hown8, hl8, hn8⟩, hb8⟩
          rw [HD.out] at he hown8 hl8 hn8
          dsimp only at he hown8 hl8 hn8
          subst he
          have hB8 := hB.trans (hb8.mono hB.size)
          have hQ8 := PS.of_own hown8 (by omega) hn8
          have hsm := same8_any p _ _ w8 hQ8 (hP0.below hB8)
          clear hcall hown8
          go_wp2_with fail
          refine hsm.mono ?_
          rintro e w9 ⟨rfl, hb9⟩
          clear hsm
          go_wp2_with fail
          go_ret
          exact ⟨rfl, hB8.trans (hb9.mono hB8.size)⟩
    · have hσ := hn1 hn0
      subst hσ
      have j1 : (n == 0) = false := by rw [beq_eq_false_iff_ne]; exact hn0
      have j2 : (n != 0) = true := by rw [bne_iff_ne]; exact hn0
      clear hn0 hn1 hn2
      go_wp2_with fail
      go_ret
      exact ⟨rfl, hB5⟩
end Cd
end Go.Proofs.YtjfchdgdgbdeeaaDoor
