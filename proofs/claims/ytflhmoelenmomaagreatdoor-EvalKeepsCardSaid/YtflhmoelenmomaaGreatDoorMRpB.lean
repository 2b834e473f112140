/-
  What an expression weighs: the walk.
-/
import Derived.Test.YtflhmoelenmomaaGreatDoorMRcQ
namespace Go.Proofs.YtflhmoelenmomaaGreatDoor
open Go.RowKit
namespace Rc

theorem kid_size {k : Int} {s : ByteArray} {ks : List E} {x : E} {i : Nat} (h : ks[i]? = some x) : SizeOf.sizeOf x < SizeOf.sizeOf (E.mk k s ks) := by
  have := List.sizeOf_lt_of_mem (List.mem_of_getElem? h)
  simp only [E.mk.sizeOf_spec]
  omega
theorem weighs_at {ks : List E} {u : E} {k : Nat} {m : Int} {d : Nat} (h : ks[k]? = some u) (hm : ¬ m < 0) : weighs (ks.drop k) m d = weighs (ks.drop (k + 1)) (weigh u m d) d := by
  obtain ⟨hk, rfl⟩ := List.getElem?_eq_some_iff.1 h
  rw [List.drop_eq_getElem_cons hk, weighs, if_neg hm]
end Rc
end Go.Proofs.YtflhmoelenmomaaGreatDoor

/-
  Whether an expression can be: recipe.counted, Good.
-/
namespace Go.Proofs.YtflhmoelenmomaaGreatDoor
open Go.RowKit
namespace Rc
theorem sizeWs_mem : ∀ {l : List E} {u : E}, u ∈ l → sizeW u ≤ sizeWs l
  | [], u, h => by simp at h
  | x :: l, u, h => by
    rw [sizeWs]
    rcases List.mem_cons.1 h with rfl | h
    · omega
    · have := sizeWs_mem h; omega
theorem sizeW_kid {k : Int} {s : ByteArray} {ks : List E} {u : E} (h : u ∈ ks) : sizeW u ≤ sizeW (.mk k s ks) := by
  have := sizeWs_mem h
  rw [sizeW]
  omega
theorem counts_at {ks : List E} {u : E} {k : Nat} {m : Int} {d : Nat} (h : ks[k]? = some u) (hm : ¬ m < 0) : counts (ks.drop k) d m = counts (ks.drop (k + 1)) d (count u d m) := by
  obtain ⟨hk, rfl⟩ := List.getElem?_eq_some_iff.1 h
  rw [List.drop_eq_getElem_cons hk, counts, if_neg hm]
set_option maxHeartbeats 4000000 in
set_option maxRecDepth 100000 in
theorem counted_tt : ∀ (h : Nat) (x : E), SizeOf.sizeOf x < h → Sml x → (∀ y, y = x → sizeW y ≤ 20000) → ∀ (W : World) (S : Nat → Prop) (v : Value) (left : Int) (d : Nat), 0 ≤ left → left ≤ 4096 → d ≤ 64 → (∀ b, S b → b < W.heap.size) → RepX W S x v →
    Calls Tryz.prog 38 #[v, .int .i64 d, .int .i64 left] W fun e W' => e = .returned (.int .i64 (count x d left)) ∧ Below W.heap.size W W' := by
  intro h
  induction h with
  | zero => intro x hx; omega
  | succ h ih =>
    intro x hx hsm hwt W S v left d hl1 hl2 hd hS hr
    cases hr with
    | mk kd s ks sl cap x1 y1 z1 hcap hc hrk =>
      cases hsm with
      | mk _ _ _ hk1 hk2 hss hlen hfk =>
        have hX : Below W.heap.size W (W.alloc (.cells #[.int .i64 kd, .string s, .slice sl ks.length cap] 24)) := (Below.refl _ _).alloc (Nat.le_refl _) _
        have p0 : (W.alloc (.cells #[.int .i64 kd, .string s, .slice sl ks.length cap] 24)).cell? ⟨W.heap.size, 0, none⟩ = some (.int .i64 kd) := by go_simp
        have p1 : (W.alloc (.cells #[.int .i64 kd, .string s, .slice sl ks.length cap] 24)).cell? ⟨W.heap.size, 1, none⟩ = some (.string s) := by go_simp
        have p2 : (W.alloc (.cells #[.int .i64 kd, .string s, .slice sl ks.length cap] 24)).cell? ⟨W.heap.size, 2, none⟩ = some (.slice sl ks.length cap) := by go_simp
        have w1 : IntKind.i64.wrap (left - 1) = left - 1 := IntWalk.i64_in _ (by omega)
        have w3 : IntKind.i64.wrap ((d : Int) + 1) = ((d + 1 : Nat) : Int) := by rw [IntWalk.i64_in _ (by omega)]; omega
        have hwk : ∀ u ∈ ks, sizeW u ≤ 20000 := fun u hu => by have h1 := hwt _ rfl; have h2 := sizeW_kid (k := kd) (s := s) hu; omega
        have hs2 : s.size ≤ 20000 := by have h1 := hwt _ rfl; rw [sizeW] at h1; omega
        have HN1 := Lib.hid (show Int.ofNat ks.length = (ks.length : Int) from rfl)
        have HC := Lib.hid hc
        have HR := Lib.hid hrk
        have HS := Lib.hid hS
        have HF := Lib.hid hfk
        have HX := Lib.hid hx
        have HL := Lib.hid (And.intro hl1 hl2)
        have HW := Lib.hid hwk
        clear hc hrk hS hfk hx hk1 hk2 hl1 hl2 hwt hwk HN1 hss
        by_cases e1 : kd = 1
        · subst e1
          by_cases hn : ks.length = 0
          · have hnn := hn
            clear hnn
            have n1 : ((ks.length : Int) == 0) = true := beq_iff_eq.2 (by omega)
            have n2 : decide ((0 : Int) < (ks.length : Int)) = false := decide_eq_false (by omega)
            by_cases hdp : 64 ≤ d
            · have k1 : decide ((64 : Int) ≤ d) = true := by simp; omega
              have HE := Lib.hid (show count (.mk 1 s ks) d left = -1 by rw [count, if_pos (.inr hdp)])
              clear hdp hn
              go_enter Tryz.func38, Tryz.ntmps38
              go_wp2_with fail
              go_ret
              rw [HE.out]
              exact ⟨rfl, hX⟩
            · have k1 : decide ((64 : Int) ≤ d) = false := by simp; omega
              have HE := Lib.hid (show count (.mk 1 s ks) d left = counts (ks.drop 0) (d + 1) (left - 1) by rw [count, if_neg (by rw [not_or]; exact ⟨by unfold partOk; simp [hn], hdp⟩)]; rfl)
              clear hn
              have hdl : d + 1 ≤ 64 := by omega
              clear hdp
              go_enter Tryz.func38, Tryz.ntmps38
              go_wp2_with fail
              go_loopw [2, 8] (fun l i wr => ∃ (k : Nat) (m : Int), k ≤ ks.length ∧ i = .int .i64 k ∧ l = .int .i64 m ∧ counts (ks.drop k) (d + 1) m = count (.mk 1 s ks) d left ∧ -1 ≤ m ∧ m ≤ 4096 ∧ Below W.heap.size W wr ∧ wr.cell? ⟨W.heap.size, 2, none⟩ = some (.slice sl ks.length cap) ∧ W.heap.size + 1 ≤ wr.heap.size) (fun _ i _ => ks.length - (intOf i).toNat)
              case atStart => exact ⟨0, _, Nat.zero_le _, rfl, rfl, HE.out.symm, by have := HL.out; omega, by have := HL.out; omega, hX, p2, by first | (rw [World.size_alloc]; exact Nat.le_refl _) | exact hZ⟩
              case round =>
                obtain ⟨k, m, hk, rfl, rfl, hm, hm1, hm2, hbW, c2, hsz⟩ := hrel
                clear p0 p1 p2 hX
                have HM := Lib.hid hm
                clear hm
                by_cases hlt : k < ks.length
                · by_cases hneg : m < 0
                  · have k2 : decide (0 ≤ m) = false := by simp; omega
                    have HN := Lib.hid hneg
                    clear hneg hm1 hm2
                    go_wp2_with fail
                    go_ret
                    rw [← HM.out, counts_neg HN.out]
                    exact ⟨rfl, hbW⟩
                  · have k2 : decide (0 ≤ m) = true := by simp; omega
                    obtain ⟨u, hu⟩ : ∃ u, ks[k]? = some u := ⟨ks[k]'(hlt), List.getElem?_eq_getElem (hlt)⟩
                    obtain ⟨b, a, rfl, hbl, h1, h2, h3⟩ := HC.out k u hu
                    have hsame : ∀ b o, b < W.heap.size → wr.cell? ⟨b, o, none⟩ = W.cell? ⟨b, o, none⟩ := fun b o hb => hbW.cell (p := ⟨b, o, none⟩) (by show b < _; omega)
                    have g1 := (hsame b _ (HS.out b hbl)).trans h1
                    have g2 := (hsame b _ (HS.out b hbl)).trans h2
                    have g3 := (hsame b _ (HS.out b hbl)).trans h3
                    have hkw : IntKind.i64.wrap ((k : Int) + 1) = (k : Int) + 1 := IntWalk.i64_in _ (by omega)
                    have hu2 := List.mem_of_getElem? hu
                    have hk0 := ih u (by have := kid_size (k := 1) (s := s) hu; have := HX.out; omega) (HF.out u hu2) (fun y hy => by rw [hy]; exact HW.out u hu2) wr S _ m (d + 1) (by omega) hm2 (by omega) (fun b hb => Nat.lt_of_lt_of_le (HS.out b hb) hbW.size) ((HR.out k u hu).same fun b o hb => hsame b o (HS.out b hb))
                    have HN := Lib.hid (counts_at (d := d + 1) hu hneg)
                    have HG := Lib.hid (count_le u (d + 1) m (by omega))
                    have HM2 := Lib.hid hm2
                    clear hsame h1 h2 h3 hu hu2 hneg hm1 hm2
                    go_wp2_with fail
                    refine hk0.mono ?_
                    rintro e w2 ⟨rfl, hB⟩
                    replace c2 := (hB.cell (p := ⟨W.heap.size, 2, none⟩) (by show W.heap.size < _; omega)).trans c2
                    go_wp2_with fail
                    go_roundw
                    case rel => exact ⟨k + 1, _, by omega, by go_num, rfl, HN.out.symm.trans HM.out, HG.out.1, by have := HG.out.2.1; have := HM2.out; omega, hbW.trans (hB.mono hbW.size), c2, by have := hB.size; omega⟩
                    case measure => simp [intOf]; omega
                · obtain rfl : k = ks.length := by omega
                  go_wp2_with fail
                  go_ret
                  rw [← HM.out, List.drop_eq_nil_of_le (Nat.le_refl _), counts]
                  exact ⟨rfl, hbW⟩
          · skip
            have n1 : ((ks.length : Int) == 0) = false := beq_eq_false_iff_ne.2 (by omega)
            have n2 : decide ((0 : Int) < (ks.length : Int)) = true := decide_eq_true (by omega)
            have HE := Lib.hid (show count (.mk 1 s ks) d left = -1 by rw [count, if_pos (.inl (by unfold partOk; simp [hn]))])
            clear hn
            go_enter Tryz.func38, Tryz.ntmps38
            go_wp2_with fail
            go_ret
            rw [HE.out]
            exact ⟨rfl, hX⟩
        by_cases e2 : kd = 2
        · subst e2
          by_cases hn : ks.length = 0
          · skip
            have n1 : ((ks.length : Int) == 0) = true := beq_iff_eq.2 (by omega)
            have n2 : decide ((0 : Int) < (ks.length : Int)) = false := decide_eq_false (by omega)
            have h2 := fun w => name_any s w
            by_cases hq : nameL s.data.toList = true
            · rw [hq] at h2
              by_cases hdp : 64 ≤ d
              · have k1 : decide ((64 : Int) ≤ d) = true := by simp; omega
                have HE := Lib.hid (show count (.mk 2 s ks) d left = -1 by rw [count, if_pos (.inr hdp)])
                clear hdp hq hn
                go_enter Tryz.func38, Tryz.ntmps38
                go_wp2_with fail
                refine (h2 _).mono ?_
                rintro e w2 ⟨rfl, hB⟩
                replace p0 := (hB.cell (p := ⟨W.heap.size, 0, none⟩) (by simp)).trans p0
                replace p1 := (hB.cell (p := ⟨W.heap.size, 1, none⟩) (by simp)).trans p1
                replace p2 := (hB.cell (p := ⟨W.heap.size, 2, none⟩) (by simp)).trans p2
                replace hX := hX.trans (hB.mono (by simp))
                clear hB h2
                go_wp2_with fail
                go_ret
                rw [HE.out]
                exact ⟨rfl, hX⟩
              · have k1 : decide ((64 : Int) ≤ d) = false := by simp; omega
                have HE := Lib.hid (show count (.mk 2 s ks) d left = counts (ks.drop 0) (d + 1) (left - 1) by rw [count, if_neg (by rw [not_or]; exact ⟨by unfold partOk; simp [hn, hq], hdp⟩)]; rfl)
                clear hq hn
                have hdl : d + 1 ≤ 64 := by omega
                clear hdp
                go_enter Tryz.func38, Tryz.ntmps38
                go_wp2_with fail
                refine (h2 _).mono ?_
                rintro e w2 ⟨rfl, hB⟩
                replace p0 := (hB.cell (p := ⟨W.heap.size, 0, none⟩) (by simp)).trans p0
                replace p1 := (hB.cell (p := ⟨W.heap.size, 1, none⟩) (by simp)).trans p1
                replace p2 := (hB.cell (p := ⟨W.heap.size, 2, none⟩) (by simp)).trans p2
                replace hX := hX.trans (hB.mono (by simp))
                have hZ : W.heap.size + 1 ≤ w2.heap.size := by have := hB.size; simpa using this
                clear hB h2
                go_wp2_with fail
                go_loopw [2, 8] (fun l i wr => ∃ (k : Nat) (m : Int), k ≤ ks.length ∧ i = .int .i64 k ∧ l = .int .i64 m ∧ counts (ks.drop k) (d + 1) m = count (.mk 2 s ks) d left ∧ -1 ≤ m ∧ m ≤ 4096 ∧ Below W.heap.size W wr ∧ wr.cell? ⟨W.heap.size, 2, none⟩ = some (.slice sl ks.length cap) ∧ W.heap.size + 1 ≤ wr.heap.size) (fun _ i _ => ks.length - (intOf i).toNat)
                case atStart => exact ⟨0, _, Nat.zero_le _, rfl, rfl, HE.out.symm, by have := HL.out; omega, by have := HL.out; omega, hX, p2, by first | (rw [World.size_alloc]; exact Nat.le_refl _) | exact hZ⟩
                case round =>
                  obtain ⟨k, m, hk, rfl, rfl, hm, hm1, hm2, hbW, c2, hsz⟩ := hrel
                  clear p0 p1 p2 hX
                  have HM := Lib.hid hm
                  clear hm
                  by_cases hlt : k < ks.length
                  · by_cases hneg : m < 0
                    · have k2 : decide (0 ≤ m) = false := by simp; omega
                      have HN := Lib.hid hneg
                      clear hneg hm1 hm2
                      go_wp2_with fail
                      go_ret
                      rw [← HM.out, counts_neg HN.out]
                      exact ⟨rfl, hbW⟩
                    · have k2 : decide (0 ≤ m) = true := by simp; omega
                      obtain ⟨u, hu⟩ : ∃ u, ks[k]? = some u := ⟨ks[k]'(hlt), List.getElem?_eq_getElem (hlt)⟩
                      obtain ⟨b, a, rfl, hbl, h1, h2, h3⟩ := HC.out k u hu
                      have hsame : ∀ b o, b < W.heap.size → wr.cell? ⟨b, o, none⟩ = W.cell? ⟨b, o, none⟩ := fun b o hb => hbW.cell (p := ⟨b, o, none⟩) (by show b < _; omega)
                      have g1 := (hsame b _ (HS.out b hbl)).trans h1
                      have g2 := (hsame b _ (HS.out b hbl)).trans h2
                      have g3 := (hsame b _ (HS.out b hbl)).trans h3
                      have hkw : IntKind.i64.wrap ((k : Int) + 1) = (k : Int) + 1 := IntWalk.i64_in _ (by omega)
                      have hu2 := List.mem_of_getElem? hu
                      have hk0 := ih u (by have := kid_size (k := 2) (s := s) hu; have := HX.out; omega) (HF.out u hu2) (fun y hy => by rw [hy]; exact HW.out u hu2) wr S _ m (d + 1) (by omega) hm2 (by omega) (fun b hb => Nat.lt_of_lt_of_le (HS.out b hb) hbW.size) ((HR.out k u hu).same fun b o hb => hsame b o (HS.out b hb))
                      have HN := Lib.hid (counts_at (d := d + 1) hu hneg)
                      have HG := Lib.hid (count_le u (d + 1) m (by omega))
                      have HM2 := Lib.hid hm2
                      clear hsame h1 h2 h3 hu hu2 hneg hm1 hm2
                      go_wp2_with fail
                      refine hk0.mono ?_
                      rintro e w2 ⟨rfl, hB⟩
                      replace c2 := (hB.cell (p := ⟨W.heap.size, 2, none⟩) (by show W.heap.size < _; omega)).trans c2
                      go_wp2_with fail
                      go_roundw
                      case rel => exact ⟨k + 1, _, by omega, by go_num, rfl, HN.out.symm.trans HM.out, HG.out.1, by have := HG.out.2.1; have := HM2.out; omega, hbW.trans (hB.mono hbW.size), c2, by have := hB.size; omega⟩
                      case measure => simp [intOf]; omega
                  · obtain rfl : k = ks.length := by omega
                    go_wp2_with fail
                    go_ret
                    rw [← HM.out, List.drop_eq_nil_of_le (Nat.le_refl _), counts]
                    exact ⟨rfl, hbW⟩
            · rw [Bool.not_eq_true] at hq
              rw [hq] at h2
              have HE := Lib.hid (show count (.mk 2 s ks) d left = -1 by rw [count, if_pos (.inl (by unfold partOk; simp [hq]))])
              clear hq hn
              go_enter Tryz.func38, Tryz.ntmps38
              go_wp2_with fail
              refine (h2 _).mono ?_
              rintro e w2 ⟨rfl, hB⟩
              replace p0 := (hB.cell (p := ⟨W.heap.size, 0, none⟩) (by simp)).trans p0
              replace p1 := (hB.cell (p := ⟨W.heap.size, 1, none⟩) (by simp)).trans p1
              replace p2 := (hB.cell (p := ⟨W.heap.size, 2, none⟩) (by simp)).trans p2
              replace hX := hX.trans (hB.mono (by simp))
              clear hB h2
              go_wp2_with fail
              go_ret
              rw [HE.out]
              exact ⟨rfl, hX⟩
          · skip
            have n1 : ((ks.length : Int) == 0) = false := beq_eq_false_iff_ne.2 (by omega)
            have n2 : decide ((0 : Int) < (ks.length : Int)) = true := decide_eq_true (by omega)
            have HE := Lib.hid (show count (.mk 2 s ks) d left = -1 by rw [count, if_pos (.inl (by unfold partOk; simp [hn]))])
            clear hn
            go_enter Tryz.func38, Tryz.ntmps38
            go_wp2_with fail
            go_ret
            rw [HE.out]
            exact ⟨rfl, hX⟩
        by_cases e3 : kd = 3
        · subst e3
          by_cases hn : 2 ≤ ks.length
          · skip
            have n1 : decide ((2 : Int) ≤ (ks.length : Int)) = true := decide_eq_true (by omega)
            have n2 : decide ((ks.length : Int) < 2) = false := decide_eq_false (by omega)
            by_cases he : s = ⟨#[]⟩
            · have h1 := Sx.emp_tt he
              have he2 : s.data.toList = [] := by rw [he]
              by_cases hdp : 64 ≤ d
              · have k1 : decide ((64 : Int) ≤ d) = true := by simp; omega
                have HE := Lib.hid (show count (.mk 3 s ks) d left = -1 by rw [count, if_pos (.inr hdp)])
                clear hdp hn he he2
                go_enter Tryz.func38, Tryz.ntmps38
                go_wp2_with fail
                go_ret
                rw [HE.out]
                exact ⟨rfl, hX⟩
              · have k1 : decide ((64 : Int) ≤ d) = false := by simp; omega
                have HE := Lib.hid (show count (.mk 3 s ks) d left = counts (ks.drop 0) (d + 1) (left - 1) by rw [count, if_neg (by rw [not_or]; exact ⟨by unfold partOk; simp [hn, he2], hdp⟩)]; rfl)
                clear hn he he2
                have hdl : d + 1 ≤ 64 := by omega
                clear hdp
                go_enter Tryz.func38, Tryz.ntmps38
                go_wp2_with fail
                go_loopw [2, 8] (fun l i wr => ∃ (k : Nat) (m : Int), k ≤ ks.length ∧ i = .int .i64 k ∧ l = .int .i64 m ∧ counts (ks.drop k) (d + 1) m = count (.mk 3 s ks) d left ∧ -1 ≤ m ∧ m ≤ 4096 ∧ Below W.heap.size W wr ∧ wr.cell? ⟨W.heap.size, 2, none⟩ = some (.slice sl ks.length cap) ∧ W.heap.size + 1 ≤ wr.heap.size) (fun _ i _ => ks.length - (intOf i).toNat)
                case atStart => exact ⟨0, _, Nat.zero_le _, rfl, rfl, HE.out.symm, by have := HL.out; omega, by have := HL.out; omega, hX, p2, by first | (rw [World.size_alloc]; exact Nat.le_refl _) | exact hZ⟩
                case round =>
                  obtain ⟨k, m, hk, rfl, rfl, hm, hm1, hm2, hbW, c2, hsz⟩ := hrel
                  clear p0 p1 p2 hX
                  have HM := Lib.hid hm
                  clear hm
                  by_cases hlt : k < ks.length
                  · by_cases hneg : m < 0
                    · have k2 : decide (0 ≤ m) = false := by simp; omega
                      have HN := Lib.hid hneg
                      clear hneg hm1 hm2
                      go_wp2_with fail
                      go_ret
                      rw [← HM.out, counts_neg HN.out]
                      exact ⟨rfl, hbW⟩
                    · have k2 : decide (0 ≤ m) = true := by simp; omega
                      obtain ⟨u, hu⟩ : ∃ u, ks[k]? = some u := ⟨ks[k]'(hlt), List.getElem?_eq_getElem (hlt)⟩
                      obtain ⟨b, a, rfl, hbl, h1, h2, h3⟩ := HC.out k u hu
                      have hsame : ∀ b o, b < W.heap.size → wr.cell? ⟨b, o, none⟩ = W.cell? ⟨b, o, none⟩ := fun b o hb => hbW.cell (p := ⟨b, o, none⟩) (by show b < _; omega)
                      have g1 := (hsame b _ (HS.out b hbl)).trans h1
                      have g2 := (hsame b _ (HS.out b hbl)).trans h2
                      have g3 := (hsame b _ (HS.out b hbl)).trans h3
                      have hkw : IntKind.i64.wrap ((k : Int) + 1) = (k : Int) + 1 := IntWalk.i64_in _ (by omega)
                      have hu2 := List.mem_of_getElem? hu
                      have hk0 := ih u (by have := kid_size (k := 3) (s := s) hu; have := HX.out; omega) (HF.out u hu2) (fun y hy => by rw [hy]; exact HW.out u hu2) wr S _ m (d + 1) (by omega) hm2 (by omega) (fun b hb => Nat.lt_of_lt_of_le (HS.out b hb) hbW.size) ((HR.out k u hu).same fun b o hb => hsame b o (HS.out b hb))
                      have HN := Lib.hid (counts_at (d := d + 1) hu hneg)
                      have HG := Lib.hid (count_le u (d + 1) m (by omega))
                      have HM2 := Lib.hid hm2
                      clear hsame h1 h2 h3 hu hu2 hneg hm1 hm2
                      go_wp2_with fail
                      refine hk0.mono ?_
                      rintro e w2 ⟨rfl, hB⟩
                      replace c2 := (hB.cell (p := ⟨W.heap.size, 2, none⟩) (by show W.heap.size < _; omega)).trans c2
                      go_wp2_with fail
                      go_roundw
                      case rel => exact ⟨k + 1, _, by omega, by go_num, rfl, HN.out.symm.trans HM.out, HG.out.1, by have := HG.out.2.1; have := HM2.out; omega, hbW.trans (hB.mono hbW.size), c2, by have := hB.size; omega⟩
                      case measure => simp [intOf]; omega
                  · obtain rfl : k = ks.length := by omega
                    go_wp2_with fail
                    go_ret
                    rw [← HM.out, List.drop_eq_nil_of_le (Nat.le_refl _), counts]
                    exact ⟨rfl, hbW⟩
            · have h1 := Sx.emp_ff he
              have he2 : s.data.toList.isEmpty = false := by rw [← ByteArray.toList_eq]; exact h1
              have HE := Lib.hid (show count (.mk 3 s ks) d left = -1 by rw [count, if_pos (.inl (by unfold partOk; simp [he2]))])
              clear he he2 hn
              go_enter Tryz.func38, Tryz.ntmps38
              go_wp2_with fail
              go_ret
              rw [HE.out]
              exact ⟨rfl, hX⟩
          · skip
            have n1 : decide ((2 : Int) ≤ (ks.length : Int)) = false := decide_eq_false (by omega)
            have n2 : decide ((ks.length : Int) < 2) = true := decide_eq_true (by omega)
            have HE := Lib.hid (show count (.mk 3 s ks) d left = -1 by rw [count, if_pos (.inl (by unfold partOk; simp [hn]))])
            clear hn
            go_enter Tryz.func38, Tryz.ntmps38
            go_wp2_with fail
            go_ret
            rw [HE.out]
            exact ⟨rfl, hX⟩
        by_cases e4 : kd = 4
        · subst e4
          by_cases hn : ks.length = 4
          · skip
            have n1 : ((ks.length : Int) == 4) = true := beq_iff_eq.2 (by omega)
            by_cases he : s = ⟨#[]⟩
            · have h1 := Sx.emp_tt he
              have he2 : s.data.toList = [] := by rw [he]
              by_cases hdp : 64 ≤ d
              · have k1 : decide ((64 : Int) ≤ d) = true := by simp; omega
                have HE := Lib.hid (show count (.mk 4 s ks) d left = -1 by rw [count, if_pos (.inr hdp)])
                clear hdp hn he he2
                go_enter Tryz.func38, Tryz.ntmps38
                go_wp2_with fail
                go_ret
                rw [HE.out]
                exact ⟨rfl, hX⟩
              · have k1 : decide ((64 : Int) ≤ d) = false := by simp; omega
                have HE := Lib.hid (show count (.mk 4 s ks) d left = counts (ks.drop 0) (d + 1) (left - 1) by rw [count, if_neg (by rw [not_or]; exact ⟨by unfold partOk; simp [hn, he2], hdp⟩)]; rfl)
                clear hn he he2
                have hdl : d + 1 ≤ 64 := by omega
                clear hdp
                go_enter Tryz.func38, Tryz.ntmps38
                go_wp2_with fail
                go_loopw [2, 8] (fun l i wr => ∃ (k : Nat) (m : Int), k ≤ ks.length ∧ i = .int .i64 k ∧ l = .int .i64 m ∧ counts (ks.drop k) (d + 1) m = count (.mk 4 s ks) d left ∧ -1 ≤ m ∧ m ≤ 4096 ∧ Below W.heap.size W wr ∧ wr.cell? ⟨W.heap.size, 2, none⟩ = some (.slice sl ks.length cap) ∧ W.heap.size + 1 ≤ wr.heap.size) (fun _ i _ => ks.length - (intOf i).toNat)
                case atStart => exact ⟨0, _, Nat.zero_le _, rfl, rfl, HE.out.symm, by have := HL.out; omega, by have := HL.out; omega, hX, p2, by first | (rw [World.size_alloc]; exact Nat.le_refl _) | exact hZ⟩
                case round =>
                  obtain ⟨k, m, hk, rfl, rfl, hm, hm1, hm2, hbW, c2, hsz⟩ := hrel
                  clear p0 p1 p2 hX
                  have HM := Lib.hid hm
                  clear hm
                  by_cases hlt : k < ks.length
                  · by_cases hneg : m < 0
                    · have k2 : decide (0 ≤ m) = false := by simp; omega
                      have HN := Lib.hid hneg
                      clear hneg hm1 hm2
                      go_wp2_with fail
                      go_ret
                      rw [← HM.out, counts_neg HN.out]
                      exact ⟨rfl, hbW⟩
                    · have k2 : decide (0 ≤ m) = true := by simp; omega
                      obtain ⟨u, hu⟩ : ∃ u, ks[k]? = some u := ⟨ks[k]'(hlt), List.getElem?_eq_getElem (hlt)⟩
                      obtain ⟨b, a, rfl, hbl, h1, h2, h3⟩ := HC.out k u hu
                      have hsame : ∀ b o, b < W.heap.size → wr.cell? ⟨b, o, none⟩ = W.cell? ⟨b, o, none⟩ := fun b o hb => hbW.cell (p := ⟨b, o, none⟩) (by show b < _; omega)
                      have g1 := (hsame b _ (HS.out b hbl)).trans h1
                      have g2 := (hsame b _ (HS.out b hbl)).trans h2
                      have g3 := (hsame b _ (HS.out b hbl)).trans h3
                      have hkw : IntKind.i64.wrap ((k : Int) + 1) = (k : Int) + 1 := IntWalk.i64_in _ (by omega)
                      have hu2 := List.mem_of_getElem? hu
                      have hk0 := ih u (by have := kid_size (k := 4) (s := s) hu; have := HX.out; omega) (HF.out u hu2) (fun y hy => by rw [hy]; exact HW.out u hu2) wr S _ m (d + 1) (by omega) hm2 (by omega) (fun b hb => Nat.lt_of_lt_of_le (HS.out b hb) hbW.size) ((HR.out k u hu).same fun b o hb => hsame b o (HS.out b hb))
                      have HN := Lib.hid (counts_at (d := d + 1) hu hneg)
                      have HG := Lib.hid (count_le u (d + 1) m (by omega))
                      have HM2 := Lib.hid hm2
                      clear hsame h1 h2 h3 hu hu2 hneg hm1 hm2
                      go_wp2_with fail
                      refine hk0.mono ?_
                      rintro e w2 ⟨rfl, hB⟩
                      replace c2 := (hB.cell (p := ⟨W.heap.size, 2, none⟩) (by show W.heap.size < _; omega)).trans c2
                      go_wp2_with fail
                      go_roundw
                      case rel => exact ⟨k + 1, _, by omega, by go_num, rfl, HN.out.symm.trans HM.out, HG.out.1, by have := HG.out.2.1; have := HM2.out; omega, hbW.trans (hB.mono hbW.size), c2, by have := hB.size; omega⟩
                      case measure => simp [intOf]; omega
                  · obtain rfl : k = ks.length := by omega
                    go_wp2_with fail
                    go_ret
                    rw [← HM.out, List.drop_eq_nil_of_le (Nat.le_refl _), counts]
                    exact ⟨rfl, hbW⟩
            · have h1 := Sx.emp_ff he
              have he2 : s.data.toList.isEmpty = false := by rw [← ByteArray.toList_eq]; exact h1
              have HE := Lib.hid (show count (.mk 4 s ks) d left = -1 by rw [count, if_pos (.inl (by unfold partOk; simp [he2]))])
              clear he he2 hn
              go_enter Tryz.func38, Tryz.ntmps38
              go_wp2_with fail
              go_ret
              rw [HE.out]
              exact ⟨rfl, hX⟩
          · skip
            have n1 : ((ks.length : Int) == 4) = false := beq_eq_false_iff_ne.2 (by omega)
            have HE := Lib.hid (show count (.mk 4 s ks) d left = -1 by rw [count, if_pos (.inl (by unfold partOk; simp [hn]))])
            clear hn
            go_enter Tryz.func38, Tryz.ntmps38
            go_wp2_with fail
            go_ret
            rw [HE.out]
            exact ⟨rfl, hX⟩
        by_cases e5 : kd = 5
        · subst e5
          by_cases hn : ks.length = 2
          · skip
            have n1 : ((ks.length : Int) == 2) = true := beq_iff_eq.2 (by omega)
            have h2 := fun w => name_any s w
            by_cases hq : nameL s.data.toList = true
            · rw [hq] at h2
              by_cases hdp : 64 ≤ d
              · have k1 : decide ((64 : Int) ≤ d) = true := by simp; omega
                have HE := Lib.hid (show count (.mk 5 s ks) d left = -1 by rw [count, if_pos (.inr hdp)])
                clear hdp hq hn
                go_enter Tryz.func38, Tryz.ntmps38
                go_wp2_with fail
                refine (h2 _).mono ?_
                rintro e w2 ⟨rfl, hB⟩
                replace p0 := (hB.cell (p := ⟨W.heap.size, 0, none⟩) (by simp)).trans p0
                replace p1 := (hB.cell (p := ⟨W.heap.size, 1, none⟩) (by simp)).trans p1
                replace p2 := (hB.cell (p := ⟨W.heap.size, 2, none⟩) (by simp)).trans p2
                replace hX := hX.trans (hB.mono (by simp))
                clear hB h2
                go_wp2_with fail
                go_ret
                rw [HE.out]
                exact ⟨rfl, hX⟩
              · have k1 : decide ((64 : Int) ≤ d) = false := by simp; omega
                have HE := Lib.hid (show count (.mk 5 s ks) d left = counts (ks.drop 0) (d + 1) (left - 1) by rw [count, if_neg (by rw [not_or]; exact ⟨by unfold partOk; simp [hn, hq], hdp⟩)]; rfl)
                clear hq hn
                have hdl : d + 1 ≤ 64 := by omega
                clear hdp
                go_enter Tryz.func38, Tryz.ntmps38
                go_wp2_with fail
                refine (h2 _).mono ?_
                rintro e w2 ⟨rfl, hB⟩
                replace p0 := (hB.cell (p := ⟨W.heap.size, 0, none⟩) (by simp)).trans p0
                replace p1 := (hB.cell (p := ⟨W.heap.size, 1, none⟩) (by simp)).trans p1
                replace p2 := (hB.cell (p := ⟨W.heap.size, 2, none⟩) (by simp)).trans p2
                replace hX := hX.trans (hB.mono (by simp))
                have hZ : W.heap.size + 1 ≤ w2.heap.size := by have := hB.size; simpa using this
                clear hB h2
                go_wp2_with fail
                go_loopw [2, 8] (fun l i wr => ∃ (k : Nat) (m : Int), k ≤ ks.length ∧ i = .int .i64 k ∧ l = .int .i64 m ∧ counts (ks.drop k) (d + 1) m = count (.mk 5 s ks) d left ∧ -1 ≤ m ∧ m ≤ 4096 ∧ Below W.heap.size W wr ∧ wr.cell? ⟨W.heap.size, 2, none⟩ = some (.slice sl ks.length cap) ∧ W.heap.size + 1 ≤ wr.heap.size) (fun _ i _ => ks.length - (intOf i).toNat)
                case atStart => exact ⟨0, _, Nat.zero_le _, rfl, rfl, HE.out.symm, by have := HL.out; omega, by have := HL.out; omega, hX, p2, by first | (rw [World.size_alloc]; exact Nat.le_refl _) | exact hZ⟩
                case round =>
                  obtain ⟨k, m, hk, rfl, rfl, hm, hm1, hm2, hbW, c2, hsz⟩ := hrel
                  clear p0 p1 p2 hX
                  have HM := Lib.hid hm
                  clear hm
                  by_cases hlt : k < ks.length
                  · by_cases hneg : m < 0
                    · have k2 : decide (0 ≤ m) = false := by simp; omega
                      have HN := Lib.hid hneg
                      clear hneg hm1 hm2
                      go_wp2_with fail
                      go_ret
                      rw [← HM.out, counts_neg HN.out]
                      exact ⟨rfl, hbW⟩
                    · have k2 : decide (0 ≤ m) = true := by simp; omega
                      obtain ⟨u, hu⟩ : ∃ u, ks[k]? = some u := ⟨ks[k]'(hlt), List.getElem?_eq_getElem (hlt)⟩
                      obtain ⟨b, a, rfl, hbl, h1, h2, h3⟩ := HC.out k u hu
                      have hsame : ∀ b o, b < W.heap.size → wr.cell? ⟨b, o, none⟩ = W.cell? ⟨b, o, none⟩ := fun b o hb => hbW.cell (p := ⟨b, o, none⟩) (by show b < _; omega)
                      have g1 := (hsame b _ (HS.out b hbl)).trans h1
                      have g2 := (hsame b _ (HS.out b hbl)).trans h2
                      have g3 := (hsame b _ (HS.out b hbl)).trans h3
                      have hkw : IntKind.i64.wrap ((k : Int) + 1) = (k : Int) + 1 := IntWalk.i64_in _ (by omega)
                      have hu2 := List.mem_of_getElem? hu
                      have hk0 := ih u (by have := kid_size (k := 5) (s := s) hu; have := HX.out; omega) (HF.out u hu2) (fun y hy => by rw [hy]; exact HW.out u hu2) wr S _ m (d + 1) (by omega) hm2 (by omega) (fun b hb => Nat.lt_of_lt_of_le (HS.out b hb) hbW.size) ((HR.out k u hu).same fun b o hb => hsame b o (HS.out b hb))
                      have HN := Lib.hid (counts_at (d := d + 1) hu hneg)
                      have HG := Lib.hid (count_le u (d + 1) m (by omega))
                      have HM2 := Lib.hid hm2
                      clear hsame h1 h2 h3 hu hu2 hneg hm1 hm2
                      go_wp2_with fail
                      refine hk0.mono ?_
                      rintro e w2 ⟨rfl, hB⟩
                      replace c2 := (hB.cell (p := ⟨W.heap.size, 2, none⟩) (by show W.heap.size < _; omega)).trans c2
                      go_wp2_with fail
                      go_roundw
                      case rel => exact ⟨k + 1, _, by omega, by go_num, rfl, HN.out.symm.trans HM.out, HG.out.1, by have := HG.out.2.1; have := HM2.out; omega, hbW.trans (hB.mono hbW.size), c2, by have := hB.size; omega⟩
                      case measure => simp [intOf]; omega
                  · obtain rfl : k = ks.length := by omega
                    go_wp2_with fail
                    go_ret
                    rw [← HM.out, List.drop_eq_nil_of_le (Nat.le_refl _), counts]
                    exact ⟨rfl, hbW⟩
            · rw [Bool.not_eq_true] at hq
              rw [hq] at h2
              have HE := Lib.hid (show count (.mk 5 s ks) d left = -1 by rw [count, if_pos (.inl (by unfold partOk; simp [hq]))])
              clear hq hn
              go_enter Tryz.func38, Tryz.ntmps38
              go_wp2_with fail
              refine (h2 _).mono ?_
              rintro e w2 ⟨rfl, hB⟩
              replace p0 := (hB.cell (p := ⟨W.heap.size, 0, none⟩) (by simp)).trans p0
              replace p1 := (hB.cell (p := ⟨W.heap.size, 1, none⟩) (by simp)).trans p1
              replace p2 := (hB.cell (p := ⟨W.heap.size, 2, none⟩) (by simp)).trans p2
              replace hX := hX.trans (hB.mono (by simp))
              clear hB h2
              go_wp2_with fail
              go_ret
              rw [HE.out]
              exact ⟨rfl, hX⟩
          · skip
            have n1 : ((ks.length : Int) == 2) = false := beq_eq_false_iff_ne.2 (by omega)
            have HE := Lib.hid (show count (.mk 5 s ks) d left = -1 by rw [count, if_pos (.inl (by unfold partOk; simp [hn]))])
            clear hn
            go_enter Tryz.func38, Tryz.ntmps38
            go_wp2_with fail
            go_ret
            rw [HE.out]
            exact ⟨rfl, hX⟩
        have f1 : (kd == 1) = false := by simpa using e1
        have f2 : (kd == 2) = false := by simpa using e2
        have f3 : (kd == 3) = false := by simpa using e3
        have f4 : (kd == 4) = false := by simpa using e4
        have f5 : (kd == 5) = false := by simpa using e5
        have HE := Lib.hid (show count (.mk kd s ks) d left = -1 by rw [count, if_pos (.inl (by unfold partOk; simp [e1, e2, e3, e4, e5]))])
        clear e1 e2 e3 e4 e5
        go_enter Tryz.func38, Tryz.ntmps38
        go_wp2_with fail
        go_ret
        rw [HE.out]
        exact ⟨rfl, hX⟩
set_option maxHeartbeats 1000000 in
set_option maxRecDepth 100000 in
theorem good_any {x : E} (hx : Sml x) (hw : sizeW x ≤ 20000) (W : World) (S : Nat → Prop) (v : Value) (hS : ∀ b, S b → b < W.heap.size) (hr : RepX W S x v) :
    Calls Tryz.prog 17 #[v] W fun e W' => e = .returned (.bool (goodE x)) ∧ Below W.heap.size W W' := by
  obtain ⟨kd, s, sl, n, cap, rfl⟩ := hr.vals
  have hX : Below W.heap.size W (W.alloc (.cells #[.int .i64 kd, .string s, .slice sl n cap] 24)) := (Below.refl _ _).alloc (Nat.le_refl _) _
  have h1 := counted_tt _ x (Nat.lt_succ_self _) hx (fun y hy => by rw [hy]; exact hw) (W.alloc (.cells #[.int .i64 kd, .string s, .slice sl n cap] 24)) S _ 4096 0 (by decide) (by decide) (by decide) (fun b hb => Nat.lt_of_lt_of_le (hS b hb) hX.size) (hr.move fun b hb => ⟨hb, hX.block b (hS b hb)⟩)
  have p0 : (W.alloc (.cells #[.int .i64 kd, .string s, .slice sl n cap] 24)).cell? ⟨W.heap.size, 0, none⟩ = some (.int .i64 kd) := by go_simp
  have p1 : (W.alloc (.cells #[.int .i64 kd, .string s, .slice sl n cap] 24)).cell? ⟨W.heap.size, 1, none⟩ = some (.string s) := by go_simp
  have p2 : (W.alloc (.cells #[.int .i64 kd, .string s, .slice sl n cap] 24)).cell? ⟨W.heap.size, 2, none⟩ = some (.slice sl n cap) := by go_simp
  have HS := Lib.hid hS
  have HR := Lib.hid hr
  clear hS hr
  go_enter Tryz.func17, Tryz.ntmps17
  go_wp2_with fail
  refine h1.mono ?_
  rintro e w2 ⟨rfl, hB⟩
  go_wp2_with fail
  go_ret
  exact ⟨rfl, hX.trans (hB.mono hX.size)⟩
end Rc
end Go.Proofs.YtflhmoelenmomaaGreatDoor
