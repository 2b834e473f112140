/-
  Walks: the reference's paths (Good, Under, ahead).
-/
import Derived.Test.YtbefgplaaghlbaaGreatDoorTpB
import Derived.Test.YtbefgplaaghlbaaGreatDoorTrR
namespace Go.Proofs.YtbefgplaaghlbaaGreatDoor
open Go.RowKit Go.Shelf Go.Lib Go.Sort
namespace Tr

theorem own_strs {w : World} {B : Nat} {v : Value} {xs : List (List UInt8)} (h : w.ownsRow B 9 1 v xs.length (xs.map Vs.str)) : ∃ sl cap, v = .slice sl xs.length cap ∧ ∀ k x, xs[k]? = some x → ∃ g, sl = some ⟨g, 0, none⟩ ∧ g < w.heap.size ∧ w.cell? ⟨g, k, none⟩ = some (.string ⟨x.toArray⟩) := by
  rcases h.2 with ⟨rfl, hn⟩ | ⟨g, cap, cur, rfl, hb, hg, hn, hm, hs, ht⟩
  · exact ⟨none, 0, by rw [hn], fun k x hx => by have := (List.getElem?_eq_some_iff.1 hx).1; omega⟩
  · refine ⟨_, cap, rfl, fun k x hx => ⟨g, rfl, (Array.getElem?_eq_some_iff.1 hg).1, ?_⟩⟩
    have hk := (List.getElem?_eq_some_iff.1 hx).1
    have h1 : (xs.map Vs.str)[k]? = some (Vs.str x) := by rw [List.getElem?_map, hx]; rfl
    rw [← ht, List.getElem?_take_of_lt (by omega), Array.getElem?_toList] at h1
    simp [World.cell?, hg, h1, Vs.str]
set_option maxHeartbeats 1000000 in
set_option maxRecDepth 100000 in
theorem good4_any (s : ByteArray) (hs : s.size ≤ 1048576) (w : World) : Calls Tryz.prog 66 #[.string s] w fun e w' => e = .returned (.bool (pathL s.data.toList)) ∧ Below w.heap.size w w' := by
  have hsz := Lib.size_eq s
  by_cases h1 : s.size ≤ 128
  · have hp := Vs.pieces_any s 47 w hs
    have hpl : (Vs.pieces 47 s.data.toList).length ≤ 129 := by
      have := (Vs.pieces_len' 47 s.data.toList).2
      omega
    have HLN := Lib.hid (show ∀ p ∈ Vs.pieces 47 s.data.toList, p.length ≤ 128 from fun p hp => by
      have := Vs.pieces_len 47 s.data.toList p hp
      omega)
    have HP := Lib.hid (show pathL s.data.toList = (decide ((Vs.pieces 47 s.data.toList).length ≤ 8) && (Vs.pieces 47 s.data.toList).all Nm.nameL) by
      unfold pathL
      rw [decide_eq_true (by omega)]
      rfl)
    clear hsz
    generalize Vs.pieces 47 s.data.toList = xs at *
    go_enter Tryz.func66, Tryz.ntmps66
    go_wp2_with fail
    refine hp.mono ?_
    clear hp
    rintro e w1 ⟨v, rfl, hv, hb1⟩
    obtain ⟨sl, cap, rfl, hc⟩ := own_strs hv
    have HC := Lib.hid hc
    have HB1 := Lib.hid hb1
    clear hv hc hb1
    go_wp2_with fail
    go_loopw [13] (fun i wr => ∃ k : Nat, k ≤ xs.length ∧ i = .int .i64 (k : Int) ∧ (xs.take k).all Nm.nameL = true ∧ wr = w1) (fun i _ => xs.length - (RowKit.intOf i).toNat)
    case atStart => exact ⟨0, Nat.zero_le _, rfl, rfl, rfl⟩
    case round =>
      obtain ⟨k, hk, rfl, ha, rfl⟩ := hrel
      have HA := Lib.hid ha
      clear ha
      by_cases hlt : k < xs.length
      · obtain ⟨x, hx⟩ : ∃ x, xs[k]? = some x := ⟨xs[k], List.getElem?_eq_getElem hlt⟩
        obtain ⟨g, rfl, hg, c0⟩ := HC.out k x hx
        have hn := Nm.namer_any ⟨x.toArray⟩ wr (by
          have := HLN.out x (List.mem_of_getElem? hx)
          show x.toArray.size ≤ _
          simp
          omega)
        have HX := Lib.hid hx
        clear hx
        cases hc : Nm.nameL x with
        | true =>
          have HR := Lib.hid (show (xs.take (k + 1)).all Nm.nameL = true by
            rw [List.take_add_one, HX.out, List.all_append, HA.out]
            simp [hc])
          rw [show Nm.nameL (ByteArray.mk x.toArray).data.toList = true from hc] at hn
          clear hc
          go_wp2_with (go_at_call 85; with_reducible refine hn.mono ?_; clear hn; rintro e w2 ⟨he, hw⟩; subst he; subst hw)
          go_roundw
          case rel => exact ⟨k + 1, hlt, by push_cast; rfl, HR.out, trivial⟩
          case measure => simp [RowKit.intOf]; omega
        | false =>
          have HR := Lib.hid (show pathL s.data.toList = false by
            rw [HP.out, show xs.all Nm.nameL = false by
              rw [List.all_eq_false]
              exact ⟨x, List.mem_of_getElem? HX.out, by rw [hc]; decide⟩, Bool.and_false])
          rw [show Nm.nameL (ByteArray.mk x.toArray).data.toList = false from hc] at hn
          clear hc
          go_wp2_with (go_at_call 85; with_reducible refine hn.mono ?_; clear hn; rintro e w2 ⟨he, hw⟩; subst he; subst hw)
          go_ret
          rw [HR.out]
          exact ⟨rfl, HB1.out⟩
      · obtain rfl : k = xs.length := by omega
        have HR := Lib.hid (show pathL s.data.toList = decide (xs.length ≤ 8) by
          have := HA.out
          rw [List.take_length] at this
          rw [HP.out, this, Bool.and_true])
        by_cases h8 : xs.length ≤ 8
        · have h8' : (xs.length : Int) ≤ 8 := by omega
          go_wp2_with fail
          go_ret
          rw [HR.out, decide_eq_true h8]
          exact ⟨rfl, HB1.out⟩
        · have h8' : ¬ (xs.length : Int) ≤ 8 := by omega
          go_wp2_with fail
          go_ret
          rw [HR.out, decide_eq_false h8]
          exact ⟨rfl, HB1.out⟩
  · have HR := Lib.hid (show pathL s.data.toList = false by
      unfold pathL
      rw [decide_eq_false (by omega)]
      rfl)
    clear hsz
    go_enter Tryz.func66, Tryz.ntmps66
    go_wp2_with fail
    go_ret
    rw [HR.out]
    exact ⟨rfl, Below.refl _ _⟩
theorem path_ne {p : List UInt8} (h : pathL p = true) : p ≠ [] := by
  rintro rfl
  revert h
  decide +kernel
theorem ahead_b (p q : ByteArray) : aheadL p.data.toList q.data.toList = (decide (p.size < q.size) && (decide (q.data.toList.take p.size = p.data.toList) && decide (q.data.toList[p.size]? = some 47))) := by
  rw [Bool.eq_iff_iff, ahead_iff]
  simp only [Bool.and_eq_true, decide_eq_true_eq]
  rw [Lib.size_eq p, Lib.size_eq q]
set_option maxHeartbeats 2000000 in
set_option maxRecDepth 100000 in
theorem under_any (p q : ByteArray) (hp : pathL p.data.toList = true) (hq : pathL q.data.toList = true) (hps : p.size ≤ 1048576) (hqs : q.size ≤ 1048576) (w : World) :
    Calls Tryz.prog 86 #[.string p, .string q] w fun e w' => ∃ s : ByteArray, e = .returned (.tuple #[.string s, .bool (aheadL p.data.toList q.data.toList)]) ∧ Below w.heap.size w w' := by
  have h1 := fun W => good4_any q hqs W
  have h2 := fun W => good4_any p hps W
  rw [hq] at h1
  rw [hp] at h2
  have hne := Sx.emp_ff (a := p) (fun e => path_ne hp (by rw [e]))
  have HA := Lib.hid (ahead_b p q)
  clear hp hq
  by_cases hl : p.size < q.size
  · have hnl : ¬ q.size ≤ p.size := by omega
    have hx : (q.extract 0 p.size).toList = q.data.toList.take p.size := by rw [ByteArray.toList_eq, Lib.extract_data, List.drop_zero, Nat.sub_zero]
    by_cases ht : q.data.toList.take p.size = p.data.toList
    · have h3 : ((q.extract 0 p.size).toList == p.toList) = true := by rw [hx, ht, ByteArray.toList_eq]; exact beq_self_eq_true _
      have hg : q.data.toList[p.size]? = some q[p.size] := by
        rw [List.getElem?_eq_getElem (by rw [← Lib.size_eq q]; exact hl)]
        rfl
      by_cases hc : q[p.size] = 47
      · have HR := Lib.hid (show aheadL p.data.toList q.data.toList = true by rw [HA.out, decide_eq_true hl, decide_eq_true ht, hg, hc]; rfl)
        have hc' : ((q[p.size].toNat : Int) != 47) = false := by rw [hc]; rfl
        clear hx ht hg hc
        go_enter Tryz.func86, Tryz.ntmps86
        go_wp2_with (first
          | (go_at_call 66; with_reducible refine (h1 _).mono ?_; clear h1; rintro e w1 ⟨he, hb1⟩; subst he)
          | (go_at_call 66; with_reducible refine (h2 _).mono ?_; clear h2; rintro e w2 ⟨he, hb2⟩; subst he))
        all_goals first
          | (exfalso; simp only [or_false, false_or, Bool.false_eq_true, or_true, true_or, not_true_eq_false, not_false_eq_true] at *; omega)
          | (go_ret2; rw [HR.out]; exact ⟨_, rfl, hb1.trans (hb2.mono hb1.size)⟩)
      · have HR := Lib.hid (show aheadL p.data.toList q.data.toList = false by
          rw [HA.out, decide_eq_true hl, decide_eq_true ht, hg, decide_eq_false (fun h => hc (Option.some.inj h))]; rfl)
        have hc' : ((q[p.size].toNat : Int) != 47) = true := by
          rw [bne_iff_ne]
          intro h
          exact hc (UInt8.toNat_inj.1 (by rw [show (47 : UInt8).toNat = 47 from rfl]; omega))
        clear hx ht hg hc
        go_enter Tryz.func86, Tryz.ntmps86
        go_wp2_with (first
          | (go_at_call 66; with_reducible refine (h1 _).mono ?_; clear h1; rintro e w1 ⟨he, hb1⟩; subst he)
          | (go_at_call 66; with_reducible refine (h2 _).mono ?_; clear h2; rintro e w2 ⟨he, hb2⟩; subst he))
        all_goals first
          | (exfalso; simp only [or_false, false_or, Bool.false_eq_true, or_true, true_or, not_true_eq_false, not_false_eq_true] at *; omega)
          | (go_ret2; rw [HR.out]; exact ⟨_, rfl, hb1.trans (hb2.mono hb1.size)⟩)
    · have h3 : ((q.extract 0 p.size).toList == p.toList) = false := by rw [hx, ByteArray.toList_eq]; exact beq_eq_false_iff_ne.2 ht
      have HR := Lib.hid (show aheadL p.data.toList q.data.toList = false by rw [HA.out, decide_eq_false ht, Bool.false_and, Bool.and_false])
      clear hx ht
      go_enter Tryz.func86, Tryz.ntmps86
      go_wp2_with (first
        | (go_at_call 66; with_reducible refine (h1 _).mono ?_; clear h1; rintro e w1 ⟨he, hb1⟩; subst he)
        | (go_at_call 66; with_reducible refine (h2 _).mono ?_; clear h2; rintro e w2 ⟨he, hb2⟩; subst he))
      all_goals first
        | (exfalso; simp only [or_false, false_or, Bool.false_eq_true, or_true, true_or, not_true_eq_false, not_false_eq_true] at *; omega)
        | (go_ret2; rw [HR.out]; exact ⟨_, rfl, hb1.trans (hb2.mono hb1.size)⟩)
  · have hnl : q.size ≤ p.size := by omega
    have HR := Lib.hid (show aheadL p.data.toList q.data.toList = false by rw [HA.out, decide_eq_false hl, Bool.false_and])
    go_enter Tryz.func86, Tryz.ntmps86
    go_wp2_with (first
      | (go_at_call 66; with_reducible refine (h1 _).mono ?_; clear h1; rintro e w1 ⟨he, hb1⟩; subst he)
      | (go_at_call 66; with_reducible refine (h2 _).mono ?_; clear h2; rintro e w2 ⟨he, hb2⟩; subst he))
    all_goals first
      | (exfalso; simp only [or_false, false_or, Bool.false_eq_true, or_true, true_or, not_true_eq_false, not_false_eq_true] at *; omega)
      | (go_ret2; rw [HR.out]; exact ⟨_, rfl, hb1.trans (hb2.mono hb1.size)⟩)
set_option maxHeartbeats 1000000 in
theorem ahead5_any (p q : ByteArray) (hp : pathL p.data.toList = true) (hq : pathL q.data.toList = true) (hps : p.size ≤ 1048576) (hqs : q.size ≤ 1048576) (w : World) :
    Calls Tryz.prog 67 #[.string p, .string q] w fun e w' => e = .returned (.bool (aheadL p.data.toList q.data.toList)) ∧ Below w.heap.size w w' := by
  have hu := under_any p q hp hq hps hqs w
  clear hp hq
  generalize aheadL p.data.toList q.data.toList = b at *
  go_enter Tryz.func67, Tryz.ntmps67
  go_wp2_with (go_at_call 86; with_reducible refine hu.mono ?_; clear hu; rintro e w1 ⟨s, he, hb1⟩; subst he)
  go_ret
  exact ⟨rfl, hb1⟩
end Tr
end Go.Proofs.YtbefgplaaghlbaaGreatDoor
