/-
  Walk: the reference's atom.
-/
import Derived.Test.YtbhngjhfeejeiaaGreatDoorSxRF
namespace Go.Proofs.YtbhngjhfeejeiaaGreatDoor
open Go.RowKit
namespace Sx

theorem head_at {s : ByteArray} (h : 0 < s.size) : s.data.toList.head? = some s[0] := by
  have := drop_cons h
  rw [List.drop_zero] at this
  rw [this]
  rfl
theorem at_list {s : ByteArray} {k : Nat} (h : k < s.size) : s.data.toList[k]? = some s[k] := by
  have := at_drop (a := 0) (Nat.zero_le k) h
  simpa using this
theorem can_take {l : List UInt8} {k : Nat} (hk : k ≤ l.length) : canon (l.take k) = true ↔ k ≠ 0 ∧ (l.head? = some 48 → k = 1) := by
  cases l with
  | nil => simp at hk; simp [canon, hk]
  | cons c r =>
    cases k with
    | zero => simp [canon]
    | succ k =>
      simp only [List.length_cons] at hk
      simp only [canon, List.take_succ_cons, List.isEmpty_cons, Bool.not_false, List.head?_cons, List.length_cons, List.length_take, Bool.true_and, Bool.or_eq_true, decide_eq_true_eq]
      constructor
      · intro h
        refine ⟨by omega, fun e => ?_⟩
        rcases h with h | h
        · exact absurd e (of_decide_eq_true h)
        · omega
      · intro h
        by_cases e : some c = some 48
        · right; have := h.2 e; omega
        · exact .inl (decide_eq_true e)
theorem text_bad {l : List UInt8} {k : Nat} (hk : k ≤ nD l) (hn : k = 5 ∨ nD l = k) (hb : k = 0 ∨ (l.head? = some 48 ∧ 1 < k) ∨ l[k]? ≠ some 58 ∨ l.length < val (l.take k) + k + 1) : atomO l = .bad 5 := by
  have hle := nD_le l
  have : atomP l = none := by
    unfold atomP
    rw [if_neg]
    rintro ⟨g1, g2, g3, g4⟩
    have hnk : nD l = k := by omega
    rw [hnk] at g1 g2 g3 g4
    have hc := (can_take (by omega)).1 g2
    rcases hb with hb | hb | hb | hb
    · exact hc.1 hb
    · have := hc.2 hb.1; omega
    · exact hb g3
    · omega
  simp [atomO, this]
theorem nD_stop {l : List UInt8} {k : Nat} (hk : k ≤ nD l) (h58 : l[k]? = some 58) : nD l = k := by
  rcases Nat.lt_or_ge k (nD l) with h | h
  · exfalso
    have hle := nD_le l
    have := nD_digits l 58 (List.mem_of_getElem? (i := k) (by rw [List.getElem?_take, if_pos h]; exact h58))
    simp [isD] at this
  · omega
theorem text_good {l : List UInt8} {k : Nat} (hk : k ≤ nD l) (hk5 : k ≤ 5) (h0 : k ≠ 0) (h1 : l.head? = some 48 → k = 1) (h58 : l[k]? = some 58) (hle : val (l.take k) + k + 1 ≤ l.length) :
    atomO l = .ok (.leaf ⟨((l.drop (k + 1)).take (val (l.take k))).toArray⟩) (k + 1 + val (l.take k)) := by
  have hn := nD_stop hk h58
  have : atomP l = some (⟨((l.drop (k + 1)).take (val (l.take k))).toArray⟩, k + 1 + val (l.take k)) := by
    unfold atomP
    rw [hn, if_pos ⟨hk5, (can_take (by omega)).2 ⟨h0, h1⟩, h58, hle⟩]
  simp [atomO, this]
theorem ext_text0 {s : ByteArray} {k v : Nat} : s.extract (k + 1) (k + 1 + v) = ⟨((s.data.toList.drop (k + 1)).take v).toArray⟩ := by
  apply ByteArray.ext
  apply Array.toList_inj.1
  rw [ext_take, show k + 1 + v - (k + 1) = v by omega]

/-- what the reference's reading hands back -/
def RR (W : World) (h : Nat) (o : Out) (e : Ending) (W' : World) : Prop :=
  (∃ (β : Bool) (σ : ByteArray) (sl : Option Addr) (n cap : Nat) (k : Nat) (f : Int), e = .returned (.tuple #[.agg #[.bool β, .string σ, .slice sl n cap], .int .i64 k, .int .i64 f]) ∧ match o with
    | .ok t u => f = 0 ∧ k = u ∧ RepS W' (fun k => W.heap.size ≤ k ∧ k < W'.heap.size) h t (.agg #[.bool β, .string σ, .slice sl n cap])
    | .bad g => f = g ∧ (g = 4 ∨ g = 5)) ∧ Below W.heap.size W W'

set_option maxHeartbeats 4000000 in
set_option maxRecDepth 100000 in
theorem rtext_any (s : ByteArray) (W : World) (hs : s.size ≤ 65536) :
    Calls Tryz.prog 52 #[.string s] W fun e W' => RR W 0 (atomO s.data.toList) e W' := by
  have hX : Below W.heap.size W (W.alloc (.cells #[.bool false, .string ⟨#[]⟩, .slice none 0 0] 39)) := (Below.refl _ _).alloc (Nat.le_refl _) _
  go_enter Tryz.func52, Tryz.ntmps52
  go_upto_block 0 with fail
  go_cut [5, 6] (fun n i wr => ∃ k : Nat, k ≤ 5 ∧ k ≤ s.size ∧ n = .int .i64 (val (s.data.toList.take k)) ∧ i = .int .i64 k ∧ (∀ (i : Nat) (c : UInt8), i < k → s.data.toList[i]? = some c → isD c = true) ∧ (k = s.size ∨ k = 5 ∨ ∃ c, s.data.toList[k]? = some c ∧ isD c = false) ∧ wr = W.alloc (.cells #[.bool false, .string ⟨#[]⟩, .slice none 0 0] 39))
  case first =>
    go_wp2_with fail
    go_loop [5, 6] (fun n i => ∃ k : Nat, k ≤ 5 ∧ k ≤ s.size ∧ n = .int .i64 (val (s.data.toList.take k)) ∧ i = .int .i64 k ∧ (∀ (i : Nat) (c : UInt8), i < k → s.data.toList[i]? = some c → isD c = true)) (fun _ i => 5 - (intOf i).toNat)
    case atStart => exact ⟨0, by omega, by omega, rfl, rfl, by omega⟩
    case round =>
      obtain ⟨k, h5, hk, rfl, rfl, hdg⟩ := hrel
      by_cases hm : k < s.size
      · have hb0 := at_list hm
        by_cases g3 : k < 5
        · by_cases g1 : 48 ≤ (s[k].toNat : Int)
          · by_cases g2 : (s[k].toNat : Int) ≤ 57
            · have hd : isD s[k] = true := (isD_iff _).2 ⟨by omega, by omega⟩
              have hv := val_take hb0
              have hdg' := dig_take hb0 hd hdg
              have hvs := val_small (by omega) hdg
              have HV := Lib.hid hv
              have HD := Lib.hid hdg'
              have q1 : IntKind.i64.wrap ((val (s.data.toList.take k) : Int) * 10) = (val (s.data.toList.take k) : Int) * 10 := IntWalk.i64_in _ (by omega)
              have q2 : IntKind.u8.wrap ((s[k].toNat : Int) - 48) = (s[k].toNat : Int) - 48 := by
                show ((s[k].toNat : Int) - 48) % 256 = _
                omega
              have q3 : IntKind.i64.wrap ((s[k].toNat : Int) - 48) = (s[k].toNat : Int) - 48 := IntWalk.i64_in _ (by omega)
              have q4 : IntKind.i64.wrap ((val (s.data.toList.take k) : Int) * 10 + ((s[k].toNat : Int) - 48)) = (val (s.data.toList.take k) : Int) * 10 + ((s[k].toNat : Int) - 48) := IntWalk.i64_in _ (by omega)
              clear hdg hdg' hv hb0
              go_wp2_with fail
              go_round
              case rel =>
                refine ⟨k + 1, by omega, by omega, ?_, by go_num, HD.out⟩
                rw [HV.out]
                go_num
              case measure => simp [intOf]; omega
            · have k2 : decide ((s[k].toNat : Int) ≤ 57) = false := by simp; omega
              have HD := Lib.hid hdg
              have HB := Lib.hid hb0
              clear hdg hb0
              go_wp2_with fail
              go_meet
              exact ⟨k, by omega, by omega, rfl, rfl, HD.out, .inr (.inr ⟨_, HB.out, by simp [isD]; omega⟩), rfl⟩
          · have k2 : decide (48 ≤ (s[k].toNat : Int)) = false := by simp; omega
            have HD := Lib.hid hdg
            have HB := Lib.hid hb0
            clear hdg hb0
            go_wp2_with fail
            go_meet
            exact ⟨k, by omega, by omega, rfl, rfl, HD.out, .inr (.inr ⟨_, HB.out, by simp [isD]; omega⟩), rfl⟩
        · have HD := Lib.hid hdg
          clear hdg hb0
          go_wp2_with fail
          go_meet
          exact ⟨k, by omega, by omega, rfl, rfl, HD.out, .inr (.inl (by omega)), rfl⟩
      · have HD := Lib.hid hdg
        clear hdg
        go_wp2_with fail
        go_meet
        exact ⟨k, by omega, by omega, rfl, rfl, HD.out, .inl (by omega), rfl⟩
  case rest =>
    obtain ⟨k, h5, hk, rfl, rfl, hdg, hex, rfl⟩ := hcut
    have hlen := (Lib.size_eq s).symm
    have hvs := val_small (by omega) hdg
    have hkn : k ≤ nD s.data.toList := nD_ge _ _ (by omega) hdg
    have hnk : k = 5 ∨ nD s.data.toList = k := by
      rcases hex with he | he | ⟨c, hc, hd⟩
      · exact .inr (nD_of _ _ (by omega) hdg (fun c hc => by rw [List.getElem?_eq_none (by omega)] at hc; cases hc))
      · exact .inl he
      · exact .inr (nD_of _ _ (by omega) hdg (fun d hd' => by
          obtain rfl : c = d := Option.some.inj (hc.symm.trans hd')
          exact hd))
    have HB := fun hb => Lib.hid (text_bad hkn hnk hb)
    clear hdg hex hnk
    by_cases g0 : k = 0
    · have HZ := HB (.inl g0)
      have j0 : ((k : Int) == 0) = true := by simp; omega
      clear HB hlen hkn g0
      go_wp2_with fail
      refine bodyPost_ret (v := .tuple #[.agg #[.bool false, .string ⟨#[]⟩, .slice none 0 0], .int .i64 0, .int .i64 5]) (by simp [results, Tryz.results52, go_sem]) rfl ?_
      rw [HZ.out]
      exact ⟨⟨_, _, _, _, _, 0, _, rfl, rfl, .inr rfl⟩, hX⟩
    · have j0 : ((k : Int) == 0) = false := by simp; omega
      have hs0 : 0 < s.size := by omega
      have hh := head_at hs0
      by_cases g1 : s[0].toNat = 48 ∧ 1 < k
      · obtain ⟨g1, g2⟩ := g1
        have HZ := HB (.inr (.inl ⟨by rw [hh, show s[0] = 48 from UInt8.toNat_inj.1 g1], g2⟩))
        have j1 : ((s[0].toNat : Int) == 48) = true := by simp [g1]
        have j2 : (1 : Int) < k := by omega
        clear HB hlen hkn g1 hh g0
        go_wp2_with fail
        refine bodyPost_ret (v := .tuple #[.agg #[.bool false, .string ⟨#[]⟩, .slice none 0 0], .int .i64 0, .int .i64 5]) (by simp [results, Tryz.results52, go_sem]) rfl ?_
        rw [HZ.out]
        exact ⟨⟨_, _, _, _, _, 0, _, rfl, rfl, .inr rfl⟩, hX⟩
      · have hh1 : s.data.toList.head? = some 48 → k = 1 := fun e => by
          rw [hh] at e
          have e1 : s[0].toNat = 48 := by rw [Option.some.inj e]; rfl
          have : ¬ 1 < k := fun g => g1 ⟨e1, g⟩
          omega
        have hcs : (((s[0].toNat : Int) == 48) = false) ∨ (((s[0].toNat : Int) == 48) = true ∧ ¬ (1 : Int) < k) := by
          by_cases g2 : s[0].toNat = 48
          · exact .inr ⟨by simp [g2], fun g => g1 ⟨g2, by omega⟩⟩
          · exact .inl (by simp; omega)
        have HH := Lib.hid hh1
        clear g1 hh hh1
        by_cases g3 : k = s.size
        · have HZ := HB (.inr (.inr (.inl (by rw [List.getElem?_eq_none (by omega)]; simp))))
          have j3 : ((k : Int) == s.size) = true := by simp; omega
          clear HB hlen hkn g0 g3
          rcases hcs with hcs | ⟨hcs, hcs2⟩
          all_goals
            go_wp2_with fail
            refine bodyPost_ret (v := .tuple #[.agg #[.bool false, .string ⟨#[]⟩, .slice none 0 0], .int .i64 0, .int .i64 5]) (by simp [results, Tryz.results52, go_sem]) rfl ?_
            rw [HZ.out]
            exact ⟨⟨_, _, _, _, _, 0, _, rfl, rfl, .inr rfl⟩, hX⟩
        · have j3 : ((k : Int) == s.size) = false := by simp; omega
          have hm : k < s.size := by omega
          have hb0 := at_list hm
          by_cases g4 : s[k].toNat = 58
          · have g58 : s[k] = 58 := UInt8.toNat_inj.1 g4
            have k2 : ((s[k].toNat : Int) == 58) = true := by simp [g4]
            have k2' : ((s[k].toNat : Int) != 58) = false := by simp [g4]
            have k3 : IntKind.i64.wrap ((s.size : Int) - k) = (s.size : Int) - k := IntWalk.i64_in _ (by omega)
            have k4 : IntKind.i64.wrap ((s.size : Int) - k - 1) = (s.size : Int) - k - 1 := IntWalk.i64_in _ (by omega)
            by_cases g5 : s.size - k - 1 < val (s.data.toList.take k)
            · have HZ := HB (.inr (.inr (.inr (by omega))))
              have k5 : decide ((s.size : Int) - k - 1 < (val (s.data.toList.take k) : Int)) = true := by simp; omega
              clear HB hlen hkn g0 g3 g4 g58 hb0
              rcases hcs with hcs | ⟨hcs, hcs2⟩
              all_goals
                go_wp2_with fail
                refine bodyPost_ret (v := .tuple #[.agg #[.bool false, .string ⟨#[]⟩, .slice none 0 0], .int .i64 0, .int .i64 5]) (by simp [results, Tryz.results52, go_sem]) rfl ?_
                rw [HZ.out]
                exact ⟨⟨_, _, _, _, _, 0, _, rfl, rfl, .inr rfl⟩, hX⟩
            · have k5 : decide ((s.size : Int) - k - 1 < (val (s.data.toList.take k) : Int)) = false := by simp; omega
              have HZ := Lib.hid (text_good hkn h5 g0 HH.out (by rw [hb0, g58]) (by omega))
              obtain ⟨M1, hM1⟩ : ∃ M1 : Nat, M1 = k + 1 := ⟨_, rfl⟩
              obtain ⟨M, hM⟩ : ∃ M : Nat, M = k + 1 + val (s.data.toList.take k) := ⟨_, rfl⟩
              have k6 : IntKind.i64.wrap ((k : Int) + 1) = (M1 : Int) := by rw [IntWalk.i64_in _ (by omega)]; omega
              have k7 : IntKind.i64.wrap ((M1 : Int) + (val (s.data.toList.take k) : Int)) = (M : Int) := by rw [IntWalk.i64_in _ (by omega)]; omega
              have k8 : M1 ≤ M := by omega
              have k9 : M ≤ s.size := by omega
              have HM := Lib.hid hM
              have HM1 := Lib.hid hM1
              clear HB hlen hkn g0 g3 g4 g58 hb0 hM hM1
              rcases hcs with hcs | ⟨hcs, hcs2⟩
              all_goals
                go_wp2_with fail
                refine bodyPost_ret (v := .tuple #[.agg #[.bool true, .string (s.extract M1 M), .slice none 0 0], .int .i64 M, .int .i64 0]) (by simp [results, Tryz.results52, go_sem]) rfl ?_
                rw [HZ.out]
                refine ⟨⟨_, _, _, _, _, M, _, rfl, rfl, HM.out, ?_⟩, ?_⟩
                · have e : s.extract M1 M = ⟨((s.data.toList.drop (k + 1)).take (val (s.data.toList.take k))).toArray⟩ := by
                    rw [HM1.out, HM.out]
                    exact ext_text0
                  rw [e]
                  exact .leaf _ _
                · exact (Below.refl _ _).alloc (Nat.le_refl _) _
          · have k2 : ((s[k].toNat : Int) == 58) = false := by simp; omega
            have k2' : ((s[k].toNat : Int) != 58) = true := by simp; omega
            have HZ := HB (.inr (.inr (.inl (by
              rw [hb0]
              intro e
              exact g4 (by rw [Option.some.inj e]; rfl)))))
            clear HB hlen hkn g0 g3 hb0
            rcases hcs with hcs | ⟨hcs, hcs2⟩
            all_goals
              go_wp2_with fail
              refine bodyPost_ret (v := .tuple #[.agg #[.bool false, .string ⟨#[]⟩, .slice none 0 0], .int .i64 0, .int .i64 5]) (by simp [results, Tryz.results52, go_sem]) rfl ?_
              rw [HZ.out]
              exact ⟨⟨_, _, _, _, _, 0, _, rfl, rfl, .inr rfl⟩, hX⟩
end Sx
end Go.Proofs.YtbhngjhfeejeiaaGreatDoor
