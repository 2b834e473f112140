/-
  Walk: the reference's bound: the gap that a comparison is.
-/
import Derived.Test.YtflhmoelenmomaaGreatDoorMSgT
import Derived.Test.YtflhmoelenmomaaGreatDoorMVersionS
namespace Go.Proofs.YtflhmoelenmomaaGreatDoor
open Go.RowKit Go.Shelf Go.Lib
namespace Sg

theorem dig_fin : ∀ n : Fin 256, digs.contains (UInt8.ofNat n.val) = (decide (48 ≤ n.val) && decide (n.val ≤ 57)) := by decide +kernel
theorem dig_num (x : UInt8) : digs.contains x = (decide (48 ≤ x.toNat) && decide (x.toNat ≤ 57)) := by
  have h := dig_fin ⟨x.toNat, x.toNat_lt⟩
  rw [UInt8.ofNat_toNat] at h
  exact h
theorem stop_ex (l : List UInt8) : ∀ n, n ≤ l.length → Lib.NoAny l digs n ∨ ∃ t, t < n ∧ Lib.NoAny l digs t ∧ ∃ x, l[t]? = some x ∧ digs.contains x = true
  | 0, _ => .inl (Lib.NoAny.zero _ _)
  | n + 1, h => by
    rcases stop_ex l n (by omega) with h1 | ⟨t, h1, h2⟩
    · have hx := List.getElem?_eq_getElem (l := l) (i := n) (by omega)
      cases hc : digs.contains l[n] with
      | false => exact .inl (h1.succ hx hc)
      | true => exact .inr ⟨n, by omega, h1, _, hx, hc⟩
    · exact .inr ⟨t, by omega, h2⟩
/-- where the sign ends -/
theorem bound_stop (l : List UInt8) : ∃ t, t ≤ l.length ∧ Lib.NoAny l digs t ∧ (∀ x, l[t]? = some x → digs.contains x = true) ∧ (l ≠ [42] → boundL l = (Vs.parseL (l.drop t)).bind fun v => signL (l.take t) v.1 v.2.1 v.2.2) := by
  rcases stop_ex l l.length (Nat.le_refl _) with h1 | ⟨t, h1, h2, x, h3, h4⟩
  · refine ⟨l.length, Nat.le_refl _, h1, fun x hx => by simp at hx, fun hn => ?_⟩
    unfold boundL
    rw [if_pos (Lib.indexAny_none h1), if_neg hn, List.drop_length]
    rfl
  · refine ⟨t, by omega, h2, fun y hy => by rw [h3] at hy; cases hy; exact h4, fun _ => ?_⟩
    unfold boundL
    rw [Lib.indexAny_hit h2 h3 h4, if_neg (by omega)]
    rfl
theorem star_bound {l : List UInt8} (h : l = [42]) : boundL l = some (0, 1000000000) := by
  subst h
  rfl
theorem qbound_results {tmps : Array Value} {X : World} {h : Nat} {x y : Int} {b : Bool} (t2 : tmps[2]? = some (.pointer (some ⟨h, 0, none⟩))) (t3 : tmps[3]? = some (.bool b)) (k : X.heap[h]? = some (.cells #[.int .i64 x, .int .i64 y] 55 (0, 0))) :
    (results Tryz.f80 tmps).run Tryz.prog X = .ok (.tuple #[gapV (x, y), .bool b]) X := by
  obtain ⟨c0, c1, -, -⟩ := obj_two k
  simp [results, Tryz.results80, go_sem, t2, t3, c0, c1]
theorem num_rem {a b c n : Int} (h : Vs.goodB a b c = true) (hn : Vs.num a b c = n) : n - n % 1000000 + 1000000 = (a + 1) * 1000000 ∧ n - n % 1000 + 1000 = (a * 1000 + b + 1) * 1000 := by
  obtain ⟨h1, h2, h3⟩ := num_bd h
  obtain ⟨a0, a1, b0, b1, c0, c1⟩ := Vs.of_good h
  rw [h1] at hn
  omega
set_option maxHeartbeats 8000000 in
set_option maxRecDepth 100000 in
theorem qbound_any (s : ByteArray) (W : World) (hs : s.size ≤ 1048576) :
    Calls Tryz.prog 80 #[.string s] W fun e W' => BQ (boundL s.data.toList) e ∧ Below W.heap.size W W' := by
  have hB0 := (Below.refl W.heap.size W).alloc (Nat.le_refl _) (.cells #[.int .i64 0, .int .i64 0] 55)
  have hK0 := heap_alloc_new W (.cells #[.int .i64 0, .int .i64 0] 55)
  have HK0 := Lib.hid hK0
  by_cases hst : s.data.toList = [42]
  · have HQ := Lib.hid (star_bound hst)
    have j1 := str_tt hst
    obtain ⟨c0, c1, f0, f1⟩ := obj_two hK0
    clear hst hK0
    go_enter Tryz.func80, Tryz.ntmps80
    go_wp2_with fail
    refine bodyPost_ret (qbound_results rfl rfl (heap_alloc_new W _)) rfl ?_
    exact ⟨bq_some HQ.out, (Below.refl W.heap.size W).alloc (Nat.le_refl _) _⟩
  obtain ⟨t, ht, hno, hat, hbl⟩ := bound_stop s.data.toList
  replace hbl := hbl hst
  have j1 := str_ff hst
  have hz := Lib.size_eq s
  rw [← hz] at ht
  clear hz
  have HNO := Lib.hid hno
  have HAT := Lib.hid hat
  have HBL := Lib.hid hbl
  clear hK0 hst hno hat hbl
  go_enter Tryz.func80, Tryz.ntmps80
  go_wp2_with fail
  go_loopw [4] (fun i wr => ∃ k : Nat, k ≤ t ∧ i = .int .i64 (k : Int) ∧ W.alloc (.cells #[.int .i64 0, .int .i64 0] 55) = wr) (fun i _ => t - (RowKit.intOf i).toNat)
  case atStart => exact ⟨0, Nat.zero_le _, rfl, rfl⟩
  case round =>
    obtain ⟨k, hk, rfl, rfl⟩ := hrel
    by_cases hlt : k < t
    · have hks : k < s.size := by omega
      have hx := Lib.data_getElem? s k hks
      have hn := HNO.out k _ hlt hx
      rw [dig_num] at hn
      clear hx
      by_cases i1 : ((s[k]'hks).toNat : Int) < 48
      · clear hn
        go_wp2_with fail
        refine ⟨⟨k + 1, hlt, by push_cast; rfl, trivial⟩, ?_⟩
        simp only [RowKit.intOf]
        omega
      · have i2 : (57 : Int) < ((s[k]'hks).toNat : Int) := by
          have : ¬ (s[k]'hks).toNat < 48 := by omega
          simp at hn
          omega
        clear hn
        go_wp2_with fail
        refine ⟨⟨k + 1, hlt, by push_cast; rfl, trivial⟩, ?_⟩
        simp only [RowKit.intOf]
        omega
    · obtain rfl : k = t := by omega
      have hpa := fun w => Vs.parser_any (s.extract k s.size) (by rw [ByteArray.size_extract]; omega) w
      rw [tail_drop] at hpa
      have hT := head_take s k
      rcases Nat.lt_or_ge k s.size with hks | hks
      · have hn := HAT.out _ (Lib.data_getElem? s k hks)
        rw [dig_num] at hn
        simp at hn
        have i1 : ¬ ((s[k]'hks).toNat : Int) < 48 := by omega
        have i2 : ¬ (57 : Int) < ((s[k]'hks).toNat : Int) := by omega
        clear hn
        cases hp : Vs.parseL (s.data.toList.drop k) with
        | none =>
          have HQ2 := Lib.hid (show boundL s.data.toList = none by rw [HBL.out, hp]; rfl)
          rw [hp, Vs.PV_none] at hpa
          clear hp hT
          go_wp2_with (go_at_call 33; refine (hpa _).mono ?_; rintro e W3 ⟨rfl, hB3⟩; have hB4 := hB0.trans (hB3.mono hB0.size); have HK3 := Lib.hid (two_below hB3 HK0.out); have hB5 := hB4.alloc hB4.size (.cells #[.int .i64 0, .int .i64 0, .int .i64 0] 37); have HK5 := Lib.hid (two_below ((Below.refl _ _).alloc (Nat.le_refl _) (.cells #[.int .i64 0, .int .i64 0, .int .i64 0] 37)) HK3.out); obtain ⟨c0, c1, f0, f1⟩ := obj_two HK5.out; clear hpa)
          refine bodyPost_ret (qbound_results rfl rfl (two_set HK5.out _ _)) rfl ?_
          exact ⟨bq_none HQ2.out _, below_two hB5 (Nat.le_refl _) _ _⟩
        | some v =>
          obtain ⟨a, b, c⟩ := v
          have hgd := (Vs.text_parse hp).2
          have HQ2 := Lib.hid (show boundL s.data.toList = signL (s.data.toList.take k) a b c by rw [HBL.out, hp]; rfl)
          rw [hp, Vs.PV_some] at hpa
          have hnum := fun w => Vs.numberr_any a b c w
          obtain ⟨-, n0, n1⟩ := num_bd hgd
          generalize hn : Vs.num a b c = n at hnum n0 n1
          obtain ⟨m1, m2⟩ := num_rem hgd hn
          have HN := Lib.hid hn
          have HM := Lib.hid (And.intro m1 m2)
          clear hp hgd hn m1 m2
          go_wp2_with (first
            | (go_at_call 33; refine (hpa _).mono ?_; rintro e W3 ⟨rfl, hB3⟩; have hB4 := hB0.trans (hB3.mono hB0.size); have HK3 := Lib.hid (two_below hB3 HK0.out); have hB5 := hB4.alloc hB4.size (.cells #[.int .i64 a, .int .i64 b, .int .i64 c] 37); have HK5 := Lib.hid (two_below ((Below.refl _ _).alloc (Nat.le_refl _) (.cells #[.int .i64 a, .int .i64 b, .int .i64 c] 37)) HK3.out); clear hpa))
          go_at_call 110
          refine (hnum _).mono ?_
          rintro e W6 ⟨rfl, hB6⟩
          have hB7 := hB5.trans (hB6.mono hB5.size)
          have HK7 := Lib.hid (two_below hB6 HK5.out)
          clear hB6 hB5 hB4 hnum
          by_cases e0 : s.data.toList.take k = [61]
          · have k0 := str_tt (s := s.extract 0 k) (l := [61]) (by rw [hT]; exact e0)
            have HR := Lib.hid (show boundL s.data.toList = some (n, n + 1) by rw [HQ2.out]; unfold signL; rw [if_pos e0, HN.out])
            have hB8 := hB7.alloc hB7.size (.cells #[.int .i64 (n), .int .i64 (n + 1)] 55)
            have HK8 := Lib.hid (two_below ((Below.refl _ _).alloc (Nat.le_refl _) (.cells #[.int .i64 (n), .int .i64 (n + 1)] 55)) HK7.out)
            obtain ⟨c0, c1, f0, f1⟩ := obj_two HK8.out
            clear hT hB7 e0
            go_wp2_with fail
            refine bodyPost_ret (qbound_results rfl rfl (two_set HK8.out _ _)) rfl ?_
            exact ⟨bq_some HR.out, below_two hB8 (Nat.le_refl _) _ _⟩
          by_cases e1 : s.data.toList.take k = [62, 61]
          · have k0 := str_ff (s := s.extract 0 k) (l := [61]) (by rw [hT]; exact e0)
            have k1 := str_tt (s := s.extract 0 k) (l := [62, 61]) (by rw [hT]; exact e1)
            have HR := Lib.hid (show boundL s.data.toList = some (n, 1000000000) by rw [HQ2.out]; unfold signL; rw [if_neg e0]; rw [if_pos e1, HN.out])
            have hB8 := hB7.alloc hB7.size (.cells #[.int .i64 (n), .int .i64 (1000000000)] 55)
            have HK8 := Lib.hid (two_below ((Below.refl _ _).alloc (Nat.le_refl _) (.cells #[.int .i64 (n), .int .i64 (1000000000)] 55)) HK7.out)
            obtain ⟨c0, c1, f0, f1⟩ := obj_two HK8.out
            clear hT hB7 e0 e1
            go_wp2_with fail
            refine bodyPost_ret (qbound_results rfl rfl (two_set HK8.out _ _)) rfl ?_
            exact ⟨bq_some HR.out, below_two hB8 (Nat.le_refl _) _ _⟩
          by_cases e2 : s.data.toList.take k = [62]
          · have k0 := str_ff (s := s.extract 0 k) (l := [61]) (by rw [hT]; exact e0)
            have k1 := str_ff (s := s.extract 0 k) (l := [62, 61]) (by rw [hT]; exact e1)
            have k2 := str_tt (s := s.extract 0 k) (l := [62]) (by rw [hT]; exact e2)
            have HR := Lib.hid (show boundL s.data.toList = some (n + 1, 1000000000) by rw [HQ2.out]; unfold signL; rw [if_neg e0]; rw [if_neg e1]; rw [if_pos e2, HN.out])
            have hB8 := hB7.alloc hB7.size (.cells #[.int .i64 (n + 1), .int .i64 (1000000000)] 55)
            have HK8 := Lib.hid (two_below ((Below.refl _ _).alloc (Nat.le_refl _) (.cells #[.int .i64 (n + 1), .int .i64 (1000000000)] 55)) HK7.out)
            obtain ⟨c0, c1, f0, f1⟩ := obj_two HK8.out
            clear hT hB7 e0 e1 e2
            go_wp2_with fail
            refine bodyPost_ret (qbound_results rfl rfl (two_set HK8.out _ _)) rfl ?_
            exact ⟨bq_some HR.out, below_two hB8 (Nat.le_refl _) _ _⟩
          by_cases e3 : s.data.toList.take k = [60, 61]
          · have k0 := str_ff (s := s.extract 0 k) (l := [61]) (by rw [hT]; exact e0)
            have k1 := str_ff (s := s.extract 0 k) (l := [62, 61]) (by rw [hT]; exact e1)
            have k2 := str_ff (s := s.extract 0 k) (l := [62]) (by rw [hT]; exact e2)
            have k3 := str_tt (s := s.extract 0 k) (l := [60, 61]) (by rw [hT]; exact e3)
            have HR := Lib.hid (show boundL s.data.toList = some (0, n + 1) by rw [HQ2.out]; unfold signL; rw [if_neg e0]; rw [if_neg e1]; rw [if_neg e2]; rw [if_neg (by rw [e3]; decide)]; rw [if_pos e3, HN.out])
            have hB8 := hB7.alloc hB7.size (.cells #[.int .i64 (0), .int .i64 (n + 1)] 55)
            have HK8 := Lib.hid (two_below ((Below.refl _ _).alloc (Nat.le_refl _) (.cells #[.int .i64 (0), .int .i64 (n + 1)] 55)) HK7.out)
            obtain ⟨c0, c1, f0, f1⟩ := obj_two HK8.out
            clear hT hB7 e0 e1 e2 e3
            go_wp2_with fail
            refine bodyPost_ret (qbound_results rfl rfl (two_set HK8.out _ _)) rfl ?_
            exact ⟨bq_some HR.out, below_two hB8 (Nat.le_refl _) _ _⟩
          by_cases e4 : s.data.toList.take k = [60]
          · have k0 := str_ff (s := s.extract 0 k) (l := [61]) (by rw [hT]; exact e0)
            have k1 := str_ff (s := s.extract 0 k) (l := [62, 61]) (by rw [hT]; exact e1)
            have k2 := str_ff (s := s.extract 0 k) (l := [62]) (by rw [hT]; exact e2)
            have k3 := str_ff (s := s.extract 0 k) (l := [60, 61]) (by rw [hT]; exact e3)
            have k4 := str_tt (s := s.extract 0 k) (l := [60]) (by rw [hT]; exact e4)
            have HR := Lib.hid (show boundL s.data.toList = some (0, n) by rw [HQ2.out]; unfold signL; rw [if_neg e0]; rw [if_neg e1]; rw [if_neg e2]; rw [if_pos e4, HN.out])
            have hB8 := hB7.alloc hB7.size (.cells #[.int .i64 (0), .int .i64 (n)] 55)
            have HK8 := Lib.hid (two_below ((Below.refl _ _).alloc (Nat.le_refl _) (.cells #[.int .i64 (0), .int .i64 (n)] 55)) HK7.out)
            obtain ⟨c0, c1, f0, f1⟩ := obj_two HK8.out
            clear hT hB7 e0 e1 e2 e3 e4
            go_wp2_with fail
            refine bodyPost_ret (qbound_results rfl rfl (two_set HK8.out _ _)) rfl ?_
            exact ⟨bq_some HR.out, below_two hB8 (Nat.le_refl _) _ _⟩
          by_cases e5 : s.data.toList.take k = [94]
          · have k0 := str_ff (s := s.extract 0 k) (l := [61]) (by rw [hT]; exact e0)
            have k1 := str_ff (s := s.extract 0 k) (l := [62, 61]) (by rw [hT]; exact e1)
            have k2 := str_ff (s := s.extract 0 k) (l := [62]) (by rw [hT]; exact e2)
            have k3 := str_ff (s := s.extract 0 k) (l := [60, 61]) (by rw [hT]; exact e3)
            have k4 := str_ff (s := s.extract 0 k) (l := [60]) (by rw [hT]; exact e4)
            have k5 := str_tt (s := s.extract 0 k) (l := [94]) (by rw [hT]; exact e5)
            have HR := Lib.hid (show boundL s.data.toList = some (n, n - n % 1000000 + 1000000) by rw [HQ2.out]; unfold signL; rw [if_neg e0]; rw [if_neg e1]; rw [if_neg e2]; rw [if_neg e4]; rw [if_neg e3]; rw [if_pos e5, HN.out, HM.out.1])
            have r0 : 0 ≤ n % 1000000 := Int.emod_nonneg _ (by decide)
            have r1 : n % 1000000 < 1000000 := Int.emod_lt_of_pos _ (by decide)
            have hB8 := hB7.alloc hB7.size (.cells #[.int .i64 (n), .int .i64 (n - n % 1000000 + 1000000)] 55)
            have HK8 := Lib.hid (two_below ((Below.refl _ _).alloc (Nat.le_refl _) (.cells #[.int .i64 (n), .int .i64 (n - n % 1000000 + 1000000)] 55)) HK7.out)
            obtain ⟨c0, c1, f0, f1⟩ := obj_two HK8.out
            clear hT hB7 e0 e1 e2 e3 e4 e5
            go_wp2_with fail
            refine bodyPost_ret (qbound_results rfl rfl (two_set HK8.out _ _)) rfl ?_
            exact ⟨bq_some HR.out, below_two hB8 (Nat.le_refl _) _ _⟩
          by_cases e6 : s.data.toList.take k = [126]
          · have k0 := str_ff (s := s.extract 0 k) (l := [61]) (by rw [hT]; exact e0)
            have k1 := str_ff (s := s.extract 0 k) (l := [62, 61]) (by rw [hT]; exact e1)
            have k2 := str_ff (s := s.extract 0 k) (l := [62]) (by rw [hT]; exact e2)
            have k3 := str_ff (s := s.extract 0 k) (l := [60, 61]) (by rw [hT]; exact e3)
            have k4 := str_ff (s := s.extract 0 k) (l := [60]) (by rw [hT]; exact e4)
            have k5 := str_ff (s := s.extract 0 k) (l := [94]) (by rw [hT]; exact e5)
            have k6 := str_tt (s := s.extract 0 k) (l := [126]) (by rw [hT]; exact e6)
            have HR := Lib.hid (show boundL s.data.toList = some (n, n - n % 1000 + 1000) by rw [HQ2.out]; unfold signL; rw [if_neg e0]; rw [if_neg e1]; rw [if_neg e2]; rw [if_neg e4]; rw [if_neg e3]; rw [if_neg e5]; rw [if_pos e6, HN.out, HM.out.2])
            have r0 : 0 ≤ n % 1000 := Int.emod_nonneg _ (by decide)
            have r1 : n % 1000 < 1000 := Int.emod_lt_of_pos _ (by decide)
            have hB8 := hB7.alloc hB7.size (.cells #[.int .i64 (n), .int .i64 (n - n % 1000 + 1000)] 55)
            have HK8 := Lib.hid (two_below ((Below.refl _ _).alloc (Nat.le_refl _) (.cells #[.int .i64 (n), .int .i64 (n - n % 1000 + 1000)] 55)) HK7.out)
            obtain ⟨c0, c1, f0, f1⟩ := obj_two HK8.out
            clear hT hB7 e0 e1 e2 e3 e4 e5 e6
            go_wp2_with fail
            refine bodyPost_ret (qbound_results rfl rfl (two_set HK8.out _ _)) rfl ?_
            exact ⟨bq_some HR.out, below_two hB8 (Nat.le_refl _) _ _⟩
          have k0 := str_ff (s := s.extract 0 k) (l := [61]) (by rw [hT]; exact e0)
          have k1 := str_ff (s := s.extract 0 k) (l := [62, 61]) (by rw [hT]; exact e1)
          have k2 := str_ff (s := s.extract 0 k) (l := [62]) (by rw [hT]; exact e2)
          have k3 := str_ff (s := s.extract 0 k) (l := [60, 61]) (by rw [hT]; exact e3)
          have k4 := str_ff (s := s.extract 0 k) (l := [60]) (by rw [hT]; exact e4)
          have k5 := str_ff (s := s.extract 0 k) (l := [94]) (by rw [hT]; exact e5)
          have k6 := str_ff (s := s.extract 0 k) (l := [126]) (by rw [hT]; exact e6)
          have HR := Lib.hid (show boundL s.data.toList = none by rw [HQ2.out]; unfold signL; rw [if_neg e0]; rw [if_neg e1]; rw [if_neg e2]; rw [if_neg e4]; rw [if_neg e3]; rw [if_neg e5]; rw [if_neg e6])
          have hB8 := hB7.alloc hB7.size (.cells #[.int .i64 (0), .int .i64 (1000000000)] 55)
          have HK8 := Lib.hid (two_below ((Below.refl _ _).alloc (Nat.le_refl _) (.cells #[.int .i64 (0), .int .i64 (1000000000)] 55)) HK7.out)
          obtain ⟨c0, c1, f0, f1⟩ := obj_two HK8.out
          clear hT hB7 e0 e1 e2 e3 e4 e5 e6
          go_wp2_with fail
          refine bodyPost_ret (qbound_results rfl rfl (two_set HK8.out _ _)) rfl ?_
          exact ⟨bq_none HR.out _, below_two hB8 (Nat.le_refl _) _ _⟩
      · have hd : s.data.toList.drop k = [] := by
          apply List.drop_of_length_le
          rw [← Lib.size_eq s]
          exact hks
        have hp : Vs.parseL (s.data.toList.drop k) = none := by
          rw [hd]
          rfl
        have HQ2 := Lib.hid (show boundL s.data.toList = none by rw [HBL.out, hp]; rfl)
        rw [hp, Vs.PV_none] at hpa
        clear hp hT hd
        go_wp2_with (go_at_call 33; refine (hpa _).mono ?_; rintro e W3 ⟨rfl, hB3⟩; have hB4 := hB0.trans (hB3.mono hB0.size); have HK3 := Lib.hid (two_below hB3 HK0.out); have hB5 := hB4.alloc hB4.size (.cells #[.int .i64 0, .int .i64 0, .int .i64 0] 37); have HK5 := Lib.hid (two_below ((Below.refl _ _).alloc (Nat.le_refl _) (.cells #[.int .i64 0, .int .i64 0, .int .i64 0] 37)) HK3.out); obtain ⟨c0, c1, f0, f1⟩ := obj_two HK5.out; clear hpa)
        refine bodyPost_ret (qbound_results rfl rfl (two_set HK5.out _ _)) rfl ?_
        exact ⟨bq_none HQ2.out _, below_two hB5 (Nat.le_refl _) _ _⟩
end Sg
end Go.Proofs.YtflhmoelenmomaaGreatDoor
