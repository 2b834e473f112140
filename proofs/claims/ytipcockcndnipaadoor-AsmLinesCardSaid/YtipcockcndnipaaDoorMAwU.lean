/-
  Walk: the text between quotes, read (asm.unquoted).
-/
import Derived.Test.YtipcockcndnipaaDoorMAwA
namespace Go.Proofs.YtipcockcndnipaaDoor
open Go.RowKit
namespace Aw
open As

set_option maxHeartbeats 4000000 in
set_option maxRecDepth 100000 in
theorem unq_any (s : ByteArray) (W : World) (hs : s.size ≤ 1000000) : Calls Tryd.prog 50 #[.string s] W fun e W' => e = .returned (UV (unq s.data.toList)) ∧ Below W.heap.size W W' := by
  obtain ⟨i0, hi0, hz0, hz1, hz2⟩ := info_parts info_u8
  by_cases h2 : 2 ≤ s.size
  rotate_left
  · have HZ := Lib.hid (unq_short (s := s) (by omega))
    have k1 : decide ((s.size : Int) < 2) = true := by simp; omega
    clear h2
    go_enter Tryd.func50, Tryd.ntmps50
    go_wp2_with fail
    go_ret2
    rw [HZ.out]
    exact ⟨rfl, Below.refl _ _⟩
  have k1 : decide ((s.size : Int) < 2) = false := by simp; omega
  have k0 : 0 < s.size := by omega
  have w1 : IntKind.i64.wrap ((s.size : Int) - 1) = (s.size : Int) - 1 := IntWalk.i64_in _ (by omega)
  have n1 : (0 : Int) ≤ (s.size : Int) - 1 := by omega
  have t1 : ((s.size : Int) - 1).toNat = s.size - 1 := by omega
  have b1 : s.size - 1 < s.size := by omega
  by_cases h34 : s[0] = 34
  rotate_left
  · have HZ := Lib.hid (unq_head h2 h34)
    have j1 : ((s[0].toNat : Int) == 34) = false := by
      rw [beq_eq_false_iff_ne]
      intro e
      exact h34 (u8_eq (n := 34) (by omega) (by decide))
    have j2 : ((s[0].toNat : Int) != 34) = true := by rw [bne, j1]; rfl
    clear h34
    go_enter Tryd.func50, Tryd.ntmps50
    go_wp2_with fail
    go_ret2
    rw [HZ.out]
    exact ⟨rfl, Below.refl _ _⟩
  have j1 : ((s[0].toNat : Int) == 34) = true := by rw [h34]; rfl
  have j2 : ((s[0].toNat : Int) != 34) = false := by rw [bne, j1]; rfl
  by_cases g34 : s[s.size - 1] = 34
  rotate_left
  · have HZ := Lib.hid (unq_last h2 g34)
    have j3 : ((s[s.size - 1].toNat : Int) == 34) = false := by
      rw [beq_eq_false_iff_ne]
      intro e
      exact g34 (u8_eq (n := 34) (by omega) (by decide))
    have j4 : ((s[s.size - 1].toNat : Int) != 34) = true := by rw [bne, j3]; rfl
    clear h34 g34
    go_enter Tryd.func50, Tryd.ntmps50
    go_wp2_with fail
    go_ret2
    rw [HZ.out]
    exact ⟨rfl, Below.refl _ _⟩
  have j3 : ((s[s.size - 1].toNat : Int) == 34) = true := by rw [g34]; rfl
  have j4 : ((s[s.size - 1].toNat : Int) != 34) = false := by rw [bne, j3]; rfl
  have HZ := Lib.hid (unq_in h2 h34 g34)
  have b2 : (1 : Int) ≤ (s.size : Int) - 1 := by omega
  have b3 : (s.size : Int) - 1 ≤ s.size := by omega
  obtain ⟨t, ht⟩ : ∃ t, t = s.extract 1 (s.size - 1) := ⟨_, rfl⟩
  have hts : t.size ≤ 1000000 := by rw [ht, ByteArray.size_extract]; omega
  rw [← ht] at HZ
  have HT := Lib.hid ht
  clear h34 g34 ht
  go_enter Tryd.func50, Tryd.ntmps50
  go_wp2_with fail
  have ht := HT.out
  rw [← ht]
  clear ht HT k1 w1 j1 j2 j3 j4
  have hO0 : W.ownsRow W.heap.size 5 1 (.slice none 0 0) 0 (u8s []) := World.ownsRow_nil _ _ _ _
  have hB0 := Below.refl W.heap.size W
  go_loopw [4, 5] (fun kv i wr => ∃ (m : Nat) (acc : List UInt8) (v : Value), v = kv ∧ i = .int .i64 m ∧ m ≤ t.size ∧ acc.length ≤ m ∧ QJ t m acc ∧ wr.ownsRow W.heap.size 5 1 v acc.length (u8s acc) ∧ Below W.heap.size W wr) (fun _ i _ => t.size - (intOf i).toNat)
  case atStart => exact ⟨0, [], _, rfl, rfl, Nat.zero_le _, Nat.zero_le _, QJ.start t, hO0, hB0⟩
  case round =>
    obtain ⟨m, acc, v, rfl, rfl, hm2, hal, hq, hown, hB⟩ := hrel
    have HQ := Lib.hid hq
    have HO := Lib.hid hown
    clear hO0 hB0 hq hown
    by_cases hm : m < t.size
    rotate_left
    · have k2 : decide ((m : Int) < t.size) = false := by simp; omega
      have HS := Lib.hid (HQ.out.stop (by omega))
      have hcv : (convert 35 9 v).run Tryd.prog wr = .ok (.string ⟨acc.toArray⟩) wr := conv_any HO.out
      go_wp2_with fail
      go_ret2
      rw [HZ.out, HS.out]
      exact ⟨rfl, hB⟩
    have k2 : decide ((m : Int) < t.size) = true := by simp; omega
    by_cases g1 : t[m].toNat < 32
    · have d1 : decide ((t[m].toNat : Int) < 32) = true := by simp; omega
      have HS := Lib.hid (HQ.out.bad (bad_ctl hm (.inl g1)))
      go_wp2_with fail
      go_ret2
      rw [HZ.out, HS.out]
      exact ⟨rfl, hB⟩
    have d1 : decide ((t[m].toNat : Int) < 32) = false := by simp; omega
    by_cases g2 : 126 < t[m].toNat
    · have d2 : decide ((126 : Int) < (t[m].toNat : Int)) = true := by simp; omega
      have HS := Lib.hid (HQ.out.bad (bad_ctl hm (.inr (.inl g2))))
      go_wp2_with fail
      go_ret2
      rw [HZ.out, HS.out]
      exact ⟨rfl, hB⟩
    have d2 : decide ((126 : Int) < (t[m].toNat : Int)) = false := by simp; omega
    by_cases g3 : t[m] = 34
    · have d3 : ((t[m].toNat : Int) == 34) = true := by rw [g3]; rfl
      have HS := Lib.hid (HQ.out.bad (bad_ctl hm (.inr (.inr g3))))
      clear g3
      go_wp2_with fail
      go_ret2
      rw [HZ.out, HS.out]
      exact ⟨rfl, hB⟩
    have d3 : ((t[m].toNat : Int) == 34) = false := by
      rw [beq_eq_false_iff_ne]
      intro e
      exact g3 (u8_eq (n := 34) (by omega) (by decide))
    have k9 : IntKind.i64.wrap ((m : Int) + 1) = (m : Int) + 1 := IntWalk.i64_in _ (by omega)
    by_cases g4 : t[m] = 92
    rotate_left
    · have d4 : ((t[m].toNat : Int) == 92) = false := by
        rw [beq_eq_false_iff_ne]
        intro e
        exact g4 (u8_eq (n := 92) (by omega) (by decide))
      have d5 : ((t[m].toNat : Int) != 92) = true := by rw [bne, d4]; rfl
      have HN := Lib.hid (HQ.out.plain hm (fun g => by rcases g with g | g | g; exact g1 g; exact g2 g; exact g3 g) g4)
      have HU := Lib.hid (u8_snoc acc t[m])
      have hA := (Below.refl wr.heap.size wr).alloc (Nat.le_refl _) (.cells #[.int .u8 (t[m].toNat : Int)] 5)
      have HO8 := Lib.hid (own_block HO.out (fun j hj => hA.block j (HO.out.lt j hj).2))
      have HA := Lib.hid hA
      clear g1 g2 g3 g4 hA
      go_wp2_with (first
        | (at_builtin; refine wpList_append_own _ rfl _ _ 35 rfl W.heap.size 5 i0 _ 1 1 Tryd.underlying35 hi0 hz0 hz1 hz2 rfl (by decide) v acc.length _ rfl HO8.out ⟨wr.heap.size, 0, none⟩ 1 1 [.int .u8 (t[m].toNat : Int)] rfl rfl ?d1 ?d2 ?d3 ?d4 ?d5 ?_))
      case d1 =>
        intro j q hj
        match j, hj with
        | 0, hj => simp at hj; subst hj; simp [Addr.add]
      case d2 => intro q hq; simp at hq; subst hq; rfl
      case d3 => unfold maxLen; omega
      case d4 => omega
      case d5 => simp; have := hB.size; omega
      intro v' w9 hown9 hg9 _
      rw [HU.out] at hown9
      have HO9 := Lib.hid (show w9.ownsRow W.heap.size 5 1 v' (acc ++ [t[m]]).length (u8s (acc ++ [t[m]])) by rw [List.length_append]; exact hown9)
      have hB9 := (hB.trans (HA.out.mono hB.size)).grown hg9 (by have := hB.size; simp; omega) (fun g hg => (HO.out.lt g hg).1)
      clear hown9 hg9
      go_wp2_with fail
      go_roundw
      case rel => exact ⟨m + 1, acc ++ [t[m]], _, rfl, by go_num, by omega, by simp; omega, HN.out, HO9.out, hB9⟩
      case measure => simp [intOf]; omega
    have d4 : ((t[m].toNat : Int) == 92) = true := by rw [g4]; rfl
    have d5 : ((t[m].toNat : Int) != 92) = false := by rw [bne, d4]; rfl
    have k7 : IntKind.i64.wrap ((m : Int) + 2) = (m : Int) + 2 := IntWalk.i64_in _ (by omega)
    by_cases h2 : m + 2 < t.size
    rotate_left
    · have j6 : decide ((t.size : Int) ≤ (m : Int) + 2) = true := by simp; omega
      have j7 : (t.size : Int) ≤ (m : Int) + 2 := by omega
      have HS := Lib.hid (HQ.out.bad (bad_hex hm g4 (.inl (by omega))))
      clear g1 g2 g3 g4 h2
      go_wp2_with fail
      go_ret2
      rw [HZ.out, HS.out]
      exact ⟨rfl, hB⟩
    have j6 : decide ((t.size : Int) ≤ (m : Int) + 2) = false := by simp; omega
    have j7 : ¬ (t.size : Int) ≤ (m : Int) + 2 := by omega
    have n1' : (0 : Int) ≤ (m : Int) + 1 := by omega
    have n2 : (0 : Int) ≤ (m : Int) + 2 := by omega
    have t1 : ((m : Int) + 1).toNat = m + 1 := by omega
    have t2 : ((m : Int) + 2).toNat = m + 2 := by omega
    have x1 : m + 1 < t.size := by omega
    have x2 : (m : Int) + 1 < t.size := by omega
    have x3 : (m : Int) + 2 < t.size := by omega
    have ha := hexv_le t[m + 1]
    have hb := hexv_le t[m + 2]
    have i1 := fun w => hexi_any t[m + 1] w
    have i2 := fun w => hexi_any t[m + 2] w
    by_cases gh : hexv t[m + 1] = 16 ∨ hexv t[m + 2] = 16
    · have HS := Lib.hid (HQ.out.bad (bad_hex hm g4 (.inr ⟨h2, gh⟩)))
      by_cases ga : hexv t[m + 1] = 16
      · have e1 : hx t[m + 1] = -1 := if_pos ga
        rw [e1] at i1
        have i1' := quiet_at i1
        have i2' := quiet_at i2
        clear g1 g2 g3 g4 e1 ga gh ha hb
        go_wp2_with fail
        go_quiet (first | (go_at_call 67; exact i1' _ _) | (go_at_call 67; exact i2' _ _))
        go_wp2_with fail
        go_ret2
        rw [HZ.out, HS.out]
        exact ⟨rfl, Sx.below_drewN hB _⟩
      · have e1 : hx t[m + 1] = (hexv t[m + 1] : Int) := if_neg ga
        have e2 : hx t[m + 2] = -1 := if_pos (gh.resolve_left ga)
        rw [e1] at i1
        rw [e2] at i2
        have i1' := quiet_at i1
        have i2' := quiet_at i2
        have l1 : ¬ (hexv t[m + 1] : Int) < 0 := by omega
        clear g1 g2 g3 g4 e1 e2 ga gh ha hb
        go_wp2_with fail
        go_quiet (first | (go_at_call 67; exact i1' _ _) | (go_at_call 67; exact i2' _ _))
        go_wp2_with fail
        go_ret2
        rw [HZ.out, HS.out]
        exact ⟨rfl, Sx.below_drewN hB _⟩
    · have HN := Lib.hid (HQ.out.hex h2 g4 (fun e => gh (.inl e)) (fun e => gh (.inr e)))
      have e1 : hx t[m + 1] = (hexv t[m + 1] : Int) := if_neg (fun e => gh (.inl e))
      have e2 : hx t[m + 2] = (hexv t[m + 2] : Int) := if_neg (fun e => gh (.inr e))
      rw [e1] at i1
      rw [e2] at i2
      have i1' := quiet_at i1
      have i2' := quiet_at i2
      have l1 : ¬ (hexv t[m + 1] : Int) < 0 := by omega
      have l2 : ¬ (hexv t[m + 2] : Int) < 0 := by omega
      clear g1 g2 g3 g4 e1 e2
      go_wp2_with fail
      go_quiet (first | (go_at_call 67; exact i1' _ _) | (go_at_call 67; exact i2' _ _))
      replace HO := Lib.hid (own_block HO.out (w' := wr.drewN nq) (fun _ _ => rfl))
      replace hB := Sx.below_drewN hB nq
      generalize wr.drewN nq = wr at *
      have qv := or_hexv (a := hexv t[m + 1]) (b := hexv t[m + 2]) (by omega) (by omega)
      obtain ⟨c, hc⟩ : ∃ c, c = UInt8.ofNat (16 * hexv t[m + 1] + hexv t[m + 2]) := ⟨_, rfl⟩
      rw [← hc] at qv HN
      have HU := Lib.hid (u8_snoc acc c)
      have k6 : IntKind.i64.wrap ((m : Int) + 2 + 1) = (m : Int) + 3 := by rw [IntWalk.i64_in _ (by omega)]; omega
      have k8 : IntKind.i64.wrap ((m : Int) + 3) = (m : Int) + 3 := IntWalk.i64_in _ (by omega)
      clear hc gh i1 i2 i1' i2'
      have hA := (Below.refl wr.heap.size wr).alloc (Nat.le_refl _) (.cells #[.int .u8 (c.toNat : Int)] 5)
      have HO8 := Lib.hid (own_block HO.out (fun j hj => hA.block j (HO.out.lt j hj).2))
      have HA := Lib.hid hA
      clear hA
      go_wp2_with (first
        | (at_builtin; refine wpList_append_own _ rfl _ _ 35 rfl W.heap.size 5 i0 _ 1 1 Tryd.underlying35 hi0 hz0 hz1 hz2 rfl (by decide) v acc.length _ rfl HO8.out ⟨wr.heap.size, 0, none⟩ 1 1 [.int .u8 (c.toNat : Int)] rfl rfl ?d1 ?d2 ?d3 ?d4 ?d5 ?_))
      case d1 =>
        intro j q hj
        match j, hj with
        | 0, hj => simp at hj; subst hj; simp [Addr.add]
      case d2 => intro q hq; simp at hq; subst hq; rfl
      case d3 => unfold maxLen; omega
      case d4 => omega
      case d5 => simp; have := hB.size; omega
      intro v' w9 hown9 hg9 _
      rw [HU.out] at hown9
      have HO9 := Lib.hid (show w9.ownsRow W.heap.size 5 1 v' (acc ++ [c]).length (u8s (acc ++ [c])) by rw [List.length_append]; exact hown9)
      have hB9 := (hB.trans (HA.out.mono hB.size)).grown hg9 (by have := hB.size; simp; omega) (fun g hg => (HO.out.lt g hg).1)
      clear hown9 hg9
      go_wp2_with fail
      go_roundw
      case rel => exact ⟨m + 3, acc ++ [c], _, rfl, by go_num, by omega, by simp; omega, HN.out, HO9.out, hB9⟩
      case measure => simp [intOf]; omega
end Aw
end Go.Proofs.YtipcockcndnipaaDoor
