/-
  Walks: a text between quotes (asm.quoted, the reference's Quoted). (printed by gen_AwQ.py)
-/
import Derived.Test.YtipcockcndnipaaDoorMAwA
namespace Go.Proofs.YtipcockcndnipaaDoor
open Go.RowKit
namespace Aw
open As

def hexE (c : UInt8) : ByteArray := ⟨#[92, hexDig (c.toNat / 16), hexDig (c.toNat % 16)]⟩
theorem hexD_at : ∀ i : Fin 16, hexD.data[i.val]? = some (hexDig i.val) := by decide +kernel
theorem hexD_get {i : Nat} (h : i < hexD.size) (hi : i < 16) : hexD[i] = hexDig i := by
  have := hexD_at ⟨i, hi⟩
  have e : hexD.data[i]? = some (hexD[i]) := Array.getElem?_eq_getElem (by exact h)
  rw [e] at this
  exact Option.some.inj this
theorem hexD_div (c : UInt8) : ∀ h, (⟨#[48, 49, 50, 51, 52, 53, 54, 55, 56, 57, 97, 98, 99, 100, 101, 102]⟩ : ByteArray)[((c.toNat : Int) / 16).toNat]'h = hexDig (c.toNat / 16) := fun h => by
  have e : ((c.toNat : Int) / 16).toNat = c.toNat / 16 := by omega
  exact (hexD_get (i := ((c.toNat : Int) / 16).toNat) h (by have := c.toNat_lt; omega)).trans (by rw [e])
theorem hexD_and (c : UInt8) : ∀ h, (⟨#[48, 49, 50, 51, 52, 53, 54, 55, 56, 57, 97, 98, 99, 100, 101, 102]⟩ : ByteArray)[((c.toNat : Int) % 16).toNat]'h = hexDig (c.toNat % 16) := fun h => by
  have e : ((c.toNat : Int) % 16).toNat = c.toNat % 16 := by omega
  exact (hexD_get (i := ((c.toNat : Int) % 16).toNat) h (by omega)).trans (by rw [e])
theorem esc_hex {c : UInt8} (h : c.toNat < 32 ∨ 126 < c.toNat ∨ c = 34 ∨ c = 92) : escB c = (hexE c).data.toList := by unfold escB; rw [if_pos h]; rfl
theorem take_esc {s : ByteArray} {k : Nat} (h : k < s.size) : (s.data.toList.take (k + 1)).flatMap escB = (s.data.toList.take k).flatMap escB ++ escB s[k] := by
  have hz := Lib.size_eq s
  rw [List.take_succ_eq_append_getElem (by omega), List.flatMap_append]
  simp
  rfl
theorem esc_one {c : UInt8} (h : ¬ (c.toNat < 32 ∨ 126 < c.toNat ∨ c = 34 ∨ c = 92)) : escB c = [c] := by unfold escB; rw [if_neg h]
theorem esc_size (c : UInt8) : (escB c).length ≤ 3 := by unfold escB; split <;> simp
theorem esc_le (l : List UInt8) : (l.flatMap escB).length ≤ 3 * l.length := by
  induction l with
  | nil => simp
  | cons c l ih => rw [List.flatMap_cons, List.length_append, List.length_cons]; have := esc_size c; omega
set_option maxHeartbeats 4000000 in
set_option maxRecDepth 100000 in
theorem quote_any (s : ByteArray) (W : World) (hs : s.size ≤ 1000000) : Calls Tryd.prog 15 #[.string s] W fun e W' => e = .returned (.string ⟨(quoteL s.data.toList).toArray⟩) ∧ Below W.heap.size W W' := by
  obtain ⟨i0, hi0, hz0, hz1, hz2⟩ := info_parts info_u8
  have HZ := Lib.hid (Lib.size_eq s)
  have hO0 : (W.alloc (.cells #[.int .u8 34] 5)).ownsRow W.heap.size 5 1 (.slice (some ⟨W.heap.size, 0, none⟩) 1 1) 1 [.int .u8 34] := World.ownsRow_lit W #[.int .u8 34] 1 (Nat.le_refl _) (by unfold maxLen; omega) rfl
  have hA : Below W.heap.size W (W.alloc (.cells #[.int .u8 34] 5)) := (Below.refl _ _).alloc (Nat.le_refl _) _
  go_enter Tryd.func15, Tryd.ntmps15
  go_wp2_with fail
  go_loopw [3, 9] (fun kv i wr => ∃ (k : Nat) (acc : List UInt8) (v : Value), v = kv ∧ i = .int .i64 k ∧ k ≤ s.size ∧ acc = 34 :: (s.data.toList.take k).flatMap escB ∧ wr.ownsRow W.heap.size 5 1 v acc.length (u8s acc) ∧ Below W.heap.size W wr) (fun kv i _ => s.size - (intOf i).toNat)
  case atStart => exact ⟨0, [34], _, rfl, rfl, Nat.zero_le _, rfl, hO0, hA⟩
  case round =>
    obtain ⟨k, acc, v, rfl, rfl, hk1, hacc, hO, hB⟩ := hrel
    have HA := Lib.hid hacc
    clear hacc
    have HO := Lib.hid hO
    clear hO hO0 hA
    have HOL := Lib.hid (show acc.length ≤ 4000000 by rw [HA.out]; have := esc_le (s.data.toList.take k); rw [List.length_take] at this; simp only [List.length_cons]; omega)
    by_cases hlt : k < s.size
    · have j0 : decide ((k : Int) < (s.size : Int)) = true := by simp; omega
      have HT := Lib.hid (take_esc (s := s) hlt)
      by_cases g1 : s[k].toNat < 32
      · have j1 : decide ((s[k].toNat : Int) < 32) = true := by simp; omega
        have j1' : decide (32 ≤ (s[k].toNat : Int)) = false := by simp; omega
        have x1 := hexD_div s[k]
        have x2 := hexD_and s[k]
        have y1 : (s[k].toNat : Int) / 16 < 16 := by have := s[k].toNat_lt; omega
        have HS1 := Lib.hid (esc_hex (c := s[k]) (.inl g1))
        clear g1
        go_wp2_with fail
        refine Mix.region (fun w' => ∃ Y, w' = Sx.ext wr Y) 8 [0, 0, 0, 0, 0, 0, 0, 1, 9, 9] [true, false] (by kernel_rfl) (fun _ _ d _ _ h => by cases d <;> exact h) (by rfl) (by kernel_rfl) ⟨wr.drew, Sx.ext_of (Below.refl _ _).drew⟩ ?_
        simp only [Mix.selP_cons, Mix.selP_nil, Mix.sel_cons, Mix.sel_nil, Nat.reduceBEq, Nat.reduceAdd, cond_true, cond_false, List.drop_succ_cons, List.drop_zero]
        refine Mix.parts_q ?_
        repeat (go_big_quiet_step (fail))
        refine wpQuiet_nil ?_
        refine Mix.parts_e ?_
        refine Mix.eff_step (fun K hK => ?_)
        go_simp
        have hB7 := (Below.refl wr.heap.size wr).drew.alloc (Nat.le_refl _) (.cells #[.int .u8 92, .int .u8 ((hexDig (s[k].toNat / 16)).toNat : Int), .int .u8 ((hexDig (s[k].toNat % 16)).toNat : Int)] 5)
        refine hK _ _ ⟨_, Sx.ext_of hB7⟩ ?_
        clear hK K x1 x2 y1
        refine Mix.eff_nil (Mix.parts_n ?_)
        have HO8 := Lib.hid (own_block HO.out (fun j hj => hB7.block j (HO.out.lt j hj).2))
        go_wp2_with (first
          | (at_builtin; refine wpList_append_own _ rfl _ _ 35 rfl W.heap.size 5 i0 _ 1 1 Tryd.underlying35 hi0 hz0 hz1 hz2 rfl (by decide) v acc.length _ rfl HO8.out ⟨wr.heap.size, 0, none⟩ 3 3 [.int .u8 92, .int .u8 ((hexDig (s[k].toNat / 16)).toNat : Int), .int .u8 ((hexDig (s[k].toNat % 16)).toNat : Int)] rfl rfl ?d1 ?d2 ?d3 ?d4 ?d5 ?_))
        case d1 =>
          intro j q hj
          match j, hj with
          | 0, hj => simp at hj; subst hj; simp [Addr.add]
          | 1, hj => simp at hj; subst hj; simp [Addr.add]
          | 2, hj => simp at hj; subst hj; simp [Addr.add]
        case d2 => intro q hq; simp at hq; rcases hq with rfl | rfl | rfl <;> rfl
        case d3 => unfold maxLen; have := HOL.out; omega
        case d4 => have := HOL.out; omega
        case d5 => simp; have := hB.size; omega
        intro v' w9 hown9 hg9 _
        have hU : u8s acc ++ [.int .u8 92, .int .u8 ((hexDig (s[k].toNat / 16)).toNat : Int), .int .u8 ((hexDig (s[k].toNat % 16)).toNat : Int)] = u8s (acc ++ escB s[k]) := by rw [HS1.out, u8s_app]; rfl
        rw [hU, show acc.length + 3 = (acc ++ escB s[k]).length by rw [HS1.out, List.length_append]; rfl] at hown9
        have HO9 := Lib.hid hown9
        have hB9 := (hB.trans (hB7.mono hB.size)).grown hg9 (by have := hB.size; simp; omega) (fun g hg => (HO.out.lt g hg).1)
        clear hU hown9 hg9 hB7
        go_wp2_with fail
        go_roundw
        case rel => exact ⟨k + 1, acc ++ escB s[k], _, rfl, by go_num, hlt, by rw [HT.out, HA.out]; rfl, HO9.out, hB9⟩
        case measure => simp [intOf]; omega
      · have j1 : decide ((s[k].toNat : Int) < 32) = false := by simp; omega
        have j1' : decide (32 ≤ (s[k].toNat : Int)) = true := by simp; omega
        by_cases g2 : 126 < s[k].toNat
        · have j2 : decide ((126 : Int) < (s[k].toNat : Int)) = true := by simp; omega
          have j2' : decide ((s[k].toNat : Int) ≤ 126) = false := by simp; omega
          have x1 := hexD_div s[k]
          have x2 := hexD_and s[k]
          have y1 : (s[k].toNat : Int) / 16 < 16 := by have := s[k].toNat_lt; omega
          have HS1 := Lib.hid (esc_hex (c := s[k]) (.inr (.inl g2)))
          clear g1 g2
          go_wp2_with fail
          refine Mix.region (fun w' => ∃ Y, w' = Sx.ext wr Y) 8 [0, 0, 0, 0, 0, 0, 0, 1, 9, 9] [true, false] (by kernel_rfl) (fun _ _ d _ _ h => by cases d <;> exact h) (by rfl) (by kernel_rfl) ⟨wr.drew, Sx.ext_of (Below.refl _ _).drew⟩ ?_
          simp only [Mix.selP_cons, Mix.selP_nil, Mix.sel_cons, Mix.sel_nil, Nat.reduceBEq, Nat.reduceAdd, cond_true, cond_false, List.drop_succ_cons, List.drop_zero]
          refine Mix.parts_q ?_
          repeat (go_big_quiet_step (fail))
          refine wpQuiet_nil ?_
          refine Mix.parts_e ?_
          refine Mix.eff_step (fun K hK => ?_)
          go_simp
          have hB7 := (Below.refl wr.heap.size wr).drew.alloc (Nat.le_refl _) (.cells #[.int .u8 92, .int .u8 ((hexDig (s[k].toNat / 16)).toNat : Int), .int .u8 ((hexDig (s[k].toNat % 16)).toNat : Int)] 5)
          refine hK _ _ ⟨_, Sx.ext_of hB7⟩ ?_
          clear hK K x1 x2 y1
          refine Mix.eff_nil (Mix.parts_n ?_)
          have HO8 := Lib.hid (own_block HO.out (fun j hj => hB7.block j (HO.out.lt j hj).2))
          go_wp2_with (first
            | (at_builtin; refine wpList_append_own _ rfl _ _ 35 rfl W.heap.size 5 i0 _ 1 1 Tryd.underlying35 hi0 hz0 hz1 hz2 rfl (by decide) v acc.length _ rfl HO8.out ⟨wr.heap.size, 0, none⟩ 3 3 [.int .u8 92, .int .u8 ((hexDig (s[k].toNat / 16)).toNat : Int), .int .u8 ((hexDig (s[k].toNat % 16)).toNat : Int)] rfl rfl ?d1 ?d2 ?d3 ?d4 ?d5 ?_))
          case d1 =>
            intro j q hj
            match j, hj with
            | 0, hj => simp at hj; subst hj; simp [Addr.add]
            | 1, hj => simp at hj; subst hj; simp [Addr.add]
            | 2, hj => simp at hj; subst hj; simp [Addr.add]
          case d2 => intro q hq; simp at hq; rcases hq with rfl | rfl | rfl <;> rfl
          case d3 => unfold maxLen; have := HOL.out; omega
          case d4 => have := HOL.out; omega
          case d5 => simp; have := hB.size; omega
          intro v' w9 hown9 hg9 _
          have hU : u8s acc ++ [.int .u8 92, .int .u8 ((hexDig (s[k].toNat / 16)).toNat : Int), .int .u8 ((hexDig (s[k].toNat % 16)).toNat : Int)] = u8s (acc ++ escB s[k]) := by rw [HS1.out, u8s_app]; rfl
          rw [hU, show acc.length + 3 = (acc ++ escB s[k]).length by rw [HS1.out, List.length_append]; rfl] at hown9
          have HO9 := Lib.hid hown9
          have hB9 := (hB.trans (hB7.mono hB.size)).grown hg9 (by have := hB.size; simp; omega) (fun g hg => (HO.out.lt g hg).1)
          clear hU hown9 hg9 hB7
          go_wp2_with fail
          go_roundw
          case rel => exact ⟨k + 1, acc ++ escB s[k], _, rfl, by go_num, hlt, by rw [HT.out, HA.out]; rfl, HO9.out, hB9⟩
          case measure => simp [intOf]; omega
        · have j2 : decide ((126 : Int) < (s[k].toNat : Int)) = false := by simp; omega
          have j2' : decide ((s[k].toNat : Int) ≤ 126) = true := by simp; omega
          by_cases g3 : s[k] = 34
          · have j3 : ((s[k].toNat : Int) == 34) = true := by rw [g3]; rfl
            have j3' : ((s[k].toNat : Int) != 34) = false := by rw [bne, j3]; rfl
            have x1 := hexD_div s[k]
            have x2 := hexD_and s[k]
            have y1 : (s[k].toNat : Int) / 16 < 16 := by have := s[k].toNat_lt; omega
            have HS1 := Lib.hid (esc_hex (c := s[k]) (.inr (.inr (.inl g3))))
            clear g1 g2 g3
            go_wp2_with fail
            refine Mix.region (fun w' => ∃ Y, w' = Sx.ext wr Y) 8 [0, 0, 0, 0, 0, 0, 0, 1, 9, 9] [true, false] (by kernel_rfl) (fun _ _ d _ _ h => by cases d <;> exact h) (by rfl) (by kernel_rfl) ⟨wr.drew, Sx.ext_of (Below.refl _ _).drew⟩ ?_
            simp only [Mix.selP_cons, Mix.selP_nil, Mix.sel_cons, Mix.sel_nil, Nat.reduceBEq, Nat.reduceAdd, cond_true, cond_false, List.drop_succ_cons, List.drop_zero]
            refine Mix.parts_q ?_
            repeat (go_big_quiet_step (fail))
            refine wpQuiet_nil ?_
            refine Mix.parts_e ?_
            refine Mix.eff_step (fun K hK => ?_)
            go_simp
            have hB7 := (Below.refl wr.heap.size wr).drew.alloc (Nat.le_refl _) (.cells #[.int .u8 92, .int .u8 ((hexDig (s[k].toNat / 16)).toNat : Int), .int .u8 ((hexDig (s[k].toNat % 16)).toNat : Int)] 5)
            refine hK _ _ ⟨_, Sx.ext_of hB7⟩ ?_
            clear hK K x1 x2 y1
            refine Mix.eff_nil (Mix.parts_n ?_)
            have HO8 := Lib.hid (own_block HO.out (fun j hj => hB7.block j (HO.out.lt j hj).2))
            go_wp2_with (first
              | (at_builtin; refine wpList_append_own _ rfl _ _ 35 rfl W.heap.size 5 i0 _ 1 1 Tryd.underlying35 hi0 hz0 hz1 hz2 rfl (by decide) v acc.length _ rfl HO8.out ⟨wr.heap.size, 0, none⟩ 3 3 [.int .u8 92, .int .u8 ((hexDig (s[k].toNat / 16)).toNat : Int), .int .u8 ((hexDig (s[k].toNat % 16)).toNat : Int)] rfl rfl ?d1 ?d2 ?d3 ?d4 ?d5 ?_))
            case d1 =>
              intro j q hj
              match j, hj with
              | 0, hj => simp at hj; subst hj; simp [Addr.add]
              | 1, hj => simp at hj; subst hj; simp [Addr.add]
              | 2, hj => simp at hj; subst hj; simp [Addr.add]
            case d2 => intro q hq; simp at hq; rcases hq with rfl | rfl | rfl <;> rfl
            case d3 => unfold maxLen; have := HOL.out; omega
            case d4 => have := HOL.out; omega
            case d5 => simp; have := hB.size; omega
            intro v' w9 hown9 hg9 _
            have hU : u8s acc ++ [.int .u8 92, .int .u8 ((hexDig (s[k].toNat / 16)).toNat : Int), .int .u8 ((hexDig (s[k].toNat % 16)).toNat : Int)] = u8s (acc ++ escB s[k]) := by rw [HS1.out, u8s_app]; rfl
            rw [hU, show acc.length + 3 = (acc ++ escB s[k]).length by rw [HS1.out, List.length_append]; rfl] at hown9
            have HO9 := Lib.hid hown9
            have hB9 := (hB.trans (hB7.mono hB.size)).grown hg9 (by have := hB.size; simp; omega) (fun g hg => (HO.out.lt g hg).1)
            clear hU hown9 hg9 hB7
            go_wp2_with fail
            go_roundw
            case rel => exact ⟨k + 1, acc ++ escB s[k], _, rfl, by go_num, hlt, by rw [HT.out, HA.out]; rfl, HO9.out, hB9⟩
            case measure => simp [intOf]; omega
          · have j3 : ((s[k].toNat : Int) == 34) = false := by
              rw [beq_eq_false_iff_ne]
              intro e
              exact g3 (u8_eq (n := 34) (by omega) (by decide))
            have j3' : ((s[k].toNat : Int) != 34) = true := by rw [bne, j3]; rfl
            by_cases g4 : s[k] = 92
            · have j4 : ((s[k].toNat : Int) == 92) = true := by rw [g4]; rfl
              have j4' : ((s[k].toNat : Int) != 92) = false := by rw [bne, j4]; rfl
              have x1 := hexD_div s[k]
              have x2 := hexD_and s[k]
              have y1 : (s[k].toNat : Int) / 16 < 16 := by have := s[k].toNat_lt; omega
              have HS1 := Lib.hid (esc_hex (c := s[k]) (.inr (.inr (.inr g4))))
              clear g1 g2 g3 g4
              go_wp2_with fail
              refine Mix.region (fun w' => ∃ Y, w' = Sx.ext wr Y) 8 [0, 0, 0, 0, 0, 0, 0, 1, 9, 9] [true, false] (by kernel_rfl) (fun _ _ d _ _ h => by cases d <;> exact h) (by rfl) (by kernel_rfl) ⟨wr.drew, Sx.ext_of (Below.refl _ _).drew⟩ ?_
              simp only [Mix.selP_cons, Mix.selP_nil, Mix.sel_cons, Mix.sel_nil, Nat.reduceBEq, Nat.reduceAdd, cond_true, cond_false, List.drop_succ_cons, List.drop_zero]
              refine Mix.parts_q ?_
              repeat (go_big_quiet_step (fail))
              refine wpQuiet_nil ?_
              refine Mix.parts_e ?_
              refine Mix.eff_step (fun K hK => ?_)
              go_simp
              have hB7 := (Below.refl wr.heap.size wr).drew.alloc (Nat.le_refl _) (.cells #[.int .u8 92, .int .u8 ((hexDig (s[k].toNat / 16)).toNat : Int), .int .u8 ((hexDig (s[k].toNat % 16)).toNat : Int)] 5)
              refine hK _ _ ⟨_, Sx.ext_of hB7⟩ ?_
              clear hK K x1 x2 y1
              refine Mix.eff_nil (Mix.parts_n ?_)
              have HO8 := Lib.hid (own_block HO.out (fun j hj => hB7.block j (HO.out.lt j hj).2))
              go_wp2_with (first
                | (at_builtin; refine wpList_append_own _ rfl _ _ 35 rfl W.heap.size 5 i0 _ 1 1 Tryd.underlying35 hi0 hz0 hz1 hz2 rfl (by decide) v acc.length _ rfl HO8.out ⟨wr.heap.size, 0, none⟩ 3 3 [.int .u8 92, .int .u8 ((hexDig (s[k].toNat / 16)).toNat : Int), .int .u8 ((hexDig (s[k].toNat % 16)).toNat : Int)] rfl rfl ?d1 ?d2 ?d3 ?d4 ?d5 ?_))
              case d1 =>
                intro j q hj
                match j, hj with
                | 0, hj => simp at hj; subst hj; simp [Addr.add]
                | 1, hj => simp at hj; subst hj; simp [Addr.add]
                | 2, hj => simp at hj; subst hj; simp [Addr.add]
              case d2 => intro q hq; simp at hq; rcases hq with rfl | rfl | rfl <;> rfl
              case d3 => unfold maxLen; have := HOL.out; omega
              case d4 => have := HOL.out; omega
              case d5 => simp; have := hB.size; omega
              intro v' w9 hown9 hg9 _
              have hU : u8s acc ++ [.int .u8 92, .int .u8 ((hexDig (s[k].toNat / 16)).toNat : Int), .int .u8 ((hexDig (s[k].toNat % 16)).toNat : Int)] = u8s (acc ++ escB s[k]) := by rw [HS1.out, u8s_app]; rfl
              rw [hU, show acc.length + 3 = (acc ++ escB s[k]).length by rw [HS1.out, List.length_append]; rfl] at hown9
              have HO9 := Lib.hid hown9
              have hB9 := (hB.trans (hB7.mono hB.size)).grown hg9 (by have := hB.size; simp; omega) (fun g hg => (HO.out.lt g hg).1)
              clear hU hown9 hg9 hB7
              go_wp2_with fail
              go_roundw
              case rel => exact ⟨k + 1, acc ++ escB s[k], _, rfl, by go_num, hlt, by rw [HT.out, HA.out]; rfl, HO9.out, hB9⟩
              case measure => simp [intOf]; omega
            · have j4 : ((s[k].toNat : Int) == 92) = false := by
                rw [beq_eq_false_iff_ne]
                intro e
                exact g4 (u8_eq (n := 92) (by omega) (by decide))
              have j4' : ((s[k].toNat : Int) != 92) = true := by rw [bne, j4]; rfl
              have HS1 := Lib.hid (esc_one (c := s[k]) (fun e => e.elim g1 fun e => e.elim g2 fun e => e.elim g3 g4))
              clear g1 g2 g3 g4
              have hB7 := (Below.refl wr.heap.size wr).alloc (Nat.le_refl _) (.cells #[.int .u8 (s[k].toNat : Int)] 5)
              have HO8 := Lib.hid (own_block HO.out (fun j hj => hB7.block j (HO.out.lt j hj).2))
              go_wp2_with (first
                | (at_builtin; refine wpList_append_own _ rfl _ _ 35 rfl W.heap.size 5 i0 _ 1 1 Tryd.underlying35 hi0 hz0 hz1 hz2 rfl (by decide) v acc.length _ rfl HO8.out ⟨wr.heap.size, 0, none⟩ 1 1 [.int .u8 (s[k].toNat : Int)] rfl rfl ?d1 ?d2 ?d3 ?d4 ?d5 ?_))
              case d1 =>
                intro j q hj
                match j, hj with
                | 0, hj => simp at hj; subst hj; simp [Addr.add]
              case d2 => intro q hq; simp at hq; subst hq; rfl
              case d3 => unfold maxLen; have := HOL.out; omega
              case d4 => have := HOL.out; omega
              case d5 => simp; have := hB.size; omega
              intro v' w9 hown9 hg9 _
              have hU : u8s acc ++ [.int .u8 (s[k].toNat : Int)] = u8s (acc ++ escB s[k]) := by rw [HS1.out, u8s_app]; rfl
              rw [hU, show acc.length + 1 = (acc ++ escB s[k]).length by rw [HS1.out, List.length_append]; rfl] at hown9
              have HO9 := Lib.hid hown9
              have hB9 := (hB.trans (hB7.mono hB.size)).grown hg9 (by have := hB.size; simp; omega) (fun g hg => (HO.out.lt g hg).1)
              clear hU hown9 hg9 hB7
              go_wp2_with fail
              go_roundw
              case rel => exact ⟨k + 1, acc ++ escB s[k], _, rfl, by go_num, hlt, by rw [HT.out, HA.out]; rfl, HO9.out, hB9⟩
              case measure => simp [intOf]; omega
    · have j0 : decide ((k : Int) < (s.size : Int)) = false := by simp; omega
      have HQ := Lib.hid (show quoteL s.data.toList = acc ++ [34] by rw [HA.out]; rw [List.take_of_length_le (by rw [← HZ.out]; omega)]; rfl)
      have hB7 := (Below.refl wr.heap.size wr).alloc (Nat.le_refl _) (.cells #[.int .u8 34] 5)
      have HO8 := Lib.hid (own_block HO.out (fun j hj => hB7.block j (HO.out.lt j hj).2))
      go_wp2_with (first
        | (at_builtin; refine wpList_append_own _ rfl _ _ 35 rfl W.heap.size 5 i0 _ 1 1 Tryd.underlying35 hi0 hz0 hz1 hz2 rfl (by decide) v acc.length _ rfl HO8.out ⟨wr.heap.size, 0, none⟩ 1 1 [.int .u8 34] rfl rfl ?d1 ?d2 ?d3 ?d4 ?d5 ?_))
      case d1 =>
        intro j q hj
        match j, hj with
        | 0, hj => simp at hj; subst hj; simp [Addr.add]
      case d2 => intro q hq; simp at hq; subst hq; rfl
      case d3 => unfold maxLen; have := HOL.out; omega
      case d4 => have := HOL.out; omega
      case d5 => simp; have := hB.size; omega
      intro v' w9 hown9 hg9 _
      have hB9 := (hB.trans (hB7.mono hB.size)).grown hg9 (by have := hB.size; simp; omega) (fun g hg => (HO.out.lt g hg).1)
      have hU : u8s acc ++ [.int .u8 34] = u8s (acc ++ [34]) := (u8s_app acc [34]).symm
      rw [hU, show acc.length + 1 = (acc ++ [34]).length by rw [List.length_append]; rfl] at hown9
      have hcv := conv_any hown9
      clear hU hown9 hg9 hB7
      go_wp2_with fail
      go_ret
      rw [HQ.out]
      exact ⟨rfl, hB9⟩
end Aw
end Go.Proofs.YtipcockcndnipaaDoor
