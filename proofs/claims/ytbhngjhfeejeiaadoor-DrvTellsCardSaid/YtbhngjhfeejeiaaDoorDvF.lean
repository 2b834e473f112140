/-
  Walks: Encode of the reference, Key of both texts, what the law's own helpers answer.
-/
import Derived.Test.YtbhngjhfeejeiaaDoorDvE
namespace Go.Proofs.YtbhngjhfeejeiaaDoor
open Go.RowKit Sx
namespace Dv

theorem SI.empty (W : World) : SI W (.slice none 0 0) [] := ⟨Option.none, 0, rfl, by simp, fun i x hx => by simp at hx⟩
def NS (d : D) : ByteArray := if goodD d = true then ES (enc (drvT d)) else ⟨#[]⟩
def NE (d : D) : Int := if goodD d = true then EE (enc (drvT d)) else 1
theorem ENV_eq (d : D) : ENV d = .tuple #[.string (NS d), .int .i64 (NE d)] := by
  unfold ENV NS NE
  cases goodD d
  · rfl
  · simp only [if_true]
    exact EV_eq _
set_option maxHeartbeats 1000000 in
theorem encoder_any (d : D) (v : Value) (W : World) (hS : SI W v d.ins) (hD : DB d) (hE : Env W) (hE0 : Vs.Env0 W) :
    Calls Tryd.prog 8 #[DV d v] W fun e W' => e = .returned (ENV d) ∧ Below W.heap.size W W' := by
  have hC := DC.new W d v
  have hX := (Below.refl W.heap.size W).alloc (Nat.le_refl _) (DO d v)
  have hS1 := hS.below ((Below.refl _ _).alloc (Nat.le_refl _) (DO d v))
  have hgd := goodr_any d v (W.alloc (DO d v)) hS1 hD
  cases hg : goodD d
  · have hx := Lib.hid (ENV_bad hg)
    rw [hg] at hgd
    clear hg
    go_enter Tryd.func8, Tryd.ntmps8
    go_wp2_with fail
    refine hgd.mono ?_
    rintro e w1 ⟨rfl, hb1⟩
    clear hgd
    go_wp2_with fail
    go_ret2
    exact ⟨congrArg Ending.returned hx.out.symm, trans' hX hb1⟩
  · have hx := Lib.hid (ENV_ok hg)
    have h40 := good_len hg
    rw [hg] at hgd
    clear hg
    go_enter Tryd.func8, Tryd.ntmps8
    go_wp2_with fail
    refine hgd.mono ?_
    rintro e w1 ⟨rfl, hb1⟩
    have hB1 := trans' hX hb1
    obtain ⟨c0, c1, c2, c3, c4, c5⟩ := (⟨(hC.below hb1).c0, (hC.below hb1).c1, (hC.below hb1).c2, (hC.below hb1).c3, (hC.below hb1).c4, (hC.below hb1).c5⟩ : _ ∧ _ ∧ _ ∧ _ ∧ _ ∧ _)
    have hnd := noder_any d v w1 (hS1.below hb1) h40 (hE0.below (Nat.le_refl _) hB1)
    clear hgd
    go_wp2_with fail
    refine hnd.mono ?_
    rintro e w2 ⟨u, rfl, hrep, hb2⟩
    have hB2 := trans' hB1 hb2
    have hEV := sexpr_any 3 (drvT d) u w2 hrep (hE.below hB2) (by omega)
    rw [EV_eq] at hEV hx
    clear hnd hrep
    go_wp2_with fail
    refine hEV.mono ?_
    rintro e w3 ⟨rfl, hb3⟩
    clear hEV
    go_wp2_with fail
    go_ret2
    exact ⟨congrArg Ending.returned hx.out.symm, trans' hB2 hb3⟩
theorem st_in (h c : Int) : 0 ≤ Mx.st h c ∧ Mx.st h c < 18446744073709551616 := by
  unfold Mx.st
  dsimp only
  generalize bits BinOp.xor IntKind.u64 _ _ = a
  show 0 ≤ (a + 15111065706836454659) % 18446744073709551616 ∧ (a + 15111065706836454659) % 18446744073709551616 < 18446744073709551616
  omega
theorem mixL_in : ∀ (l : List UInt8) (h : Int), 0 ≤ h ∧ h < 18446744073709551616 → 0 ≤ Mx.mixL h l ∧ Mx.mixL h l < 18446744073709551616
  | [], _, hh => hh
  | c :: l, h, _ => mixL_in l (Mx.st h (c.toNat : Int)) (st_in h _)
theorem ofL_in (l : List UInt8) : 0 ≤ Mx.ofL l ∧ Mx.ofL l < 18446744073709551616 := mixL_in l _ (Mx.xor_in _ _)
/-- a key of so many bits -/
def keyS (l : List UInt8) (k : Int) : ByteArray := ⟨(Mx.tls (Mx.nar (Mx.ofL l).toNat k) 13).toArray⟩
theorem nar_lt (h : Nat) (k : Int) (hh : h < 18446744073709551616) : Mx.nar h k < 18446744073709551616 := by
  unfold Mx.nar
  split
  · exact hh
  · exact Nat.lt_of_le_of_lt (Nat.mod_le _ _) hh
def KYV (d : D) (k : Int) : Value := if NE d = 0 then .tuple #[.string (keyS (NS d).data.toList k), .int .i64 0] else .tuple #[.string ⟨#[]⟩, .int .i64 (NE d)]
theorem KYV_ok {d : D} {k : Int} (h : NE d = 0) : KYV d k = .tuple #[.string (keyS (NS d).data.toList k), .int .i64 0] := by unfold KYV; rw [if_pos h]
theorem KYV_no {d : D} {k : Int} (h : NE d ≠ 0) : KYV d k = .tuple #[.string ⟨#[]⟩, .int .i64 (NE d)] := by unfold KYV; rw [if_neg h]
theorem KYV_eq (d : D) (k : Int) : KYV d k = .tuple #[.string (if NE d = 0 then keyS (NS d).data.toList k else ⟨#[]⟩), .int .i64 (NE d)] := by
  unfold KYV
  by_cases h : NE d = 0
  · rw [if_pos h, if_pos h, h]
  · rw [if_neg h, if_neg h]
theorem NS_size (d : D) : (NS d).size ≤ 65536 := by
  unfold NS
  split
  · unfold ES
    split
    · decide
    · show (enc (drvT d)).length ≤ 65536
      omega
  · decide
set_option maxHeartbeats 1000000 in
theorem key18_any (d : D) (v : Value) (k : Int) (W : World) (hS : SI W v d.ins) (hE : Env W) (hE0 : Vs.Env0 W) :
    Calls Tryd.prog 9 #[DV d v, .int .i64 k] W fun e W' => e = .returned (KYV d k) ∧ Below W.heap.size W W' := by
  have hX := (Below.refl W.heap.size W).alloc (Nat.le_refl _) (DO d v)
  have hen := encode_any d v (W.alloc (DO d v)) (hS.below ((Below.refl _ _).alloc (Nat.le_refl _) (DO d v))) (hE.below hX) (hE0.below (Nat.le_refl _) hX)
  rw [ENV_eq] at hen
  by_cases hz : NE d = 0
  · have hx := Lib.hid (KYV_ok (k := k) hz)
    have ht := fun w => Mx.text_any (Mx.nar (Mx.ofL (NS d).data.toList).toNat k) w (nar_lt _ _ (by have := ofL_in (NS d).data.toList; omega))
    have hn := fun w => Mx.narrow_any (Mx.ofL (NS d).data.toList).toNat k w (by have := ofL_in (NS d).data.toList; omega)
    have ho := fun w => Mx.of_any (NS d) w (by have := NS_size d; omega)
    rw [hz] at hen
    have e1 : (((Mx.ofL (NS d).data.toList).toNat : Nat) : Int) = Mx.ofL (NS d).data.toList := by have := ofL_in (NS d).data.toList; omega
    rw [e1] at hn
    clear hz e1
    go_enter Tryd.func9, Tryd.ntmps9
    go_wp2_with fail
    refine hen.mono ?_
    rintro e w1 ⟨rfl, hb1⟩
    clear hen
    go_wp2_with fail
    refine (ho _).mono ?_
    rintro e w' ⟨rfl, rfl⟩
    clear ho
    go_wp2_with fail
    refine (hn _).mono ?_
    rintro e w' ⟨rfl, rfl⟩
    clear hn
    go_wp2_with fail
    refine (ht _).mono ?_
    rintro e w2 ⟨rfl, hb2⟩
    clear ht
    go_wp2_with fail
    go_ret2
    exact ⟨congrArg Ending.returned hx.out.symm, trans' (trans' hX hb1) hb2⟩
  · have hx := Lib.hid (KYV_no (k := k) hz)
    have hq : (NE d == 0) = false := by simpa using hz
    have hq2 : (NE d != 0) = true := by simpa using hz
    clear hz
    go_enter Tryd.func9, Tryd.ntmps9
    go_wp2_with fail
    refine hen.mono ?_
    rintro e w1 ⟨rfl, hb1⟩
    clear hen
    go_wp2_with fail
    go_ret2
    exact ⟨congrArg Ending.returned hx.out.symm, trans' hX hb1⟩
set_option maxHeartbeats 1000000 in
theorem keyr18_any (d : D) (v : Value) (k : Int) (W : World) (hS : SI W v d.ins) (hD : DB d) (hE : Env W) (hE0 : Vs.Env0 W) :
    Calls Tryd.prog 10 #[DV d v, .int .i64 k] W fun e W' => e = .returned (KYV d k) ∧ Below W.heap.size W W' := by
  have hX := (Below.refl W.heap.size W).alloc (Nat.le_refl _) (DO d v)
  have hen := encoder_any d v (W.alloc (DO d v)) (hS.below ((Below.refl _ _).alloc (Nat.le_refl _) (DO d v))) hD (hE.below hX) (hE0.below (Nat.le_refl _) hX)
  rw [ENV_eq] at hen
  by_cases hz : NE d = 0
  · have hx := Lib.hid (KYV_ok (k := k) hz)
    have ht := fun w => Mx.textr_any (Mx.nar (Mx.ofL (NS d).data.toList).toNat k) w (nar_lt _ _ (by have := ofL_in (NS d).data.toList; omega))
    have hn := fun w => Mx.narrowr_any (Mx.ofL (NS d).data.toList).toNat k w (by have := ofL_in (NS d).data.toList; omega)
    have ho := fun w => Mx.ofr_any (NS d) w (by have := NS_size d; omega)
    rw [hz] at hen
    have e1 : (((Mx.ofL (NS d).data.toList).toNat : Nat) : Int) = Mx.ofL (NS d).data.toList := by have := ofL_in (NS d).data.toList; omega
    rw [e1] at hn
    clear hz e1
    go_enter Tryd.func10, Tryd.ntmps10
    go_wp2_with fail
    refine hen.mono ?_
    rintro e w1 ⟨rfl, hb1⟩
    clear hen
    go_wp2_with fail
    refine (ho _).mono ?_
    rintro e w' ⟨rfl, rfl⟩
    clear ho
    go_wp2_with fail
    refine (hn _).mono ?_
    rintro e w' ⟨rfl, rfl⟩
    clear hn
    go_wp2_with fail
    refine (ht _).mono ?_
    rintro e w2 ⟨rfl, hb2⟩
    clear ht
    go_wp2_with fail
    go_ret2
    exact ⟨congrArg Ending.returned hx.out.symm, trans' (trans' hX hb1) hb2⟩
  · have hx := Lib.hid (KYV_no (k := k) hz)
    have hq : (NE d == 0) = false := by simpa using hz
    have hq2 : (NE d != 0) = true := by simpa using hz
    clear hz
    go_enter Tryd.func10, Tryd.ntmps10
    go_wp2_with fail
    refine hen.mono ?_
    rintro e w1 ⟨rfl, hb1⟩
    clear hen
    go_wp2_with fail
    go_ret2
    exact ⟨congrArg Ending.returned hx.out.symm, trans' hX hb1⟩
set_option maxHeartbeats 1000000 in
theorem great_any (d : D) (v : Value) (W : World) (hS : SI W v d.ins) : Calls Tryd.prog 6 #[DV d v] W fun e W' => ∃ b : Bool, e = .returned (.bool b) ∧ Below W.heap.size W W' := by
  have hX := (Below.refl W.heap.size W).alloc (Nat.le_refl _) (DO d v)
  obtain ⟨sl, cap, rfl, hlen, hf⟩ := hS
  have HF := Lib.hid hf
  clear hf
  go_enter Tryd.func6, Tryd.ntmps6
  go_wp2_with fail
  go_loopw [3, 5, 21] (fun n _ i wr => ∃ (k : Nat) (m : Int), k ≤ d.ins.length ∧ i = .int .i64 k ∧ n = .int .i64 m ∧ Below W.heap.size W wr) (fun _ _ i _ => d.ins.length - (intOf i).toNat)
  case atStart => exact ⟨0, _, Nat.zero_le _, rfl, rfl, hX⟩
  case round =>
    obtain ⟨k, m, hk, rfl, rfl, hb⟩ := hrel
    clear hX
    by_cases hlt : k < d.ins.length
    · obtain ⟨x, hx⟩ : ∃ x, d.ins[k]? = some x := ⟨d.ins[k], List.getElem?_eq_getElem hlt⟩
      obtain ⟨b, o, rfl, hbl, g1, g2⟩ := HF.out k x hx
      have k1 : wr.cell? ⟨b, o + k * 2, none⟩ = some (.string x.1) := (hb.cell (p := ⟨b, _, none⟩) hbl).trans g1
      have k2 : wr.cell? ⟨b, o + k * 2 + 1, none⟩ = some (.string x.2) := (hb.cell (p := ⟨b, _, none⟩) hbl).trans g2
      clear hx g1 g2
      have hB := hb.alloc hb.size (.cells #[.string x.1, .string x.2] 40)
      go_wp2
      · go_ret
        exact ⟨_, rfl, hB⟩
      · go_roundw
        case rel => exact ⟨k + 1, _, by omega, by go_num, rfl, hB⟩
        case measure => simp [intOf]; omega
    · go_wp2
      go_ret
      exact ⟨_, rfl, hb⟩
end Dv
end Go.Proofs.YtbhngjhfeejeiaaDoor
