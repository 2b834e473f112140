/-
  The reference's Pieces, for every text of at most 2^20 bytes: the pieces between the bytes c lie in a row of the call's own.
-/
import Derived.Test.YtbefgplaaghlbaaGreatDoorTrE
import Derived.StillTailTactics
import Derived.Deep.AppendLies
namespace Go.Proofs.YtbefgplaaghlbaaGreatDoor
open Go.RowKit
namespace Vs

theorem info_str : (Tryz.prog.info? 9).map (fun i => (i.zero, i.size, i.bytes)) = some (some (.string ⟨#[]⟩), 1, 16) := by kernel_rfl
abbrev str (l : List UInt8) : Value := .string ⟨l.toArray⟩
def PK (c : UInt8) (s : ByteArray) (k : Nat) : List (List UInt8) := pieces c (s.data.toList.take k)
theorem addLast_concat (x : UInt8) (p : List UInt8) : ∀ l : List (List UInt8), addLast x (l ++ [p]) = l ++ [p ++ [x]]
  | [] => rfl
  | [q] => rfl
  | q :: r :: l => by
    have ih := addLast_concat x p (r :: l)
    simp only [List.cons_append] at ih ⊢
    rw [addLast, ih]
theorem PK_hit {c : UInt8} {s : ByteArray} {k : Nat} (h : k < s.size) (hc : s[k] = c) : PK c s (k + 1) = PK c s k ++ [[]] := by
  unfold PK
  rw [take_snoc s k h, hc]
  exact pieces_snoc_hit c _
theorem PK_miss {c : UInt8} {s : ByteArray} {k : Nat} (h : k < s.size) (hc : s[k] ≠ c) : PK c s (k + 1) = addLast s[k] (PK c s k) := by
  unfold PK
  rw [take_snoc s k h]
  exact pieces_snoc_miss c _ hc _
theorem PK_le (c : UInt8) (s : ByteArray) : ∀ k, k ≤ s.size → 1 ≤ (PK c s k).length ∧ (PK c s k).length ≤ k + 1
  | 0, _ => by simp [PK, pieces]
  | k + 1, hk => by
    have ih := PK_le c s k (by omega)
    by_cases hc : s[k] = c
    · rw [PK_hit (by omega) hc]; simp; omega
    · rw [PK_miss (by omega) hc]
      rcases List.eq_nil_or_concat (PK c s k) with h | ⟨l, p, h⟩
      · rw [h] at ih; simp at ih
      · rw [List.concat_eq_append] at h
        rw [h, addLast_concat]
        rw [h] at ih
        simp at ih ⊢
        omega

set_option maxHeartbeats 2000000 in
set_option maxRecDepth 100000 in
theorem pieces_any (s : ByteArray) (c : UInt8) (w : World) (hs : s.size ≤ 1048576) :
    Calls Tryz.prog 84 #[.string s, .int .u8 (c.toNat : Int)] w fun e w' =>
      ∃ v, e = .returned v ∧ w'.ownsRow w.heap.size 9 1 v (pieces c s.data.toList).length ((pieces c s.data.toList).map str) ∧ Below w.heap.size w w' := by
  obtain ⟨i0, hi0, hz0, hz1, hz2⟩ := info_parts info_str
  have hst : (w.alloc (.cells #[.string ⟨#[]⟩] 9)).ownsRow w.heap.size 9 1 (.slice (some ⟨w.heap.size, 0, none⟩) 1 1) 1 [.string ⟨#[]⟩] :=
    World.ownsRow_lit w #[.string ⟨#[]⟩] 1 (Nat.le_refl _) (by decide) rfl
  go_enter Tryz.func84, Tryz.ntmps84
  go_wp2_with fail
  go_loopw [5, 6] (fun v i wr => ∃ k : Nat, k ≤ s.size ∧ i = .int .i64 k ∧ wr.ownsRow w.heap.size 9 1 v (PK c s k).length ((PK c s k).map str) ∧ Below w.heap.size w wr) (fun _ i _ => s.size - (intOf i).toNat)
  case atStart => exact ⟨0, Nat.zero_le _, rfl, hst, (Below.refl _ _).alloc (Nat.le_refl _) _⟩
  case round =>
    obtain ⟨k, hk, rfl, hown, hb⟩ := hrel
    clear hst
    by_cases hlt : k < s.size
    · obtain ⟨l0, l1⟩ := PK_le c s k hk
      by_cases hc : s[k] = c
      · have hL := Lib.hid (PK_hit hlt hc)
        have hc1 : ((s[k].toNat : Int) == (c.toNat : Int)) = true := by rw [hc]; simp
        clear hc
        go_wp2_with (first
          | (at_builtin; refine wpList_append_own _ rfl _ _ 99 rfl w.heap.size 9 i0 (.string ⟨#[]⟩) 1 16 Tryz.underlying99 hi0 hz0 hz1 hz2 rfl (by decide) _ _ _ rfl (hown.alloc _) ⟨wr.heap.size, 0, none⟩ 1 1 [.string ⟨#[]⟩] rfl rfl ?c1 ?c2 ?c3 ?c4 ?c5 ?_))
        case c1 =>
          intro j u hj
          match j, hj with
          | 0, hj => simp at hj; subst hj; simp [Addr.add]
        case c2 => intro u hu; simp at hu; subst hu; rfl
        case c3 => unfold maxLen; omega
        case c4 => omega
        case c5 => have := hb.size; simp; omega
        intro v' w1 hown1 hg1 _
        have hb1 : Below w.heap.size w w1 := (hb.alloc hb.size _).grown hg1 (by have := hb.size; simp; omega) (fun j hj => (hown.lt j hj).1)
        have hown2 : w1.ownsRow w.heap.size 9 1 v' (PK c s (k + 1)).length ((PK c s (k + 1)).map str) := by
          rw [hL.out]
          simpa using hown1
        clear hown hown1 hg1 hb
        go_wp2
        go_roundw
        case rel => exact ⟨k + 1, by omega, by go_num, hown2, hb1⟩
        case measure => simp [intOf]; omega
      · have hL := Lib.hid (PK_miss hlt hc)
        have hc1 : ((s[k].toNat : Int) == (c.toNat : Int)) = false := by
          rw [beq_eq_false_iff_ne]
          intro e
          exact hc (UInt8.toNat_inj.1 (by omega))
        clear hc
        obtain ⟨l, p, hp⟩ : ∃ l p, PK c s k = l ++ [p] := by
          rcases List.eq_nil_or_concat (PK c s k) with h | ⟨l, p, h⟩
          · rw [h] at l0; simp at l0
          · exact ⟨l, p, by rw [h, List.concat_eq_append]⟩
        rw [hp] at hown l0 l1
        have hpl : p.length ≤ k := by
          have h := pieces_len c (s.data.toList.take k) p (by show p ∈ PK c s k; rw [hp]; simp)
          rw [List.length_take] at h
          omega
        have q11 : ∀ W : World, (Op.stringOp .add ⟨p.toArray⟩ (s.extract k (k + 1))).run Tryz.prog W = .ok (.string (⟨p.toArray⟩ ++ s.extract k (k + 1))) W := fun W => run_string_add_sum _ _ _ (by
          rw [Lib.size_eq, ByteArray.size_extract]
          show p.length + _ ≤ _
          omega)
        have q12 : (ByteArray.mk p.toArray ++ s.extract k (k + 1)) = ⟨(p ++ [s[k]]).toArray⟩ := by
          apply ByteArray.ext
          apply Array.toList_inj.1
          rw [ByteArray.data_append, Array.toList_append, Lib.extract_data]
          show p ++ _ = p ++ [s[k]]
          rw [List.append_cancel_left_eq, ← List.drop_take, take_snoc s k hlt, List.drop_append_of_le_length (by rw [List.length_take, ← Lib.size_eq]; omega), List.drop_of_length_le (by rw [List.length_take]; omega)]
          rfl
        have HP := Lib.hid hp
        clear hp hpl
        have hlen : (l ++ [p]).length = l.length + 1 := by simp
        rw [hlen] at hown l0 l1
        obtain ⟨g, cap, rfl, hg0, hg1⟩ := hown.form (by omega)
        clear hlen
        have hcell := hown.cellAt l.length (by simp)
        have hfz := hown.frozenAt l.length
        have hcell' : wr.cell? ⟨g, l.length, none⟩ = some (str p) := by rw [hcell]; simp
        clear hcell
        have hsto := Lib.hid (hown.stored l.length (str (p ++ [s[k]])))
        clear hown
        have q1 : IntKind.i64.wrap (l.length : Int) = (l.length : Int) := IntWalk.i64_in _ (by omega)
        have q4 : (0 : Int) ≤ (l.length : Int) := by omega
        have q5 : (l.length : Int) < (l.length : Int) + 1 := by omega
        have q6 : ((k : Int) + 1).toNat = k + 1 := by omega
        have q7 : (0 : Int) ≤ (k : Int) + 1 := by omega
        have q8 : k + 1 ≤ s.size := by omega
        have q9 : (k : Int) ≤ (k : Int) + 1 := by omega
        have q10 : (k : Int) + 1 ≤ (s.size : Int) := by omega
        have q2 : IntKind.i64.wrap ((k : Int) + 1) = (k : Int) + 1 := IntWalk.i64_in _ (by omega)
        have q3 : ((l.length : Int) + 1 - 1) = (l.length : Int) := by omega
        have hcd : ({ heap := wr.heap, tape := wr.tape, drawn := wr.drawn + 1, os := wr.os, output := wr.output } : World).cell? ⟨g, l.length, none⟩ = some (str p) := hcell'
        go_wp2_with fail
        go_still_tail 17, (by kernel_rfl)
        change wpList _ _ _ _ _ wr.drew
        obtain ⟨hs1, hs2⟩ := hsto.out
        have hPK : PK c s (k + 1) = l ++ [p ++ [s[k]]] := by rw [hL.out, HP.out, addLast_concat]
        have hlenK : (PK c s (k + 1)).length = l.length + 1 := by rw [hPK]; simp
        have hmapK : (PK c s (k + 1)).map str = ((l ++ [p]).map str).set l.length (str (p ++ [s[k]])) := by
          rw [hPK, List.map_append, List.map_append, List.set_append_right _ _ (by simp)]
          simp
        have hs1' : ((wr.setCell ⟨g, l.length, none⟩ (str (p ++ [s[k]]))).drew).ownsRow w.heap.size 9 1 (.slice (some ⟨g, 0, none⟩) (l.length + 1) cap) (PK c s (k + 1)).length ((PK c s (k + 1)).map str) := by
          rw [hlenK, hmapK]
          exact hs1
        have hb' : Below w.heap.size w ((wr.setCell ⟨g, l.length, none⟩ (str (p ++ [s[k]]))).drew) := (hb.setCell (p := ⟨g, l.length, none⟩) hg0 _).drew
        have H1 := Lib.hid hs1'
        have H2 := Lib.hid hb'
        clear hs1 hs2 hPK hlenK hmapK hs1' hb' q1 q3 q4 q5 q6 q7 q9 q11 q12 hcd
        go_wp2
        go_roundw
        case rel => exact ⟨k + 1, by omega, by go_num, H1.out, H2.out⟩
        case measure => simp [intOf]; omega
    · obtain rfl : k = s.size := by omega
      have ht : PK c s s.size = pieces c s.data.toList := by unfold PK; rw [List.take_of_length_le (by rw [← Lib.size_eq]; exact Nat.le_refl _)]
      rw [ht] at hown
      have H1 := Lib.hid hown
      clear hown ht
      go_wp2
      go_ret
      exact ⟨_, rfl, H1.out, hb⟩

end Vs
end Go.Proofs.YtbefgplaaghlbaaGreatDoor
