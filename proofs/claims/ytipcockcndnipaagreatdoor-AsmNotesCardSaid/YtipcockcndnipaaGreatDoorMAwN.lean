/-
  Walk of the reference: a text's lines.
-/
import Derived.Test.YtipcockcndnipaaGreatDoorMAwM
import Derived.Test.YtipcockcndnipaaGreatDoorMAwU
import Derived.Test.YtipcockcndnipaaGreatDoorMSpl
namespace Go.Proofs.YtipcockcndnipaaGreatDoor
open Go.RowKit
namespace Aw
open As

/-- so much is cut -/
structure LJ (s : ByteArray) (f m : Nat) (acc : List (List UInt8)) : Prop where
  fm : f ≤ m
  ms : m ≤ s.size
  no : ∀ c ∈ (s.data.toList.take m).drop f, c ≠ 10
  eq : acc ++ linesL (s.data.toList.drop f) = linesL s.data.toList
  len : acc.length ≤ f
theorem LJ.start (s : ByteArray) : LJ s 0 0 [] := ⟨Nat.le_refl _, Nat.zero_le _, fun c h => by simp at h, rfl, Nat.le_refl _⟩
theorem take_get {s : ByteArray} {m : Nat} (h : m < s.size) : s.data.toList.take (m + 1) = s.data.toList.take m ++ [s[m]] := by
  have h1 : s.data.toList[m]? = some s[m] := by
    have h' : m < s.data.size := h
    simp only [Array.getElem?_toList, Array.getElem?_eq_getElem h']
    rfl
  rw [List.take_add_one, h1]
  rfl
theorem LJ.skip {s : ByteArray} {f m : Nat} {acc : List (List UInt8)} (h : LJ s f m acc) (hm : m < s.size) (hc : s[m] ≠ 10) : LJ s f (m + 1) acc :=
  ⟨Nat.le_succ_of_le h.fm, hm, fun c g => by
    have hl : f ≤ (s.data.toList.take m).length := by
      rw [List.length_take, ← Lib.size_eq]
      have := h.fm
      omega
    rw [take_get hm, List.drop_append_of_le_length hl] at g
    rcases List.mem_append.1 g with g | g
    · exact h.no c g
    · rw [List.mem_singleton.1 g]; exact hc, h.eq, h.len⟩
theorem drop_cut {l : List UInt8} {f m : Nat} (h : f ≤ m) (hm : m ≤ l.length) : l.drop f = (l.take m).drop f ++ l.drop m := by
  have h1 : f ≤ (l.take m).length := by rw [List.length_take]; omega
  rw [← List.drop_append_of_le_length h1, List.take_append_drop]
theorem ext_list (s : ByteArray) (f m : Nat) : (s.extract f m).data.toList = (s.data.toList.take m).drop f := Spl.bL_extract s f m
theorem LJ.cut {s : ByteArray} {f m : Nat} {acc : List (List UInt8)} (h : LJ s f m acc) (hm : m < s.size) (hc : s[m] = 10) : LJ s (m + 1) (m + 1) (acc ++ [(s.extract f m).data.toList]) :=
  ⟨Nat.le_refl _, hm, fun c g => by rw [List.drop_eq_nil_of_le (by rw [List.length_take]; omega)] at g; exact absurd g (by simp), by
    have h1 := drop_at hm
    have hz : m ≤ s.data.toList.length := by rw [← Lib.size_eq]; omega
    rw [← h.eq, drop_cut h.fm hz, h1, hc, lines_cat _ _ h.no, ext_list, List.append_assoc]
    rfl, by
    have := h.len
    have := h.fm
    rw [List.length_append]
    simp
    omega⟩
theorem LJ.done {s : ByteArray} {f : Nat} {acc : List (List UInt8)} (h : LJ s f s.size acc) : acc ++ [(s.extract f s.size).data.toList] = linesL s.data.toList := by
  have hz : s.size = s.data.toList.length := Lib.size_eq s
  have h1 := h.no
  rw [hz, List.take_length] at h1
  rw [← h.eq, ext_list, hz, List.take_length, lines_one _ h1]
theorem rowS_snoc (acc : List (List UInt8)) (b : ByteArray) : rowS acc ++ [.string b] = rowS (acc ++ [b.data.toList]) := by
  unfold rowS
  rw [List.map_append]
  rfl
set_option maxHeartbeats 4000000 in
set_option maxRecDepth 100000 in
theorem rlines_any (s : ByteArray) (W : World) (hs : s.size ≤ 1000000) : Calls Tryz.prog 15 #[.string s] W fun e W' => ∃ v, e = .returned v ∧ OS W' W.heap.size v (linesL s.data.toList) ∧ Below W.heap.size W W' := by
  obtain ⟨i0, hi0, hz0, hz1, hz2⟩ := info_parts info_s
  go_enter Tryz.func15, Tryz.ntmps15
  go_wp2_with fail
  have hO0 : W.ownsRow W.heap.size 9 1 (.slice none 0 0) 0 (rowS []) := World.ownsRow_nil _ _ _ _
  have hB0 := Below.refl W.heap.size W
  go_loopw [3, 4, 5] (fun kv fv i wr => ∃ (f m : Nat) (acc : List (List UInt8)) (v : Value), v = kv ∧ fv = .int .i64 f ∧ i = .int .i64 m ∧ LJ s f m acc ∧ wr.ownsRow W.heap.size 9 1 v acc.length (rowS acc) ∧ Below W.heap.size W wr) (fun _ _ i _ => s.size - (intOf i).toNat)
  case atStart => exact ⟨0, 0, [], _, rfl, rfl, rfl, LJ.start s, hO0, hB0⟩
  case round =>
    obtain ⟨f, m, acc, v, rfl, rfl, rfl, hJ, hown, hB⟩ := hrel
    have b1 := hJ.fm
    have b2 := hJ.ms
    have b3 := hJ.len
    have HJ := Lib.hid hJ
    have HO := Lib.hid hown
    clear hO0 hB0 hJ hown
    by_cases hm : m < s.size
    · have k2 : decide ((m : Int) < s.size) = true := by simp; omega
      by_cases hc : s[m] = 10
      · have d1 : ((s[m].toNat : Int) == 10) = true := by rw [hc]; rfl
        have HN := Lib.hid (HJ.out.cut hm hc)
        have HU := Lib.hid (rowS_snoc acc (s.extract f m))
        have hA := (Below.refl wr.heap.size wr).alloc (Nat.le_refl _) (.cells #[.string (s.extract f m)] 9)
        have HO8 := Lib.hid (own_block HO.out (fun j hj => hA.block j (HO.out.lt j hj).2))
        have HA := Lib.hid hA
        clear hc hA
        go_wp2_with (first
          | (at_builtin; refine wpList_append_own _ rfl _ _ 32 rfl W.heap.size 9 i0 _ 1 16 Tryz.underlying32 hi0 hz0 hz1 hz2 rfl (by decide) v acc.length _ rfl HO8.out ⟨wr.heap.size, 0, none⟩ 1 1 [.string (s.extract f m)] rfl rfl ?d1 ?d2 ?d3 ?d4 ?d5 ?_))
        case d1 =>
          intro j q hj
          match j, hj with
          | 0, hj => simp at hj; subst hj; simp [Addr.add]
        case d2 => intro q hq; simp at hq; subst hq; rfl
        case d3 => unfold maxLen; omega
        case d4 => omega
        case d5 => simp; have := hB.size; omega
        intro v' w9 hown9 hg9 _
        rw [HU.out] at hown9
        have HO9 := Lib.hid (show w9.ownsRow W.heap.size 9 1 v' (acc ++ [(s.extract f m).data.toList]).length (rowS (acc ++ [(s.extract f m).data.toList])) by rw [List.length_append]; exact hown9)
        have hB9 := (hB.trans (HA.out.mono hB.size)).grown hg9 (by have := hB.size; simp; omega) (fun g hg => (HO.out.lt g hg).1)
        clear hown9 hg9
        go_wp2_with fail
        go_roundw
        case rel => exact ⟨m + 1, m + 1, _, _, rfl, by go_num, by go_num, HN.out, HO9.out, hB9⟩
        case measure => simp [intOf]; omega
      · have d1 : ((s[m].toNat : Int) == 10) = false := by
          rw [beq_eq_false_iff_ne]
          intro e
          exact hc (u8_eq (n := 10) (by omega) (by decide))
        have HN := Lib.hid (HJ.out.skip hm hc)
        clear hc
        go_wp2_with fail
        go_roundw
        case rel => exact ⟨f, m + 1, acc, _, rfl, rfl, by go_num, HN.out, HO.out, hB⟩
        case measure => simp [intOf]; omega
    · obtain rfl : m = s.size := by omega
      have k2 : decide ((s.size : Int) < s.size) = false := by simp
      have HD := Lib.hid HJ.out.done
      have HU := Lib.hid (rowS_snoc acc (s.extract f s.size))
      have hA := (Below.refl wr.heap.size wr).alloc (Nat.le_refl _) (.cells #[.string (s.extract f s.size)] 9)
      have HO8 := Lib.hid (own_block HO.out (fun j hj => hA.block j (HO.out.lt j hj).2))
      have HA := Lib.hid hA
      clear hA
      go_wp2_with (first
        | (at_builtin; refine wpList_append_own _ rfl _ _ 32 rfl W.heap.size 9 i0 _ 1 16 Tryz.underlying32 hi0 hz0 hz1 hz2 rfl (by decide) v acc.length _ rfl HO8.out ⟨wr.heap.size, 0, none⟩ 1 1 [.string (s.extract f s.size)] rfl rfl ?d1 ?d2 ?d3 ?d4 ?d5 ?_))
      case d1 =>
        intro j q hj
        match j, hj with
        | 0, hj => simp at hj; subst hj; simp [Addr.add]
      case d2 => intro q hq; simp at hq; subst hq; rfl
      case d3 => unfold maxLen; omega
      case d4 => omega
      case d5 => simp; have := hB.size; omega
      intro v' w9 hown9 hg9 _
      rw [HU.out] at hown9
      have HO9 := Lib.hid (show OS w9 W.heap.size v' (linesL s.data.toList) by rw [← HD.out]; unfold OS; rw [List.length_append]; exact hown9)
      have hB9 := (hB.trans (HA.out.mono hB.size)).grown hg9 (by have := hB.size; simp; omega) (fun g hg => (HO.out.lt g hg).1)
      clear hown9 hg9
      go_wp2_with fail
      go_ret
      exact ⟨_, rfl, HO9.out, hB9⟩
end Aw
end Go.Proofs.YtipcockcndnipaaGreatDoor
