/-
  Walk: the reference's terms: the pieces of a text between bars.
-/
import Derived.Test.YtflhmoelenmomaaGreatDoorMSgTx
namespace Go.Proofs.YtflhmoelenmomaaGreatDoor
open Go.RowKit Go.Shelf Go.Lib
namespace Sg

theorem occ_drop (l : List UInt8) (f j : Nat) : occAt (l.drop f) bar j = occAt l bar (f + j) := by
  unfold occAt
  rw [List.drop_drop]
theorem occ_short {l : List UInt8} {j : Nat} (h : l.length < j + 3) : occAt l bar j = false := by
  cases ho : occAt l bar j with
  | false => rfl
  | true =>
    obtain ⟨_, _, h3⟩ := occ_bar ho
    have := (List.getElem?_eq_some_iff.1 h3).1
    omega
theorem occ_ext {s : ByteArray} {i : Nat} : ((s.extract i (i + 3)).toList == bar) = occAt s.data.toList bar i := by
  rw [ByteArray.toList_eq, Lib.extract_data, show i + 3 - i = 3 by omega]
  unfold occAt
  rw [Bool.eq_iff_iff, beq_iff_eq, List.isPrefixOf_iff_prefix, List.prefix_iff_eq_take]
  exact eq_comm
theorem cut_hit {l : List UInt8} {f k : Nat} (hfk : f ≤ k) (hk : k + 3 ≤ l.length) (hno : ∀ j, f ≤ j → j < k → occAt l bar j = false) (ho : occAt l bar k = true) : cuts bar (l.drop f) = (l.drop f).take (k - f) :: cuts bar (l.drop (k + 3)) := by
  have hi : index (l.drop f) bar = ((k - f : Nat) : Int) := by
    rcases index_spec (l.drop f) bar with ⟨_, h2⟩ | ⟨o, h1, h2, h3, h4⟩
    · have h9 := h2 (k - f) (by rw [List.length_drop]; omega)
      rw [occ_drop, show f + (k - f) = k by omega, ho] at h9
      cases h9
    · rw [h1]
      rcases Nat.lt_trichotomy o (k - f) with h | h | h
      · rw [occ_drop, hno (f + o) (by omega) (by omega)] at h3
        cases h3
      · rw [h]
      · have h9 := h4 (k - f) h
        rw [occ_drop, show f + (k - f) = k by omega, ho] at h9
        cases h9
  rw [cuts_some (by simp) hi, List.drop_drop, show f + (k - f + bar.length) = k + 3 by show f + (k - f + 3) = k + 3; omega]
theorem cut_end {l : List UInt8} {f k : Nat} (hk : l.length < k + 3) (hno : ∀ j, f ≤ j → j < k → occAt l bar j = false) : cuts bar (l.drop f) = [l.drop f] := by
  apply cuts_none
  rcases index_spec (l.drop f) bar with ⟨h1, _⟩ | ⟨o, _, _, h3, _⟩
  · exact h1
  · rw [occ_drop] at h3
    by_cases h : f + o < k
    · rw [hno (f + o) (by omega) h] at h3
      cases h3
    · rw [occ_short (by omega)] at h3
      cases h3
/-- the pieces found so far -/
structure TI (s : ByteArray) (f k : Nat) (out : List ByteArray) : Prop where
  le : f ≤ s.size
  len : out.length ≤ f
  eq : out.map (·.data.toList) ++ cuts bar (s.data.toList.drop f) = cuts bar s.data.toList
  no : ∀ j, f ≤ j → j < k → occAt s.data.toList bar j = false
theorem TI.new (s : ByteArray) : TI s 0 0 [] := ⟨Nat.zero_le _, Nat.zero_le _, rfl, fun _ _ h => absurd h (Nat.not_lt_zero _)⟩
theorem TI.skip {s : ByteArray} {f k : Nat} {out : List ByteArray} (h : TI s f k out) (hk : k < f ∨ occAt s.data.toList bar k = false) : TI s f (k + 1) out := ⟨h.le, h.len, h.eq, fun j h1 h2 => by
  rcases Nat.lt_or_eq_of_le (Nat.le_of_lt_succ h2) with h3 | rfl
  · exact h.no j h1 h3
  · rcases hk with hk | hk
    · omega
    · exact hk⟩
theorem TI.hit {s : ByteArray} {f k : Nat} {out : List ByteArray} (h : TI s f k out) (hf : f ≤ k) (hk : k + 3 ≤ s.size) (ho : occAt s.data.toList bar k = true) : TI s (k + 3) (k + 1) (out ++ [s.extract f k]) := by
  refine ⟨hk, by have := h.len; simp; omega, ?_, fun j h1 h2 => by omega⟩
  rw [← h.eq, cut_hit hf (by rw [← Lib.size_eq]; exact hk) h.no ho, List.map_append, List.append_assoc]
  congr 1
  show (s.extract f k).data.toList :: _ = _
  rw [Lib.extract_data]
  rfl
theorem TI.done {s : ByteArray} {f k : Nat} {out : List ByteArray} (h : TI s f k out) (hk : s.size < k + 3) : (out ++ [s.extract f s.size]).map (·.data.toList) = cuts bar s.data.toList := by
  rw [← h.eq, cut_end (by rw [← Lib.size_eq]; exact hk) h.no, List.map_append]
  congr 1
  show [(s.extract f s.size).data.toList] = _
  rw [tail_drop]
set_option maxHeartbeats 4000000 in
set_option maxRecDepth 100000 in
theorem qterms_any (s : ByteArray) (W : World) (hs : s.size ≤ 256) :
    Calls Tryz.prog 79 #[.string s] W fun e W' => ∃ v ts, e = .returned v ∧ ts.map (·.data.toList) = cuts bar s.data.toList ∧ SO W' W.heap.size v ts ∧ Below W.heap.size W W' := by
  go_enter Tryz.func79, Tryz.ntmps79
  go_wp2_with fail
  go_loopw [3, 4, 5] (fun o f i wr => ∃ (k g : Nat) (out : List ByteArray), k ≤ s.size ∧ i = .int .i64 (k : Int) ∧ f = .int .i64 (g : Int) ∧ TI s g k out ∧ SO wr W.heap.size o out ∧ Below W.heap.size W wr) (fun _ _ i _ => s.size - (RowKit.intOf i).toNat)
  case atStart => exact ⟨0, 0, [], Nat.zero_le _, rfl, rfl, TI.new s, so_nil _ _, Below.refl _ _⟩
  case round =>
    obtain ⟨k, g, out, hk, rfl, rfl, hT, hO, hb⟩ := hrel
    have HT := Lib.hid hT
    have HO := Lib.hid hO
    have hle := hT.le
    obtain ⟨so, co, rfl⟩ := hO.isl
    have hol := hT.len
    clear hT hO
    by_cases hlt : k + 3 ≤ s.size
    · by_cases hf : g ≤ k
      · cases hoc : occAt s.data.toList bar k with
        | false =>
          have i1 := occ_ext.trans hoc
          have HS := Lib.hid (HT.out.skip (.inr hoc))
          clear hoc
          go_wp2_with fail
          refine ⟨⟨k + 1, g, out, by omega, by push_cast; rfl, rfl, HS.out, HO.out, hb⟩, ?_⟩
          simp only [RowKit.intOf]
          omega
        | true =>
          have i1 := occ_ext.trans hoc
          have HS := Lib.hid (HT.out.hit hf hlt hoc)
          clear hoc
          go_wp2_with (at_builtin; refine SO.push (l := out) (B := W.heap.size) HO.out (s.extract g k) (by omega) hb.size rfl _ _ rfl rfl rfl ?he ?_; (case he => first | rfl | simp); intro v9 w9 hO9 hB9; have hb9 := hB9 _ hb; have HO9 := Lib.hid hO9; clear hO9 hB9 hb)
          refine ⟨⟨k + 1, k + 3, out ++ [s.extract g k], by omega, by push_cast; rfl, by push_cast; rfl, HS.out, HO9.out, hb9⟩, ?_⟩
          simp only [RowKit.intOf]
          omega
      · have HS := Lib.hid (HT.out.skip (.inl (by omega)))
        go_wp2_with fail
        refine ⟨⟨k + 1, g, out, by omega, by push_cast; rfl, rfl, HS.out, HO.out, hb⟩, ?_⟩
        simp only [RowKit.intOf]
        omega
    · have HD := Lib.hid (HT.out.done (by omega))
      go_wp2_with (at_builtin; refine SO.push (l := out) (B := W.heap.size) HO.out (s.extract g s.size) (by omega) hb.size rfl _ _ rfl rfl rfl ?he ?_; (case he => first | rfl | simp); intro v9 w9 hO9 hB9; have hb9 := hB9 _ hb; have HO9 := Lib.hid hO9; clear hO9 hB9 hb)
      go_ret
      exact ⟨_, _, rfl, HD.out, HO9.out, hb9⟩
end Sg
end Go.Proofs.YtflhmoelenmomaaGreatDoor
