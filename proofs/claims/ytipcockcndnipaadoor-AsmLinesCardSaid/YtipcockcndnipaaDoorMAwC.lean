/-
  Walks: strings.Cut at a blank, strings.CutSuffix at a colon, the reference's split.
-/
import Derived.Test.YtipcockcndnipaaDoorMAwA
namespace Go.Proofs.YtipcockcndnipaaDoor
open Go.RowKit
namespace Aw
open As

/-- a line's word, what stands behind its first blank, and whether there is one -/
def CV (l : List UInt8) : Value := .tuple #[.string ⟨(word l).toArray⟩, .string ⟨(arg l).toArray⟩, .bool (more l)]
theorem ext_take (s : ByteArray) (o : Nat) : s.extract 0 o = ⟨(s.data.toList.take o).toArray⟩ := by
  apply ByteArray.ext
  rw [ByteArray.data_extract]
  apply Array.toList_inj.1
  rw [Array.toList_extract]
  simp [List.extract]
theorem ext_drop (s : ByteArray) (o : Nat) : s.extract o s.size = ⟨(s.data.toList.drop o).toArray⟩ := by
  apply ByteArray.ext
  rw [ByteArray.data_extract]
  apply Array.toList_inj.1
  rw [Array.toList_extract, List.extract_eq_take_drop, Lib.size_eq]
  exact List.take_of_length_le (by rw [List.length_drop]; omega)
theorem data_back (s : ByteArray) : (⟨s.data.toList.toArray⟩ : ByteArray) = s := rfl
theorem cut_32 {l : List UInt8} {o : Nat} (h : l[o]? = some 32) (hn : ∀ k : Nat, k < o → l[k]? ≠ some 32) : word l = l.take o ∧ arg l = l.drop (o + 1) ∧ more l = true := by
  have hl := (List.getElem?_eq_some_iff.1 h).1
  have e : l = l.take o ++ 32 :: l.drop (o + 1) := by
    conv => lhs; rw [← List.take_append_drop o l]
    rw [List.drop_eq_getElem_cons hl]
    rw [List.getElem?_eq_getElem hl] at h
    rw [Option.some.inj h]
  have hw := word_some (l.take o) (l.drop (o + 1)) fun c hc e => by
    subst e
    obtain ⟨k, hk⟩ := List.mem_iff_getElem?.1 hc
    rw [List.getElem?_take] at hk
    split at hk
    · exact hn k (by assumption) hk
    · cases hk
  rw [← e] at hw
  exact hw
theorem cut_no {l : List UInt8} (h : ∀ k : Nat, l[k]? ≠ some 32) : word l = l ∧ arg l = [] ∧ more l = false := word_none l fun c hc e => by
  subst e
  obtain ⟨k, hk⟩ := List.mem_iff_getElem?.1 hc
  exact h k hk
theorem cv_at {s : ByteArray} {o : Nat} (h : s.data.toList[o]? = some 32) (hn : ∀ k : Nat, k < o → s.data.toList[k]? ≠ some 32) : CV s.data.toList = .tuple #[.string (s.extract 0 o), .string (s.extract (o + 1) s.size), .bool true] := by
  obtain ⟨h1, h2, h3⟩ := cut_32 h hn
  unfold CV
  rw [h1, h2, h3, ext_take, ext_drop]
theorem cv_no {s : ByteArray} (h : ∀ k : Nat, s.data.toList[k]? ≠ some 32) : CV s.data.toList = .tuple #[.string s, .string ⟨#[]⟩, .bool false] := by
  obtain ⟨h1, h2, h3⟩ := cut_no h
  unfold CV
  rw [h1, h2, h3]
theorem lcut_any (s : ByteArray) (w : World) (hs : s.size ≤ 1000000) : Calls Tryd.prog 65 #[.string s, .string ⟨#[32]⟩] w fun e w' => e = .returned (CV s.data.toList) ∧ ∃ n, w' = w.drewN n := by
  have hge := Lib.indexByte_ge s.data.toList 32
  have hz := Lib.size_eq s
  by_cases hi : Lib.indexByte s.data.toList 32 = -1
  · have HC := Lib.hid (cv_no (Lib.indexByte_none hi))
    have hx : Calls Tryd.prog 60 #[.string s, .string ⟨#[32]⟩] w fun e w' => e = .returned (.int .i64 (-1)) ∧ w' = w := (Tryd.stringslite_Index_one s 32 w).mono fun e w' h => ⟨by rw [h.1, hi], h.2⟩
    clear hi hge hz
    go_enter Tryd.func65, Tryd.ntmps65
    go_wp2_with (go_at_call 60; refine hx.mono ?_; rintro e w' ⟨rfl, rfl⟩)
    refine bodyPost_ret (v := .tuple #[.string s, .string ⟨#[]⟩, .bool false]) (by simp [results, Tryd.results65, go_sem]) rfl ?_
    rw [HC.out]
    exact ⟨rfl, 0, rfl⟩
  · obtain ⟨o, ho⟩ : ∃ o : Nat, Lib.indexByte s.data.toList 32 = o := ⟨(Lib.indexByte s.data.toList 32).toNat, by omega⟩
    obtain ⟨h1, h2⟩ := Lib.indexByte_some ho
    have hl := (List.getElem?_eq_some_iff.1 h1).1
    have HC := Lib.hid (cv_at h1 h2)
    have hx : Calls Tryd.prog 60 #[.string s, .string ⟨#[32]⟩] w fun e w' => e = .returned (.int .i64 (o : Int)) ∧ w' = w := (Tryd.stringslite_Index_one s 32 w).mono fun e w' h => ⟨by rw [h.1, ho], h.2⟩
    have hor : o < s.size := by omega
    have q1 : IntKind.i64.wrap ((o : Int) + 1) = (o : Int) + 1 := IntWalk.i64_in _ (by omega)
    have q2 : (0 : Int) ≤ (o : Int) + 1 := by omega
    have q3 : ((o : Int) + 1).toNat = o + 1 := by omega
    have q4 : (o : Int) + 1 ≤ s.size := by omega
    clear hi hge hz ho h1 h2 hl
    go_enter Tryd.func65, Tryd.ntmps65
    go_wp2_with (go_at_call 60; refine hx.mono ?_; rintro e w' ⟨rfl, rfl⟩)
    go_quiet (fail)
    go_wp2_with fail
    refine bodyPost_ret (v := .tuple #[.string (s.extract 0 o), .string (s.extract (o + 1) s.size), .bool true]) (by simp [results, Tryd.results65, go_sem]) rfl ?_
    rw [HC.out]
    exact ⟨rfl, _, rfl⟩
theorem cut_any (s : ByteArray) (w : World) (hs : s.size ≤ 1000000) : Calls Tryd.prog 48 #[.string s, .string ⟨#[32]⟩] w fun e w' => e = .returned (CV s.data.toList) ∧ ∃ n, w' = w.drewN n := by
  have h := lcut_any s w hs
  unfold CV at *
  generalize (⟨(word s.data.toList).toArray⟩ : ByteArray) = a at *
  generalize (⟨(arg s.data.toList).toArray⟩ : ByteArray) = b at *
  generalize more s.data.toList = c at *
  go_enter Tryd.func48, Tryd.ntmps48
  go_wp2_with (go_at_call 65; refine h.mono ?_; rintro e w' ⟨rfl, n, rfl⟩)
  refine bodyPost_ret (v := .tuple #[.string a, .string b, .bool c]) (by simp [results, Tryd.results48, go_sem]) rfl ?_
  exact ⟨rfl, n, rfl⟩
/-! a colon at the end -/
theorem last_colon {s : ByteArray} (h0 : 0 < s.size) : s.extract (s.size - 1) s.size = ⟨#[s[s.size - 1]]⟩ := by
  rw [ext_drop]
  have hz := Lib.size_eq s
  congr 1
  apply Array.toList_inj.1
  show s.data.toList.drop (s.size - 1) = [s[s.size - 1]]
  rw [List.drop_eq_getElem_cons (by omega), List.drop_eq_nil_of_le (by omega)]
  rfl
theorem last_get {s : ByteArray} (h0 : 0 < s.size) : s.data.toList.getLast? = some s[s.size - 1] := by
  have hz := Lib.size_eq s
  rw [List.getLast?_eq_getElem?, List.getElem?_eq_getElem (by omega)]
  congr 1
theorem cut_last (s : ByteArray) : s.extract 0 (s.size - 1) = ⟨s.data.toList.dropLast.toArray⟩ := by
  rw [ext_take, List.dropLast_eq_take, Lib.size_eq]
theorem suffix_any (s : ByteArray) (w : World) (hs : s.size ≤ 1000000) : Calls Tryd.prog 61 #[.string s, .string ⟨#[58]⟩] w fun e w' => e = .returned (.bool (decide (s.data.toList.getLast? = some 58))) ∧ w' = w := by
  by_cases h0 : 0 < s.size
  rotate_left
  · have hz := Lib.size_eq s
    have hn : s.data.toList = [] := List.length_eq_zero_iff.1 (by omega)
    have HR := Lib.hid (show decide (s.data.toList.getLast? = some 58) = false by rw [hn]; rfl)
    have q : decide (1 ≤ (s.size : Int)) = false := by simp; omega
    clear hn hz
    go_enter Tryd.func61, Tryd.ntmps61
    go_wp2_with fail
    go_ret
    rw [HR.out]
    exact ⟨rfl, rfl⟩
  · have q : decide (1 ≤ (s.size : Int)) = true := by simp; omega
    have q1 : IntKind.i64.wrap ((s.size : Int) - 1) = (s.size : Int) - 1 := IntWalk.i64_in _ (by omega)
    have q2 : (0 : Int) ≤ (s.size : Int) - 1 := by omega
    have q3 : ((s.size : Int) - 1).toNat = s.size - 1 := by omega
    have q4 : (s.size : Int) - 1 ≤ s.size := by omega
    have he := last_colon h0
    by_cases h : s[s.size - 1] = 58
    · have HR := Lib.hid (show decide (s.data.toList.getLast? = some 58) = true by rw [last_get h0, h]; rfl)
      rw [h] at he
      clear h
      go_enter Tryd.func61, Tryd.ntmps61
      go_wp2_with fail
      go_ret
      rw [HR.out]
      exact ⟨rfl, rfl⟩
    · have HR := Lib.hid (show decide (s.data.toList.getLast? = some 58) = false by rw [last_get h0, decide_eq_false_iff_not]; exact fun e => h (Option.some.inj e))
      have hb : ([s[s.size - 1]] == [(58 : UInt8)]) = false := by
        rw [beq_eq_false_iff_ne]
        intro e
        injection e with e
        exact h e
      generalize s[s.size - 1] = c at *
      have hb' : ((⟨#[c]⟩ : ByteArray).toList == [(58 : UInt8)]) = false := by
        rw [Lib.toList_data]
        exact hb
      clear h
      go_enter Tryd.func61, Tryd.ntmps61
      go_wp2_with fail
      go_ret
      rw [HR.out]
      exact ⟨rfl, rfl⟩
theorem lsuf_tt (s : ByteArray) (w : World) (hs : s.size ≤ 1000000) (h : s.data.toList.getLast? = some 58) : Calls Tryd.prog 43 #[.string s, .string ⟨#[58]⟩] w fun e w' => e = .returned (.tuple #[.string ⟨s.data.toList.dropLast.toArray⟩, .bool true]) ∧ w' = w := by
  have hx := suffix_any s w hs
  rw [decide_eq_true h] at hx
  have h0 : 0 < s.size := by
    rw [Lib.size_eq]
    cases hl : s.data.toList with
    | nil => rw [hl] at h; cases h
    | cons a r => simp
  have q1 : IntKind.i64.wrap ((s.size : Int) - 1) = (s.size : Int) - 1 := IntWalk.i64_in _ (by omega)
  have q2 : (0 : Int) ≤ (s.size : Int) - 1 := by omega
  have q3 : ((s.size : Int) - 1).toNat = s.size - 1 := by omega
  have q4 : (s.size : Int) - 1 ≤ s.size := by omega
  have HE := Lib.hid (cut_last s)
  clear h
  go_enter Tryd.func43, Tryd.ntmps43
  go_wp2_with (go_at_call 61; refine hx.mono ?_; rintro e w' ⟨rfl, rfl⟩)
  go_ret2
  rw [← HE.out]
  exact ⟨rfl, rfl⟩
theorem lsuf_ff (s : ByteArray) (w : World) (hs : s.size ≤ 1000000) (h : s.data.toList.getLast? ≠ some 58) : Calls Tryd.prog 43 #[.string s, .string ⟨#[58]⟩] w fun e w' => e = .returned (.tuple #[.string s, .bool false]) ∧ w' = w := by
  have hx := suffix_any s w hs
  rw [decide_eq_false h] at hx
  clear h
  go_enter Tryd.func43, Tryd.ntmps43
  go_wp2_with (go_at_call 61; refine hx.mono ?_; rintro e w' ⟨rfl, rfl⟩)
  go_ret2
  exact ⟨rfl, rfl⟩
theorem suf_tt (s : ByteArray) (w : World) (hs : s.size ≤ 1000000) (h : s.data.toList.getLast? = some 58) : Calls Tryd.prog 29 #[.string s, .string ⟨#[58]⟩] w fun e w' => e = .returned (.tuple #[.string ⟨s.data.toList.dropLast.toArray⟩, .bool true]) ∧ w' = w := by
  have hx := lsuf_tt s w hs h
  generalize (⟨s.data.toList.dropLast.toArray⟩ : ByteArray) = a at *
  clear h
  go_enter Tryd.func29, Tryd.ntmps29
  go_wp2_with (go_at_call 43; refine hx.mono ?_; rintro e w' ⟨rfl, rfl⟩)
  go_ret2
  exact ⟨rfl, rfl⟩
theorem suf_ff (s : ByteArray) (w : World) (hs : s.size ≤ 1000000) (h : s.data.toList.getLast? ≠ some 58) : Calls Tryd.prog 29 #[.string s, .string ⟨#[58]⟩] w fun e w' => e = .returned (.tuple #[.string s, .bool false]) ∧ w' = w := by
  have hx := lsuf_ff s w hs h
  clear h
  go_enter Tryd.func29, Tryd.ntmps29
  go_wp2_with (go_at_call 43; refine hx.mono ?_; rintro e w' ⟨rfl, rfl⟩)
  go_ret2
  exact ⟨rfl, rfl⟩
/-! the reference's split -/
end Aw
end Go.Proofs.YtipcockcndnipaaDoor
