/-
  Walk of the reference: a text's lines.
-/
import Derived.Test.YtipcockcndnipaaDoorMAwM
import Derived.Test.YtipcockcndnipaaDoorMAwU
import Derived.Test.YtipcockcndnipaaDoorMSpl
namespace Go.Proofs.YtipcockcndnipaaDoor
open Go.RowKit
namespace Aw
open As

/-- so much is cut -/
structure LJ (s : ByteArray) (f m : Nat) (acc : List (List UInt8)) : Prop where
  fm : f ≤ m
  ms : m ≤ s.size
  no : ∀ c ∈ (s.data.toList.take m).drop f, c ≠ 10
  eq : acc ++ linesL (s.data.toList.drop f) = linesL s.data.toList
  len : acc.length ≤ f
theorem LJ.start (s : ByteArray) : LJ s 0 0 [] := ⟨Nat.le_refl _, Nat.zero_le _, fun c h => by simp at h, rfl, Nat.le_refl _⟩
theorem take_get {s : ByteArray} {m : Nat} (h : m < s.size) : s.data.toList.take (m + 1) = s.data.toList.take m ++ [s[m]] := by
  have h1 : s.data.toList[m]? = some s[m] := by
    have h' : m < s.data.size := h
    simp only [Array.getElem?_toList, Array.getElem?_eq_getElem h']
    rfl
  rw [List.take_add_one, h1]
  rfl
theorem LJ.skip {s : ByteArray} {f m : Nat} {acc : List (List UInt8)} (h : LJ s f m acc) (hm : m < s.size) (hc : s[m] ≠ 10) : LJ s f (m + 1) acc :=
  ⟨Nat.le_succ_of_le h.fm, hm, fun c g => by
    have hl : f ≤ (s.data.toList.take m).length := by
      rw [List.length_take, ← Lib.size_eq]
      have := h.fm
      omega
    rw [take_get hm, List.drop_append_of_le_length hl] at g
    rcases List.mem_append.1 g with g | g
    · exact h.no c g
    · rw [List.mem_singleton.1 g]; exact hc, h.eq, h.len⟩
theorem drop_cut {l : List UInt8} {f m : Nat} (h : f ≤ m) (hm : m ≤ l.length) : l.drop f = (l.take m).drop f ++ l.drop m := by
  have h1 : f ≤ (l.take m).length := by rw [List.length_take]; omega
  rw [← List.drop_append_of_le_length h1, List.take_append_drop]
theorem ext_list (s : ByteArray) (f m : Nat) : (s.extract f m).data.toList = (s.data.toList.take m).drop f := Spl.bL_extract s f m
theorem LJ.cut {s : ByteArray} {f m : Nat} {acc : List (List UInt8)} (h : LJ s f m acc) (hm : m < s.size) (hc : s[m] = 10) : LJ s (m + 1) (m + 1) (acc ++ [(s.extract f m).data.toList]) :=
  ⟨Nat.le_refl _, hm, fun c g => by rw [List.drop_eq_nil_of_le (by rw [List.length_take]; omega)] at g; exact absurd g (by simp), by
    have h1 := drop_at hm
    have hz : m ≤ s.data.toList.length := by rw [← Lib.size_eq]; omega
    rw [← h.eq, drop_cut h.fm hz, h1, hc, lines_cat _ _ h.no, ext_list, List.append_assoc]
    rfl, by
    have := h.len
    have := h.fm
    rw [List.length_append]
    simp
    omega⟩
theorem LJ.done {s : ByteArray} {f : Nat} {acc : List (List UInt8)} (h : LJ s f s.size acc) : acc ++ [(s.extract f s.size).data.toList] = linesL s.data.toList := by
  have hz : s.size = s.data.toList.length := Lib.size_eq s
  have h1 := h.no
  rw [hz, List.take_length] at h1
  rw [← h.eq, ext_list, hz, List.take_length, lines_one _ h1]
theorem rowS_snoc (acc : List (List UInt8)) (b : ByteArray) : rowS acc ++ [.string b] = rowS (acc ++ [b.data.toList]) := by
  unfold rowS
  rw [List.map_append]
  rfl
end Aw
end Go.Proofs.YtipcockcndnipaaDoor
