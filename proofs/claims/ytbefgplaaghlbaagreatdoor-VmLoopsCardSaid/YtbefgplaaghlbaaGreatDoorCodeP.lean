/-
  Plain law of the machine's words: the table, a word's number, what an instruction takes, what is right. No program in sight.
-/
import Derived.Test.YtbefgplaaghlbaaGreatDoorRows
import Derived.WalkKit
import Derived.WalkLawsBesides
import Derived.WalkSpells
import Derived.WalkSmall
import Derived.Lib.Hide
import Derived.Deep.QuietTactic
import Derived.BigQuiet
import Derived.RegionTactic
namespace Go.Proofs.YtbefgplaaghlbaaGreatDoor
open Go.RowKit
namespace Cd

/-- the words, by their numbers -/
def WL : List (List UInt8) := [[], [104, 97, 108, 116], [112, 117, 115, 104], [116, 101, 120, 116], [112, 111, 112], [100, 117, 112], [115, 119, 97, 112], [108, 111, 97, 100], [115, 116, 111, 114, 101], [97, 100, 100], [115, 117, 98], [109, 117, 108], [100, 105, 118], [109, 111, 100], [108, 101, 115, 115], [101, 113], [110, 111, 116], [106, 117, 109, 112], [122, 101, 114, 111], [99, 97, 108, 108], [114, 101, 116], [99, 97, 116], [108, 101, 110], [99, 117, 116], [115, 116, 114], [110, 117, 109], [114, 101, 97, 100], [99, 111, 117, 110, 116], [112, 97, 116, 104], [119, 114, 105, 116, 101], [102, 97, 105, 108]]
def wl (k : Nat) : List UInt8 := WL.getD k []
def wb (k : Nat) : ByteArray := ⟨(wl k).toArray⟩
def wordL (n : Int) : List UInt8 := if 0 ≤ n ∧ n < 31 then wl n.toNat else []
def wordB (n : Int) : ByteArray := ⟨(wordL n).toArray⟩
theorem word_in {k : Nat} (h : k < 31) : wordB (k : Int) = wb k := by
  unfold wordB wordL wb
  rw [if_pos (by omega)]
  simp
theorem word_out {n : Int} (h : n < 0 ∨ 31 ≤ n) : wordB n = ⟨#[]⟩ := by
  unfold wordB wordL
  rw [if_neg (by omega)]
def opN (l : List UInt8) : Nat := ((List.range 31).find? (fun k => wl k == l)).getD 0
theorem op_wl {k : Nat} (h : k < 31) : opN (wl k) = k := by
  have hall : ∀ k : Fin 31, opN (wl k.1) = k.1 := by decide +kernel
  exact hall ⟨k, h⟩
theorem wb_data (k : Nat) : (wb k).data.toList = wl k := rfl
theorem op_hit {k : Nat} {s : ByteArray} (h : k < 31) (he : wb k = s) : opN s.data.toList = k := by rw [← he, wb_data]; exact op_wl h
theorem op_miss {s : ByteArray} (h : ∀ j, 1 ≤ j → j < 31 → wb j ≠ s) : opN s.data.toList = 0 := by
  unfold opN
  cases hf : (List.range 31).find? (fun k => wl k == s.data.toList) with
  | none => rfl
  | some k =>
    have hm := List.mem_of_find?_eq_some hf
    have hp := List.find?_some hf
    simp only [List.mem_range] at hm
    rcases Nat.eq_zero_or_pos k with rfl | hk
    · rfl
    · exact absurd (by
        apply ByteArray.ext
        apply Array.toList_inj.1
        rw [wb_data]
        simpa using hp) (h k hk hm)
theorem op_lt (l : List UInt8) : opN l < 31 := by
  unfold opN
  cases hf : (List.range 31).find? (fun k => wl k == l) with
  | none => decide
  | some k => simpa using List.mem_of_find?_eq_some hf
theorem wl_op {l : List UInt8} (h : opN l ≠ 0) : wl (opN l) = l := by
  unfold opN at *
  cases hf : (List.range 31).find? (fun k => wl k == l) with
  | none => rw [hf] at h; simp at h
  | some k => simpa using List.find?_some hf
theorem wl_empty : ∀ k : Fin 31, wl k.1 = [] → k.1 = 0 := by decide +kernel
theorem op_word {n : Int} (h : wordB n ≠ ⟨#[]⟩) : (opN (wordB n).data.toList : Int) = n := by
  by_cases hn : 0 ≤ n ∧ n < 31
  · obtain ⟨k, rfl⟩ : ∃ k : Nat, n = k := ⟨n.toNat, by omega⟩
    rw [word_in (by omega), wb_data, op_wl (by omega)]
  · exact absurd (word_out (by omega)) h

def takes (n : Int) : Int := if n = 2 ∨ n = 30 then 1 else if n = 3 then 2 else if n = 7 ∨ n = 8 then 3 else if n = 17 ∨ n = 18 ∨ n = 19 then 4 else 0

/-- an instruction -/
structure I where
  op : Int
  n : Int
  s : ByteArray
abbrev IV (x : I) : Value := .agg #[.int .i64 x.op, .int .i64 x.n, .string x.s]
def right (x : I) (count : Int) : Bool :=
  if wordB x.op = ⟨#[]⟩ then false
  else if takes x.op = 2 then decide (x.n = 0) && decide (x.s.size ≤ 256)
  else if x.s ≠ ⟨#[]⟩ then false
  else if takes x.op = 0 then decide (x.n = 0)
  else if takes x.op = 3 then decide (0 ≤ x.n) && decide (x.n < 16)
  else if takes x.op = 4 then decide (0 ≤ x.n) && decide (x.n < count)
  else true
def firstBad (c : Int) : List I → Option Nat
  | [] => none
  | x :: p => if right x c = true then (firstBad c p).map (· + 1) else some 0
def check (p : List I) : Int × Int :=
  if p.length = 0 ∨ 256 < p.length then (0, 13) else match firstBad p.length p with
    | some i => ((i : Int), 30)
    | none => (0, 0)

end Cd
end Go.Proofs.YtbefgplaaghlbaaGreatDoor
