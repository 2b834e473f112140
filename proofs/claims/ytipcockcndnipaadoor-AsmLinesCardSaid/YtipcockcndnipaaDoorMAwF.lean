/-
  Plain law: a program's text, instruction by instruction. No program in sight.
-/
import Derived.Test.YtipcockcndnipaaDoorMAwX
import Derived.Lib.ItoaLen
namespace Go.Proofs.YtipcockcndnipaaDoor
open Go.RowKit
namespace Aw
open As

theorem disF_app (p : List Cd.I) : ∀ (a : List Cd.I) (i : Nat) (x : Cd.I), disF p i (a ++ [x]) = disF p i a ++ bitL p (i + a.length) x
  | [], i, x => by simp [disF]
  | y :: a, i, x => by
    rw [List.cons_append, disF, disF_app p a (i + 1) x, disF, List.append_assoc, List.length_cons, show i + 1 + a.length = i + (a.length + 1) by omega]
/-- the text of the first k -/
def txL (p : List Cd.I) (k : Nat) : List UInt8 := (disF p 0 (p.take k)).flatMap fun l => l ++ [10]
theorem tx_zero (p : List Cd.I) : txL p 0 = [] := by simp [txL, disF]
theorem tx_all (p : List Cd.I) : txL p p.length = disL p := by unfold txL disL; rw [List.take_length]
theorem tx_snoc {p : List Cd.I} {k : Nat} {x : Cd.I} (h : p[k]? = some x) : txL p (k + 1) = txL p k ++ ((if aim p k = true then labT k ++ [10] else []) ++ (insT x ++ [10])) := by
  have hk : (p.take k).length = k := by
    rw [List.length_take]
    have := (List.getElem?_eq_some_iff.1 h).1
    omega
  unfold txL
  rw [takek_snoc h, disF_app, hk, Nat.zero_add, List.flatMap_append]
  congr 1
  unfold bitL
  split <;> simp
theorem wl_le : ∀ k, k < 31 → (Cd.wl k).length ≤ 40 := by decide +kernel
theorem word_le (n : Int) : (Cd.wordL n).length ≤ 40 := by
  unfold Cd.wordL
  split
  · exact wl_le _ (by omega)
  · simp
theorem esc_three (l : List UInt8) : (l.flatMap escB).length ≤ 3 * l.length := by
  induction l with
  | nil => simp
  | cons c l ih =>
    have h1 : (escB c).length ≤ 3 := by unfold escB; split <;> simp
    rw [List.flatMap_cons, List.length_append, List.length_cons]
    omega
theorem lab_le {k : Nat} (h : k ≤ 1000000) : (labT k).length ≤ 40 := by
  have := Lib.itoa_length_le (k : Int) (by omega) (by omega)
  simp only [labT, List.length_cons, List.length_append, List.length_nil]
  omega
theorem ins_le {x : Cd.I} (hn : -9223372036854775808 ≤ x.n ∧ x.n ≤ 9223372036854775807) (hs : x.s.data.toList.length ≤ 256) : (insT x).length ≤ 900 := by
  have h1 := word_le x.op
  have h2 := Lib.itoa_length_le x.n hn.1 hn.2
  have h3 := esc_three x.s.data.toList
  unfold insT argT
  split
  · simp only [List.length_append, List.length_cons]; omega
  · split
    · simp only [quoteL, List.length_append, List.length_cons, List.length_nil]; omega
    · split
      · simp only [List.length_append, List.length_cons]; omega
      · simp only [List.length_append, List.length_nil]; omega
theorem bad_right {c : Int} : ∀ (p : List Cd.I), Cd.firstBad c p = none → ∀ x ∈ p, Cd.right x c = true
  | [], _, x, h => by cases h
  | y :: p, hb, x, h => by
    unfold Cd.firstBad at hb
    cases hr : Cd.right y c with
    | false => rw [hr] at hb; simp at hb
    | true =>
      rw [hr] at hb
      rcases List.mem_cons.1 h with rfl | h
      · exact hr
      · refine bad_right p ?_ x h
        cases hp : Cd.firstBad c p with
        | none => rfl
        | some j => rw [hp] at hb; simp at hb
theorem right_small {x : Cd.I} {c : Int} (h : Cd.right x c = true) : x.s.size ≤ 256 := by
  unfold Cd.right at h
  split at h
  · cases h
  · split at h
    · simp at h; exact h.2
    · split at h
      · cases h
      · rename_i g
        have : x.s = ⟨#[]⟩ := by simpa using g
        rw [this]
        decide
theorem ok_right {p : List Cd.I} (hc : (Cd.check p).2 = 0) : ∀ x ∈ p, Cd.right x p.length = true := by
  unfold Cd.check at hc
  split at hc
  · cases hc
  · cases hb : Cd.firstBad p.length p with
    | some i => rw [hb] at hc; cases hc
    | none => exact bad_right p hb
theorem aim_eq (p : List Cd.I) (k : Nat) : (p.any fun y => decide (Cd.takes y.op = 4) && decide (y.n = (k : Int))) = aim p k := rfl
theorem word_small (n : Int) : (Cd.wordB n).size ≤ 1000 := by
  have := word_le n
  show (Cd.wordL n).toArray.size ≤ 1000
  simp
  omega
theorem lab_small {k : Nat} (h : k ≤ 1000000) : ((⟨#[108]⟩ : ByteArray) ++ ⟨(Lib.itoa (k : Int)).toArray⟩ ++ ⟨#[58, 10]⟩).size ≤ 1000 := by
  have := Lib.itoa_length_le (k : Int) (by omega) (by omega)
  rw [ByteArray.size_append, ByteArray.size_append]
  show 1 + (Lib.itoa (k : Int)).toArray.size + 2 ≤ 1000
  simp
  omega
theorem num_small {n : Int} (h0 : -9223372036854775808 ≤ n) (h1 : n ≤ 9223372036854775807) : ((⟨#[32]⟩ : ByteArray) ++ ⟨(Lib.itoa n).toArray⟩).size ≤ 1000 := by
  have := Lib.itoa_length_le n h0 h1
  rw [ByteArray.size_append]
  show 1 + (Lib.itoa n).toArray.size ≤ 1000
  simp
  omega
theorem aim_small {n : Int} (h0 : -9223372036854775808 ≤ n) (h1 : n ≤ 9223372036854775807) : ((⟨#[32, 108]⟩ : ByteArray) ++ ⟨(Lib.itoa n).toArray⟩).size ≤ 1000 := by
  have := Lib.itoa_length_le n h0 h1
  rw [ByteArray.size_append]
  show 2 + (Lib.itoa n).toArray.size ≤ 1000
  simp
  omega
theorem quote_small {s : ByteArray} (h : s.size ≤ 256) : ((⟨#[32]⟩ : ByteArray) ++ ⟨(quoteL s.data.toList).toArray⟩).size ≤ 1000 := by
  have h3 := esc_three s.data.toList
  have hs : s.data.toList.length = s.size := by simp
  rw [ByteArray.size_append]
  show 1 + (quoteL s.data.toList).toArray.size ≤ 1000
  simp only [quoteL, List.size_toArray, List.length_append, List.length_cons, List.length_nil]
  omega
theorem tx_len {p : List Cd.I} {k : Nat} {x : Cd.I} (hx : p[k]? = some x) (hk : k ≤ 1000000) (hs : x.s.size ≤ 256) (h0 : -9223372036854775808 ≤ x.n) (h1 : x.n ≤ 9223372036854775807) (h : (txL p k).length ≤ k * 1000) : (txL p (k + 1)).length ≤ (k + 1) * 1000 := by
  have h3 := lab_le hk
  have h4 := ins_le (x := x) ⟨h0, h1⟩ (by have hz : x.s.data.toList.length = x.s.size := by simp
                                          omega)
  rw [tx_snoc hx]
  split
  · simp only [List.length_append, List.length_cons, List.length_nil]; omega
  · simp only [List.length_append, List.length_cons, List.length_nil]; omega
theorem quote_ov {s : ByteArray} (h : s.size ≤ 256) : ¬ 9223372036854775807 < 1 + (quoteL s.data.toList).length := by
  have h3 := esc_three s.data.toList
  have hs : s.data.toList.length = s.size := by simp
  simp only [quoteL, List.length_append, List.length_cons, List.length_nil]
  omega
end Aw
end Go.Proofs.YtipcockcndnipaaDoor
