/-
  Walk: mix.Text.
-/
import Derived.Test.YtbhngjhfeejeiaaDoorMxF
namespace Go.Proofs.YtbhngjhfeejeiaaDoor
open Go.RowKit
namespace Mx

/-- thirteen bytes, of which the last k are the letters -/
def b13 (h k : Nat) : List Value := (List.replicate (13 - k) (Value.int .u8 0)) ++ (tls h k).map fun c => Value.int .u8 (c.toNat : Int)
theorem b13_len (h k : Nat) (hk : k ≤ 13) : (b13 h k).length = 13 := by simp [b13, tls_len]; omega
theorem b13_next (h k : Nat) (hk : k < 13) : (b13 h k).set (12 - k) (.int .u8 ((lett (h / 32 ^ k % 32)).toNat : Int)) = b13 h (k + 1) := by
  unfold b13
  have e : 13 - k = 12 - k + 1 := by omega
  rw [e, List.replicate_succ', List.append_assoc, List.set_append_right _ _ (by simp), show 13 - (k + 1) = 12 - k by omega]
  simp [tls]
/-- block b holds the thirteen bytes -/
structure B13 (W : World) (b : Nat) (xs : List Value) : Prop where
  lt : b < W.heap.size
  len : xs.length = 13
  cell : ∀ j v, xs[j]? = some v → W.cell? ⟨b, j, none⟩ = some v
  fz : ∀ j, W.frozen? ⟨b, j, none⟩ = false
theorem B13.set {W : World} {b : Nat} {xs : List Value} (h : B13 W b xs) (j : Nat) (u : Value) : B13 (W.setCell ⟨b, j, none⟩ u) b (xs.set j u) := by
  refine ⟨by simpa [World.setCell] using h.lt, by simpa using h.len, fun i v hi => ?_, fun i => by rw [World.frozen?_setCell]; exact h.fz i⟩
  rw [List.getElem?_set] at hi
  by_cases e : j = i
  · subst e
    rw [if_pos rfl] at hi
    split at hi
    · rename_i hl
      cases hi
      exact World.cell?_setCell_same _ _ _ (h.cell j xs[j] (List.getElem?_eq_getElem hl))
    · cases hi
  · rw [if_neg e] at hi
    have hne : (⟨b, i, none⟩ : Addr) ≠ ⟨b, j, none⟩ := by intro hh; cases hh; exact e rfl
    rw [World.cell?_setCell_other _ _ _ _ (by first | exact hne | exact hne.symm)]
    exact h.cell i v hi
theorem let_all : ∀ n : Fin 32, letters.data.toList[n.1]? = some (lett n.1) := by decide +kernel
theorem lett_ix {n : Nat} (h : n < 32) : ∃ hn : n < letters.size, letters[n]'hn = lett n := by
  have hl : letters.size = 32 := by decide +kernel
  refine ⟨by omega, ?_⟩
  have := let_all ⟨n, h⟩
  rw [List.getElem?_eq_getElem (by rw [← Lib.size_eq]; omega)] at this
  exact Option.some.inj this
theorem B13.new (W : World) (h : Nat) : B13 (W.alloc (.cells (Array.replicate 13 (.int .u8 0)) 75)) W.heap.size (b13 h 0) := by
  refine ⟨by simp, by simp [b13, tls], fun j v hj => ?_, fun j => by go_simp⟩
  have e : b13 h 0 = List.replicate 13 (.int .u8 0) := by simp [b13, tls]
  rw [e] at hj
  have hl := (List.getElem?_eq_some_iff.1 hj).1
  simp at hl
  rw [List.getElem?_replicate, if_pos hl] at hj
  cases hj
  simp [World.cell?_alloc_new, hl]
set_option maxHeartbeats 2000000 in
set_option maxRecDepth 100000 in
theorem text_any (h : Nat) (w : World) (hh : h < 18446744073709551616) :
    Calls Tryd.prog 21 #[.int .u64 h] w fun e w' => e = .returned (.string ⟨(tls h 13).toArray⟩) ∧ Below w.heap.size w w' := by
  have HH := Lib.hid hh
  clear hh
  go_enter Tryd.func21, Tryd.ntmps21
  go_wp2_with fail
  have hB0 := (Below.refl w.heap.size w).alloc (Nat.le_refl _) (.cells #[.int .u8 0, .int .u8 0, .int .u8 0, .int .u8 0, .int .u8 0, .int .u8 0, .int .u8 0, .int .u8 0, .int .u8 0, .int .u8 0, .int .u8 0, .int .u8 0, .int .u8 0] 75)
  have hN0 : B13 (w.alloc (.cells #[.int .u8 0, .int .u8 0, .int .u8 0, .int .u8 0, .int .u8 0, .int .u8 0, .int .u8 0, .int .u8 0, .int .u8 0, .int .u8 0, .int .u8 0, .int .u8 0, .int .u8 0] 75)) w.heap.size (b13 h 0) := B13.new w h
  go_loopw [0, 4, 5] (fun x _ i wr => ∃ (k m : Nat), k ≤ 13 ∧ i = .int .i64 k ∧ x = .int .u64 m ∧ m = h / 32 ^ k ∧ B13 wr w.heap.size (b13 h k) ∧ Below w.heap.size w wr) (fun _ _ i _ => 13 - (intOf i).toNat)
  case atStart => exact ⟨0, h, by omega, rfl, rfl, by simp, hN0, hB0⟩
  case round =>
    obtain ⟨k, m, hk, rfl, rfl, hm, hB, hb⟩ := hrel
    clear hB0 hN0
    have HM := Lib.hid hm
    have hml : m < 18446744073709551616 := by have := HH.out; have h2 : m ≤ h := by rw [hm]; exact Nat.div_le_self _ _
                                              omega
    clear hm
    have hB' := hB
    obtain ⟨blt, blen, bcell, bfz⟩ := hB'
    by_cases hlt : k < 13
    · obtain ⟨j, hj⟩ : ∃ j, j + k = 12 := ⟨12 - k, by omega⟩
      have q1 : (12 : Int) - (k : Int) = (j : Int) := by omega
      have hj13 : j < 13 := by omega
      have hm32 : m % 32 < 32 := Nat.mod_lt _ (by decide)
      have kand : bits .and .u64 (m : Int) 31 = (m : Int) % 32 := by
        have := u64_and_nat m 31 hml (by decide)
        rw [show ((31 : Nat) : Int) = 31 from rfl] at this
        rw [this, show (31 : Nat) = 2 ^ 5 - 1 from rfl, Nat.and_two_pow_sub_one_eq_mod]
        omega
      have hidx : ∀ W : World, (Instr.index 9 (.string ⟨#[97, 98, 99, 100, 101, 102, 103, 104, 105, 106, 107, 108, 109, 110, 111, 112, 113, 114, 115, 116, 117, 118, 119, 120, 121, 122, 50, 51, 52, 53, 54, 55]⟩) (.int .u64 ((m : Int) % 32))).run Tryd.prog W = .ok (.int .u8 ((lett (m % 32)).toNat : Int)) W := fun W => by
        obtain ⟨hn, he⟩ := lett_ix hm32
        have e1 : ((m : Int) % 32) = ((m % 32 : Nat) : Int) := by omega
        rw [e1, ← he]
        have := run_index_string (P := Tryd.prog) (w := W) 9 letters .u64 ((m % 32 : Nat) : Int) Tryd.underlying9
        rw [dif_pos ⟨by omega, by omega⟩] at this
        simp only [Int.toNat_natCast] at this
        exact this
      have hcl : wr.cell? ⟨w.heap.size, j, none⟩ = some (.int .u8 0) := bcell j _ (by
        unfold b13
        rw [List.getElem?_append_left (by simp; omega), List.getElem?_replicate, if_pos (by omega)])
      have HS := Lib.hid (show B13 (wr.setCell ⟨w.heap.size, j, none⟩ (.int .u8 ((lett (m % 32)).toNat : Int))) w.heap.size (b13 h (k + 1)) by
        have := hB.set j (.int .u8 ((lett (m % 32)).toNat : Int))
        rw [← b13_next h k hlt, show 12 - k = j by omega, ← HM.out]
        exact this)
      have HD := Lib.hid (div_next HM.out)
      have HB := Lib.hid (hb.setCell (p := ⟨w.heap.size, j, none⟩) (Nat.le_refl _) (.int .u8 ((lett (m % 32)).toNat : Int)))
      have q2 : IntKind.u64.wrap ((m : Int) / 32) = (m : Int) / 32 := by
        show ((m : Int) / 32) % 18446744073709551616 = _
        omega
      clear hB bcell blen hj hm32
      go_wp2_with fail
      go_roundw
      case rel => exact ⟨k + 1, m / 32, by omega, by go_num, by go_num, HD.out, HS.out, HB.out⟩
      case measure => simp [intOf]; omega
    · obtain rfl : k = 13 := by omega
      have hcv : (convert 66 9 (.slice (some ⟨w.heap.size, 0, none⟩) 13 13)).run Tryd.prog wr = .ok (.string ⟨(tls h 13).toArray⟩) wr := by
        have := run_convert_bytes_back wr 66 9 5 ⟨w.heap.size, 0, none⟩ 13 (tls h 13) Tryd.underlying66 Tryd.underlying5 Tryd.underlying9 (fun j hj => by
          rw [tls_len] at hj
          have hx : (b13 h 13)[j]? = some (.int .u8 ((tls h 13)[j]'(by rw [tls_len]; exact hj)).toNat) := by
            unfold b13
            rw [Nat.sub_self, List.replicate_zero, List.nil_append, List.getElem?_map, List.getElem?_eq_getElem (by rw [tls_len]; exact hj)]
            rfl
          have := bcell j _ hx
          have ea : (⟨w.heap.size, 0, none⟩ : Addr).add j = ⟨w.heap.size, j, none⟩ := by unfold Addr.add; split <;> simp_all
          rw [ea, this])
        rw [tls_len] at this
        exact this
      clear hB bcell blen
      go_wp2_with fail
      go_ret
      exact ⟨rfl, hb⟩
end Mx
end Go.Proofs.YtbhngjhfeejeiaaDoor
