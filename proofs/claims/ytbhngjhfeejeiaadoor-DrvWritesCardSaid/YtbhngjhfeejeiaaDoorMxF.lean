/-
  Walk: the reference's text of a key (layer 2).
-/
import Derived.Test.YtbhngjhfeejeiaaDoorMxE
namespace Go.Proofs.YtbhngjhfeejeiaaDoor
open Go.RowKit
namespace Mx

def lett (n : Nat) : UInt8 := if 25 < n then UInt8.ofNat (n + 24) else UInt8.ofNat (n + 97)
/-- the lowest letters of a number, the highest of them ahead -/
def tls (h : Nat) : Nat → List UInt8
  | 0 => []
  | i + 1 => lett (h / 32 ^ i % 32) :: tls h i
theorem tls_len (h : Nat) : ∀ i, (tls h i).length = i
  | 0 => rfl
  | i + 1 => by simp [tls, tls_len h i]
theorem lett_lo {n : Nat} (h : ¬ 25 < n) : ((lett n).toNat : Int) = n + 97 := by
  unfold lett
  rw [if_neg h, UInt8.toNat_ofNat_of_lt' (by show n + 97 < 256; omega)]
  simp
theorem lett_hi {n : Nat} (h : 25 < n) (h2 : n < 32) : ((lett n).toNat : Int) = n + 24 := by
  unfold lett
  rw [if_pos h, UInt8.toNat_ofNat_of_lt' (by show n + 24 < 256; omega)]
  simp
theorem conv1 (W : World) (n : Int) (c : UInt8) (h : n = (c.toNat : Int)) : (convert 66 9 (.slice (some ⟨W.heap.size, 0, none⟩) 1 1)).run Tryd.prog (W.alloc (.cells #[.int .u8 n] 5)) = .ok (.string ⟨#[c]⟩) (W.alloc (.cells #[.int .u8 n] 5)) := by
  subst h
  refine run_convert_bytes_back _ 66 9 5 ⟨W.heap.size, 0, none⟩ 1 [c] Tryd.underlying66 Tryd.underlying5 Tryd.underlying9 (fun j hj => ?_)
  obtain rfl : j = 0 := by simpa using hj
  simp [Addr.add]
theorem tls_next {h k m : Nat} {t : ByteArray} (hm : m = h / 32 ^ k) (ht : t = ⟨(tls h k).toArray⟩) : (⟨#[lett (m % 32)]⟩ ++ t : ByteArray) = ⟨(tls h (k + 1)).toArray⟩ := by
  subst hm ht
  apply ByteArray.ext
  apply Array.toList_inj.1
  simp [tls, ByteArray.data_append]
theorem div_next {h k m : Nat} (hm : m = h / 32 ^ k) : m / 32 = h / 32 ^ (k + 1) := by rw [hm, Nat.pow_succ, Nat.div_div_eq_div_mul]
set_option maxHeartbeats 2000000 in
set_option maxRecDepth 100000 in
theorem textr_any (h : Nat) (w : World) (hh : h < 18446744073709551616) :
    Calls Tryd.prog 24 #[.int .u64 h] w fun e w' => e = .returned (.string ⟨(tls h 13).toArray⟩) ∧ Below w.heap.size w w' := by
  have HH := Lib.hid hh
  clear hh
  go_enter Tryd.func24, Tryd.ntmps24
  go_wp2_with fail
  go_loopw [0, 3, 4] (fun x o i wr => ∃ (k m : Nat) (t : ByteArray), k ≤ 13 ∧ i = .int .i64 k ∧ x = .int .u64 m ∧ m = h / 32 ^ k ∧ o = .string t ∧ t = ⟨(tls h k).toArray⟩ ∧ Below w.heap.size w wr) (fun _ _ i _ => 13 - (intOf i).toNat)
  case atStart => exact ⟨0, h, _, by omega, rfl, rfl, by simp, rfl, rfl, Below.refl _ _⟩
  case round =>
    obtain ⟨k, m, t, hk, rfl, rfl, hm, rfl, ht, hb⟩ := hrel
    have HT := Lib.hid ht
    have HM := Lib.hid hm
    have hts : t.size = k := by rw [ht, Lib.size_eq]; exact tls_len h k
    have hts2 : t.size ≤ 13 := by omega
    clear hm ht hts
    by_cases hlt : k < 13
    · have hm32 : m % 32 < 32 := Nat.mod_lt _ (by decide)
      have q1 : IntKind.u64.wrap ((m : Int) / 32) = (m : Int) / 32 := by
        have h1 := HH.out
        have h2 : m ≤ h := by rw [HM.out]; exact Nat.div_le_self _ _
        show ((m : Int) / 32) % 18446744073709551616 = _
        omega
      have q2 : ((m : Int)).tdiv 32 = (m : Int) / 32 := Int.tdiv_eq_ediv_of_nonneg (by omega)
      by_cases hd : 25 < m % 32
      · have hl := lett_hi hd hm32
        have hd' : (25 : Int) < (m : Int) % 32 := by omega
        have hcv := fun W => conv1 W ((m : Int) % 32 - 26 + 50) (lett (m % 32)) (by rw [hl]; omega)
        have hadd : ∀ W, (Op.stringOp .add ⟨#[lett (m % 32)]⟩ t).run Tryd.prog W = .ok (.string (⟨#[lett (m % 32)]⟩ ++ t)) W := fun W => run_string_add_sum _ _ _ (by show 1 + _ ≤ _; omega)
        have HN := Lib.hid (tls_next HM.out HT.out)
        have HD := Lib.hid (div_next HM.out)
        have HB := Lib.hid (hb.alloc hb.size (.cells #[.int .u8 ((m : Int) % 32 - 26 + 50)] 5))
        clear hd hl
        go_wp2_with fail
        go_roundw
        case rel => exact ⟨k + 1, m / 32, _, by omega, by go_num, by go_num, HD.out, rfl, HN.out, HB.out⟩
        case measure => simp [intOf]; omega
      · have hl := lett_lo hd
        have hd' : ¬ (25 : Int) < (m : Int) % 32 := by omega
        have hcv := fun W => conv1 W ((m : Int) % 32 + 97) (lett (m % 32)) (by rw [hl]; omega)
        have hadd : ∀ W, (Op.stringOp .add ⟨#[lett (m % 32)]⟩ t).run Tryd.prog W = .ok (.string (⟨#[lett (m % 32)]⟩ ++ t)) W := fun W => run_string_add_sum _ _ _ (by show 1 + _ ≤ _; omega)
        have HN := Lib.hid (tls_next HM.out HT.out)
        have HD := Lib.hid (div_next HM.out)
        have HB := Lib.hid (hb.alloc hb.size (.cells #[.int .u8 ((m : Int) % 32 + 97)] 5))
        clear hd hl
        go_wp2_with fail
        go_roundw
        case rel => exact ⟨k + 1, m / 32, _, by omega, by go_num, by go_num, HD.out, rfl, HN.out, HB.out⟩
        case measure => simp [intOf]; omega
    · obtain rfl : k = 13 := by omega
      have HT2 := HT
      go_wp2_with fail
      go_ret
      exact ⟨Sx.ret_str HT.out, hb⟩
end Mx
end Go.Proofs.YtbhngjhfeejeiaaDoor
