/-
  Walks: a key's letters, the reference's reading of a key (layer 2).
-/
import Derived.Test.YtbhngjhfeejeiaaDoorMxB
namespace Go.Proofs.YtbhngjhfeejeiaaDoor
open Go.RowKit
namespace Mx

def dg (c : UInt8) : Nat := if 97 ≤ c.toNat ∧ c.toNat ≤ 122 then c.toNat - 97 else if 50 ≤ c.toNat ∧ c.toNat ≤ 55 then c.toNat - 24 else 32
theorem dg_le (c : UInt8) : dg c ≤ 32 := by
  unfold dg
  split
  · omega
  · split <;> omega
set_option maxHeartbeats 400000 in
theorem digit_any (c : UInt8) (w : World) : Calls Tryd.prog 65 #[.int .u8 (c.toNat : Int)] w fun e w' => e = .returned (.int .u64 (dg c : Nat)) ∧ w' = w := by
  have hc := c.toNat_lt
  have hw : ∀ n : Int, 0 ≤ n → n < 256 → IntKind.u8.wrap n = n := fun n h0 h1 => by
    show n % 256 = n
    omega
  have hw2 : ∀ n : Int, 0 ≤ n → n < 256 → IntKind.u64.wrap n = n := fun n h0 h1 => by
    show n % 18446744073709551616 = n
    omega
  by_cases h1 : 97 ≤ c.toNat ∧ c.toNat ≤ 122
  · have hx := Lib.hid (show dg c = c.toNat - 97 by unfold dg; rw [if_pos h1])
    have k1 : IntKind.u8.wrap ((c.toNat : Int) - 97) = (c.toNat : Int) - 97 := hw _ (by omega) (by omega)
    have k2 : IntKind.u64.wrap ((c.toNat : Int) - 97) = (c.toNat : Int) - 97 := hw2 _ (by omega) (by omega)
    obtain ⟨a1, a2⟩ := h1
    clear hw hw2
    go_enter Tryd.func65, Tryd.ntmps65
    go_wp2
    go_ret
    exact ⟨Sx.ret_int (by rw [hx.out]; omega), rfl⟩
  · by_cases h2 : 50 ≤ c.toNat ∧ c.toNat ≤ 55
    · have hx := Lib.hid (show dg c = c.toNat - 24 by unfold dg; rw [if_neg h1, if_pos h2])
      have k1 : IntKind.u8.wrap ((c.toNat : Int) - 50) = (c.toNat : Int) - 50 := hw _ (by omega) (by omega)
      have k2 : IntKind.u64.wrap ((c.toNat : Int) - 50) = (c.toNat : Int) - 50 := hw2 _ (by omega) (by omega)
      have k3 : IntKind.u64.wrap ((c.toNat : Int) - 50 + 26) = (c.toNat : Int) - 50 + 26 := hw2 _ (by omega) (by omega)
      obtain ⟨a1, a2⟩ := h2
      have h1' : ¬ (97 : Int) ≤ c.toNat := by omega
      clear hw hw2 h1
      go_enter Tryd.func65, Tryd.ntmps65
      go_wp2
      go_ret
      exact ⟨Sx.ret_int (by rw [hx.out]; omega), rfl⟩
    · have hx := Lib.hid (show dg c = 32 by unfold dg; rw [if_neg h1, if_neg h2])
      have h1 : ¬ (97 : Int) ≤ c.toNat ∨ ¬ (c.toNat : Int) ≤ 122 := by omega
      have h2 : ¬ (50 : Int) ≤ c.toNat ∨ ¬ (c.toNat : Int) ≤ 55 := by omega
      clear hw hw2
      rcases h1 with h1 | h1 <;> rcases h2 with h2 | h2
      all_goals
        go_enter Tryd.func65, Tryd.ntmps65
        go_wp2
        all_goals first
          | (exfalso; omega)
          | (go_ret; exact ⟨Sx.ret_int (by rw [hx.out]; rfl), rfl⟩)

/-- a key's number -/
def kv (l : List UInt8) : Nat := l.foldl (fun h c => h * 32 + dg c) 0
def kok (l : List UInt8) : Bool := decide (l.length = 13) && l.all (fun c => decide (dg c ≤ 31)) && (match l with
  | [] => true
  | c :: _ => decide (dg c ≤ 15))
def KV (l : List UInt8) : Value := if kok l = true then .tuple #[.int .u64 (kv l : Nat), .bool true] else .tuple #[.int .u64 0, .bool false]
theorem kv_snoc (l : List UInt8) (c : UInt8) : kv (l ++ [c]) = kv l * 32 + dg c := by simp [kv]
theorem kv_take {s : ByteArray} {k : Nat} (h : k < s.size) : kv (s.data.toList.take (k + 1)) = kv (s.data.toList.take k) * 32 + dg s[k] := by
  have e : s.data.toList.take (k + 1) = s.data.toList.take k ++ [s[k]] := by
    rw [List.take_succ_eq_append_getElem (by have := Lib.size_eq s; omega)]
    rfl
  rw [e, kv_snoc]
theorem k_at {s : ByteArray} {k : Nat} (h : k < s.size) : s.data.toList[k]? = some s[k] := by
  rw [List.getElem?_eq_getElem (by have := Lib.size_eq s; omega)]
  rfl
theorem kok_len {l : List UInt8} (h : l.length ≠ 13) : kok l = false := by simp [kok, h]
theorem kok_bad {s : ByteArray} {k : Nat} (h : k < s.size) (hd : 31 < dg s[k]) : kok s.data.toList = false := by
  have hm : s[k] ∈ s.data.toList := List.mem_of_getElem? (k_at h)
  have : s.data.toList.all (fun c => decide (dg c ≤ 31)) = false := by
    rw [List.all_eq_false]
    exact ⟨_, hm, by simp; omega⟩
  simp [kok, this]
theorem kok_head {s : ByteArray} (h : 0 < s.size) (hd : 15 < dg s[0]) : kok s.data.toList = false := by
  have h0 := k_at h
  cases hl : s.data.toList with
  | nil => rw [hl] at h0; simp at h0
  | cons c r =>
    rw [hl] at h0
    simp at h0
    rw [← h0] at hd
    simp only [kok]
    rw [decide_eq_false (show ¬ dg c ≤ 15 by omega), Bool.and_false]
theorem kok_good {s : ByteArray} (h : s.size = 13) (hd : ∀ k (hk : k < s.size), dg s[k] ≤ 31) (h0 : ∀ hk : 0 < s.size, dg s[0] ≤ 15) : kok s.data.toList = true := by
  have hl : s.data.toList.length = 13 := by rw [← Lib.size_eq]; exact h
  have ha : s.data.toList.all (fun c => decide (dg c ≤ 31)) = true := by
    rw [List.all_eq_true]
    intro c hc
    obtain ⟨k, hk⟩ := List.mem_iff_getElem?.1 hc
    have hkl := (List.getElem?_eq_some_iff.1 hk).1
    have hks : k < s.size := by omega
    rw [k_at hks] at hk
    cases hk
    exact decide_eq_true (hd k hks)
  have hh := k_at (s := s) (k := 0) (by omega)
  have h15 := h0 (by omega)
  cases hc : s.data.toList with
  | nil => rw [hc] at hl; cases hl
  | cons c r =>
    rw [hc] at hl ha hh
    simp at hh
    rw [← hh] at h15
    simp only [kok, hl, ha, h15]
    decide
end Mx
end Go.Proofs.YtbhngjhfeejeiaaDoor
