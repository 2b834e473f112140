/-
  Walks: the number of bytes, of both texts (layer 2).
  Walks: a number's lowest bits, of both texts (layer 2).
  Walks: a key's letters, the reference's reading of a key (layer 2).
  Walk: the reference's reading of a key (layer 2).
  Walk: the reading of a key (layer 2).
  Walk: the reference's text of a key (layer 2).
  Walk: mix.Text.
-/
import Derived.Test.YtbhngjhfeejeiaaGreatDoorSxG
import Derived.Laws.Closers25b
import Derived.IntWalk
import Derived.Laws.BitsAllLaws
import Derived.Test.YtbhngjhfeejeiaaGreatDoorShelfI
namespace Go.Proofs.YtbhngjhfeejeiaaGreatDoor
open Go.RowKit
namespace Mx

/-- one byte more -/
def st (h c : Int) : Int :=
  let a := bits .xor .u64 h c
  let b := bits .xor .u64 a (IntKind.u64.wrap (a * 8192))
  let d := bits .xor .u64 b (b / 128)
  let e := bits .xor .u64 d (IntKind.u64.wrap (d * 131072))
  IntKind.u64.wrap (e + 15111065706836454659)
def mixL (h : Int) (l : List UInt8) : Int := l.foldl (fun h c => st h (c.toNat : Int)) h
theorem mix_snoc (h : Int) (s : ByteArray) (k : Nat) (hk : k < s.size) : mixL h (s.data.toList.take (k + 1)) = st (mixL h (s.data.toList.take k)) (s[k].toNat : Int) := by
  have e : s.data.toList.take (k + 1) = s.data.toList.take k ++ [s[k]] := by
    rw [List.take_succ_eq_append_getElem (by have := Lib.size_eq s; omega)]
    rfl
  rw [e]
  simp [mixL]

theorem xor_in (x y : Int) : 0 ≤ bits .xor .u64 x y ∧ bits .xor .u64 x y < 18446744073709551616 := by
  have h := bits_within .xor .u64 x y
  exact ⟨h.1, by have := h.2; simp [IntKind.max, IntKind.bits, IntKind.signed] at this; omega⟩
/-- the number of bytes -/
def ofL (l : List UInt8) : Int := mixL (bits .xor .u64 (IntKind.u64.wrap (l.length : Int)) 11400714819323198485) l
end Mx
end Go.Proofs.YtbhngjhfeejeiaaGreatDoor
namespace Go.Proofs.YtbhngjhfeejeiaaGreatDoor
open Go.RowKit
namespace Mx

def nar (h : Nat) (w : Int) : Nat := if 64 ≤ w then h else h % 2 ^ w.toNat
theorem nar_big {h : Nat} {w : Int} (hw : 64 ≤ w) : nar h w = h := by unfold nar; rw [if_pos hw]
theorem nar_neg {h : Nat} {w : Int} (hw : w ≤ 0) : nar h w = 0 := by
  unfold nar
  rw [if_neg (by omega), show w.toNat = 0 by omega]
  simp [Nat.mod_one]
theorem nar_in {h k : Nat} (hk : k < 64) : nar h k = h % 2 ^ k := by unfold nar; rw [if_neg (by omega)]; simp
theorem nar_succ (h i : Nat) : h % 2 ^ i + h / 2 ^ i % 2 * 2 ^ i = h % 2 ^ (i + 1) := by
  rw [Nat.pow_succ, Nat.mod_mul, Nat.mul_comm]
theorem div_succ (h i : Nat) : h / 2 ^ i / 2 = h / 2 ^ (i + 1) := by rw [Nat.pow_succ, Nat.div_div_eq_div_mul]
theorem mod_all {h : Nat} (hh : h < 18446744073709551616) : h % 2 ^ 64 = h := Nat.mod_eq_of_lt (by omega)
end Mx
end Go.Proofs.YtbhngjhfeejeiaaGreatDoor
namespace Go.Proofs.YtbhngjhfeejeiaaGreatDoor
open Go.RowKit
namespace Mx

def dg (c : UInt8) : Nat := if 97 ≤ c.toNat ∧ c.toNat ≤ 122 then c.toNat - 97 else if 50 ≤ c.toNat ∧ c.toNat ≤ 55 then c.toNat - 24 else 32
theorem dg_le (c : UInt8) : dg c ≤ 32 := by
  unfold dg
  split
  · omega
  · split <;> omega
set_option maxHeartbeats 400000 in
theorem digit_any (c : UInt8) (w : World) : Calls Tryz.prog 69 #[.int .u8 (c.toNat : Int)] w fun e w' => e = .returned (.int .u64 (dg c : Nat)) ∧ w' = w := by
  have hc := c.toNat_lt
  have hw : ∀ n : Int, 0 ≤ n → n < 256 → IntKind.u8.wrap n = n := fun n h0 h1 => by
    show n % 256 = n
    omega
  have hw2 : ∀ n : Int, 0 ≤ n → n < 256 → IntKind.u64.wrap n = n := fun n h0 h1 => by
    show n % 18446744073709551616 = n
    omega
  by_cases h1 : 97 ≤ c.toNat ∧ c.toNat ≤ 122
  · have hx := Lib.hid (show dg c = c.toNat - 97 by unfold dg; rw [if_pos h1])
    have k1 : IntKind.u8.wrap ((c.toNat : Int) - 97) = (c.toNat : Int) - 97 := hw _ (by omega) (by omega)
    have k2 : IntKind.u64.wrap ((c.toNat : Int) - 97) = (c.toNat : Int) - 97 := hw2 _ (by omega) (by omega)
    obtain ⟨a1, a2⟩ := h1
    clear hw hw2
    go_enter Tryz.func69, Tryz.ntmps69
    go_wp2
    go_ret
    exact ⟨Sx.ret_int (by rw [hx.out]; omega), rfl⟩
  · by_cases h2 : 50 ≤ c.toNat ∧ c.toNat ≤ 55
    · have hx := Lib.hid (show dg c = c.toNat - 24 by unfold dg; rw [if_neg h1, if_pos h2])
      have k1 : IntKind.u8.wrap ((c.toNat : Int) - 50) = (c.toNat : Int) - 50 := hw _ (by omega) (by omega)
      have k2 : IntKind.u64.wrap ((c.toNat : Int) - 50) = (c.toNat : Int) - 50 := hw2 _ (by omega) (by omega)
      have k3 : IntKind.u64.wrap ((c.toNat : Int) - 50 + 26) = (c.toNat : Int) - 50 + 26 := hw2 _ (by omega) (by omega)
      obtain ⟨a1, a2⟩ := h2
      have h1' : ¬ (97 : Int) ≤ c.toNat := by omega
      clear hw hw2 h1
      go_enter Tryz.func69, Tryz.ntmps69
      go_wp2
      go_ret
      exact ⟨Sx.ret_int (by rw [hx.out]; omega), rfl⟩
    · have hx := Lib.hid (show dg c = 32 by unfold dg; rw [if_neg h1, if_neg h2])
      have h1 : ¬ (97 : Int) ≤ c.toNat ∨ ¬ (c.toNat : Int) ≤ 122 := by omega
      have h2 : ¬ (50 : Int) ≤ c.toNat ∨ ¬ (c.toNat : Int) ≤ 55 := by omega
      clear hw hw2
      rcases h1 with h1 | h1 <;> rcases h2 with h2 | h2
      all_goals
        go_enter Tryz.func69, Tryz.ntmps69
        go_wp2
        all_goals first
          | (exfalso; omega)
          | (go_ret; exact ⟨Sx.ret_int (by rw [hx.out]; rfl), rfl⟩)

/-- a key's number -/
def kv (l : List UInt8) : Nat := l.foldl (fun h c => h * 32 + dg c) 0
def kok (l : List UInt8) : Bool := decide (l.length = 13) && l.all (fun c => decide (dg c ≤ 31)) && (match l with
  | [] => true
  | c :: _ => decide (dg c ≤ 15))
def KV (l : List UInt8) : Value := if kok l = true then .tuple #[.int .u64 (kv l : Nat), .bool true] else .tuple #[.int .u64 0, .bool false]
theorem kv_snoc (l : List UInt8) (c : UInt8) : kv (l ++ [c]) = kv l * 32 + dg c := by simp [kv]
theorem kv_take {s : ByteArray} {k : Nat} (h : k < s.size) : kv (s.data.toList.take (k + 1)) = kv (s.data.toList.take k) * 32 + dg s[k] := by
  have e : s.data.toList.take (k + 1) = s.data.toList.take k ++ [s[k]] := by
    rw [List.take_succ_eq_append_getElem (by have := Lib.size_eq s; omega)]
    rfl
  rw [e, kv_snoc]
theorem k_at {s : ByteArray} {k : Nat} (h : k < s.size) : s.data.toList[k]? = some s[k] := by
  rw [List.getElem?_eq_getElem (by have := Lib.size_eq s; omega)]
  rfl
theorem kok_len {l : List UInt8} (h : l.length ≠ 13) : kok l = false := by simp [kok, h]
theorem kok_bad {s : ByteArray} {k : Nat} (h : k < s.size) (hd : 31 < dg s[k]) : kok s.data.toList = false := by
  have hm : s[k] ∈ s.data.toList := List.mem_of_getElem? (k_at h)
  have : s.data.toList.all (fun c => decide (dg c ≤ 31)) = false := by
    rw [List.all_eq_false]
    exact ⟨_, hm, by simp; omega⟩
  simp [kok, this]
theorem kok_head {s : ByteArray} (h : 0 < s.size) (hd : 15 < dg s[0]) : kok s.data.toList = false := by
  have h0 := k_at h
  cases hl : s.data.toList with
  | nil => rw [hl] at h0; simp at h0
  | cons c r =>
    rw [hl] at h0
    simp at h0
    rw [← h0] at hd
    simp only [kok]
    rw [decide_eq_false (show ¬ dg c ≤ 15 by omega), Bool.and_false]
theorem kok_good {s : ByteArray} (h : s.size = 13) (hd : ∀ k (hk : k < s.size), dg s[k] ≤ 31) (h0 : ∀ hk : 0 < s.size, dg s[0] ≤ 15) : kok s.data.toList = true := by
  have hl : s.data.toList.length = 13 := by rw [← Lib.size_eq]; exact h
  have ha : s.data.toList.all (fun c => decide (dg c ≤ 31)) = true := by
    rw [List.all_eq_true]
    intro c hc
    obtain ⟨k, hk⟩ := List.mem_iff_getElem?.1 hc
    have hkl := (List.getElem?_eq_some_iff.1 hk).1
    have hks : k < s.size := by omega
    rw [k_at hks] at hk
    cases hk
    exact decide_eq_true (hd k hks)
  have hh := k_at (s := s) (k := 0) (by omega)
  have h15 := h0 (by omega)
  cases hc : s.data.toList with
  | nil => rw [hc] at hl; cases hl
  | cons c r =>
    rw [hc] at hl ha hh
    simp at hh
    rw [← hh] at h15
    simp only [kok, hl, ha, h15]
    decide
end Mx
end Go.Proofs.YtbhngjhfeejeiaaGreatDoor
namespace Go.Proofs.YtbhngjhfeejeiaaGreatDoor
open Go.RowKit
namespace Mx

def BB : Nat → Nat
  | 0 => 1
  | i + 1 => 16 * 32 ^ i
theorem BB_succ {m d i : Nat} (h : m < BB i) (hd : d ≤ 31) (h0 : i = 0 → d ≤ 15) : m * 32 + d < BB (i + 1) := by
  cases i with
  | zero =>
    simp only [BB] at h ⊢
    have := h0 rfl
    omega
  | succ i =>
    simp only [BB] at h ⊢
    rw [Nat.pow_succ]
    omega
theorem BB_le : ∀ i : Fin 14, BB i.1 ≤ 18446744073709551616 := by decide +kernel
set_option maxHeartbeats 1000000 in
theorem parser_any (s : ByteArray) (w : World) (hs : s.size ≤ 9223372036854775807) :
    Calls Tryz.prog 53 #[.string s] w fun e w' => e = .returned (KV s.data.toList) ∧ w' = w := by
  go_enter Tryz.func53, Tryz.ntmps53
  go_wp2_with fail
  go_loop [4, 5] (fun x i => ∃ (k m : Nat), k ≤ 13 ∧ k ≤ s.size ∧ i = .int .i64 k ∧ x = .int .u64 m ∧ m = kv (s.data.toList.take k) ∧ m < BB k ∧ (∀ (j : Nat) (hj : j < s.size), j < k → dg s[j] ≤ 31 ∧ (j = 0 → dg s[j] ≤ 15))) (fun _ i => 13 - (intOf i).toNat)
  case atStart => exact ⟨0, 0, by omega, by omega, rfl, rfl, rfl, by decide, by omega⟩
  case round =>
    obtain ⟨k, m, hk, hks, rfl, rfl, hm, hb, hall⟩ := hrel
    have HM := Lib.hid hm
    have HALL := Lib.hid hall
    clear hm hall
    by_cases hlt : k < s.size
    · by_cases h13 : k < 13
      · have hdle := dg_le s[k]
        have HB := Lib.hid hb
        have hbd := BB_le ⟨k + 1, by omega⟩
        by_cases hd : 31 < dg s[k]
        · have hx := Lib.hid (show KV s.data.toList = .tuple #[.int .u64 0, .bool false] by unfold KV; rw [kok_bad hlt hd]; rfl)
          have hd' : (31 : Int) < (dg s[k] : Int) := by omega
          clear hb hbd
          go_wp2_with (go_at_call 69; refine (digit_any _ _).mono ?_; rintro e w' ⟨rfl, rfl⟩)
          go_ret2
          exact ⟨Eq.trans (by rfl) (congrArg Ending.returned hx.out).symm, rfl⟩
        · have hd' : ¬ (31 : Int) < (dg s[k] : Int) := by omega
          by_cases hz : k = 0 ∧ 15 < dg s[k]
          · obtain ⟨rfl, h15⟩ := hz
            have hx := Lib.hid (show KV s.data.toList = .tuple #[.int .u64 0, .bool false] by unfold KV; rw [kok_head hlt h15]; rfl)
            have h15' : (15 : Int) < (dg s[0] : Int) := by omega
            clear hb hbd
            go_wp2_with (go_at_call 69; refine (digit_any _ _).mono ?_; rintro e w' ⟨rfl, rfl⟩)
            go_ret2
            exact ⟨Eq.trans (by rfl) (congrArg Ending.returned hx.out).symm, rfl⟩
          · have hn := BB_succ (m := m) (d := dg s[k]) (i := k) hb (by omega) (fun h0 => by omega)
            have HN := Lib.hid hn
            have hn2 : m * 32 + dg s[k] < 18446744073709551616 := Nat.lt_of_lt_of_le hn hbd
            have HT := Lib.hid (kv_take hlt)
            have k1 : IntKind.u64.wrap ((m : Int) * 32) = (m : Int) * 32 := by
              show ((m : Int) * 32) % 18446744073709551616 = _
              omega
            have k2 : IntKind.u64.wrap ((m : Int) * 32 + (dg s[k] : Int)) = ((m * 32 + dg s[k] : Nat) : Int) := by
              show ((m : Int) * 32 + (dg s[k] : Int)) % 18446744073709551616 = _
              omega
            have HA := Lib.hid (show ∀ (j : Nat) (hj : j < s.size), j < k + 1 → dg s[j] ≤ 31 ∧ (j = 0 → dg s[j] ≤ 15) from fun j hj hjk => by
              by_cases h : j < k
              · exact HALL.out j hj h
              · obtain rfl : j = k := by omega
                exact ⟨by omega, fun h0 => by omega⟩)
            have hcs : ((k : Int) == 0) = false ∨ (((k : Int) == 0) = true ∧ ¬ (15 : Int) < (dg s[k] : Int)) := by
              by_cases h0 : k = 0
              · exact .inr ⟨by simp [h0], by omega⟩
              · exact .inl (by rw [beq_eq_false_iff_ne]; omega)
            clear hb hbd hn hn2 hz hd hdle
            rcases hcs with hcs | ⟨hcs, hcs2⟩
            all_goals
              go_wp2_with (go_at_call 69; refine (digit_any _ _).mono ?_; rintro e w' ⟨rfl, rfl⟩)
              go_round
              case rel => exact ⟨k + 1, m * 32 + dg s[k], by omega, by omega, by go_num, by go_num, by rw [HT.out, HM.out], HN.out, HA.out⟩
              case measure => simp [intOf]; omega
      · have hne : s.size ≠ 13 := by omega
        have hx := Lib.hid (show KV s.data.toList = .tuple #[.int .u64 0, .bool false] by unfold KV; rw [kok_len (by rw [← Lib.size_eq]; exact hne)]; rfl)
        have j1 : ((s.size : Int) == 13) = false := by rw [beq_eq_false_iff_ne]; omega
        clear hb
        go_wp2_with fail
        go_ret2
        exact ⟨Eq.trans (by rfl) (congrArg Ending.returned hx.out).symm, rfl⟩
    · by_cases hne : s.size = 13
      · have hx := Lib.hid (show KV s.data.toList = .tuple #[.int .u64 m, .bool true] by
          unfold KV
          rw [kok_good hne (fun j hj => (HALL.out j hj (by omega)).1) (fun h0 => (HALL.out 0 h0 (by omega)).2 rfl)]
          have := HM.out
          rw [List.take_of_length_le (by rw [← Lib.size_eq]; omega)] at this
          rw [this]
          rfl)
        have j1 : ((s.size : Int) == 13) = true := by rw [beq_iff_eq]; omega
        clear hb hne
        go_wp2_with fail
        go_ret2
        exact ⟨Eq.trans (by rfl) (congrArg Ending.returned hx.out).symm, rfl⟩
      · have hx := Lib.hid (show KV s.data.toList = .tuple #[.int .u64 0, .bool false] by unfold KV; rw [kok_len (by rw [← Lib.size_eq]; exact hne)]; rfl)
        have j1 : ((s.size : Int) == 13) = false := by rw [beq_eq_false_iff_ne]; omega
        clear hb
        go_wp2_with fail
        go_ret2
        exact ⟨Eq.trans (by rfl) (congrArg Ending.returned hx.out).symm, rfl⟩
end Mx
end Go.Proofs.YtbhngjhfeejeiaaGreatDoor
namespace Go.Proofs.YtbhngjhfeejeiaaGreatDoor
open Go.RowKit
namespace Mx

def letters : ByteArray := ⟨#[97, 98, 99, 100, 101, 102, 103, 104, 105, 106, 107, 108, 109, 110, 111, 112, 113, 114, 115, 116, 117, 118, 119, 120, 121, 122, 50, 51, 52, 53, 54, 55]⟩
def ix (c : UInt8) : Int := if dg c ≤ 31 then (dg c : Int) else -1
theorem ix_all : ∀ n : Fin 256, Lib.indexByte letters.data.toList (UInt8.ofNat n.1) = ix (UInt8.ofNat n.1) := by decide +kernel
theorem ix_eq (c : UInt8) : Lib.indexByte letters.data.toList c = ix c := by
  have h := ix_all ⟨c.toNat, c.toNat_lt⟩
  simpa using h
theorem index_any (c : UInt8) (w : World) : Calls Tryz.prog 48 #[.string ⟨#[97, 98, 99, 100, 101, 102, 103, 104, 105, 106, 107, 108, 109, 110, 111, 112, 113, 114, 115, 116, 117, 118, 119, 120, 121, 122, 50, 51, 52, 53, 54, 55]⟩, .int .u8 (c.toNat : Int)] w fun e w' => e = .returned (.int .i64 (ix c)) ∧ w' = w := by
  refine (Tryz.strings_IndexByte letters (c.toNat : Int) w).mono ?_
  rintro e w' ⟨rfl, rfl⟩
  have e1 : ((c.toNat : Int)).toNat.toUInt8 = c := by simp
  rw [e1, ix_eq]
  exact ⟨rfl, rfl⟩
theorem or_shift {m d : Nat} (hd : d ≤ 31) (h : m * 32 + d < 18446744073709551616) : bits .or .u64 ((m * 32 : Nat) : Int) (d : Int) = ((m * 32 + d : Nat) : Int) := by
  rw [u64_or_nat _ _ (by omega) (by omega)]
  have e := Nat.shiftLeft_add_eq_or_of_lt (a := m) (b := d) (i := 5) (by omega)
  rw [Nat.shiftLeft_eq] at e
  rw [← e]
set_option maxHeartbeats 1000000 in
theorem parse_any (s : ByteArray) (w : World) :
    Calls Tryz.prog 29 #[.string s] w fun e w' => e = .returned (KV s.data.toList) ∧ w' = w := by
  by_cases hne : s.size = 13
  · have j0 : ((s.size : Int) == 13) = true := by rw [beq_iff_eq]; omega
    have j1 : ((s.size : Int) != 13) = false := by rw [bne, j0]; rfl
    have HNE := Lib.hid hne
    have hs13 : s.size ≤ 13 := by omega
    clear hne
    go_enter Tryz.func29, Tryz.ntmps29
    go_wp2_with fail
    go_loop [4, 12] (fun x i => ∃ (k m : Nat), k ≤ s.size ∧ i = .int .i64 k ∧ x = .int .u64 m ∧ m = kv (s.data.toList.take k) ∧ m < BB k ∧ (∀ (j : Nat) (hj : j < s.size), j < k → dg s[j] ≤ 31 ∧ (j = 0 → dg s[j] ≤ 15))) (fun _ i => s.size - (intOf i).toNat)
    case atStart => exact ⟨0, 0, by omega, rfl, rfl, rfl, by decide, by omega⟩
    case round =>
      obtain ⟨k, m, hks, rfl, rfl, hm, hb, hall⟩ := hrel
      have HM := Lib.hid hm
      have HALL := Lib.hid hall
      clear hm hall
      by_cases hlt : k < s.size
      · have hdle := dg_le s[k]
        have hbd := BB_le ⟨k + 1, by omega⟩
        by_cases hd : 31 < dg s[k]
        · have hx := Lib.hid (show KV s.data.toList = .tuple #[.int .u64 0, .bool false] by unfold KV; rw [kok_bad hlt hd]; rfl)
          have hi : ix s[k] = -1 := by unfold ix; rw [if_neg (by omega)]
          have hcall := index_any s[k] w
          rw [hi] at hcall
          clear hb hbd hd hdle hi
          go_wp2_with (go_at_call 48; refine hcall.mono ?_; rintro e w' ⟨rfl, rfl⟩)
          go_ret2
          exact ⟨Eq.trans (by rfl) (congrArg Ending.returned hx.out).symm, rfl⟩
        · have hi : ix s[k] = (dg s[k] : Int) := by unfold ix; rw [if_pos (by omega)]
          have hcall := index_any s[k] w
          rw [hi] at hcall
          have hd' : ¬ (dg s[k] : Int) < 0 := by omega
          by_cases hz : k = 0 ∧ 15 < dg s[k]
          · obtain ⟨rfl, h15⟩ := hz
            have hx := Lib.hid (show KV s.data.toList = .tuple #[.int .u64 0, .bool false] by unfold KV; rw [kok_head hlt h15]; rfl)
            have h15' : (15 : Int) < (dg s[0] : Int) := by omega
            clear hb hbd hi
            go_wp2_with (go_at_call 48; refine hcall.mono ?_; rintro e w' ⟨rfl, rfl⟩)
            go_ret2
            exact ⟨Eq.trans (by rfl) (congrArg Ending.returned hx.out).symm, rfl⟩
          · have hn := BB_succ (m := m) (d := dg s[k]) (i := k) hb (by omega) (fun h0 => by omega)
            have HN := Lib.hid hn
            have hn2 : m * 32 + dg s[k] < 18446744073709551616 := Nat.lt_of_lt_of_le hn hbd
            have HT := Lib.hid (kv_take hlt)
            have k1 : IntKind.u64.wrap ((m : Int) * 32) = ((m * 32 : Nat) : Int) := by
              show ((m : Int) * 32) % 18446744073709551616 = _
              omega
            have k2 : IntKind.u64.wrap (dg s[k] : Int) = (dg s[k] : Int) := by
              show (dg s[k] : Int) % 18446744073709551616 = _
              omega
            have HO := Lib.hid (or_shift (show dg s[k] ≤ 31 by omega) hn2)
            have HA := Lib.hid (show ∀ (j : Nat) (hj : j < s.size), j < k + 1 → dg s[j] ≤ 31 ∧ (j = 0 → dg s[j] ≤ 15) from fun j hj hjk => by
              by_cases h : j < k
              · exact HALL.out j hj h
              · obtain rfl : j = k := by omega
                exact ⟨by omega, fun h0 => by omega⟩)
            have hcs : ((k : Int) == 0) = false ∨ (((k : Int) == 0) = true ∧ ¬ (15 : Int) < (dg s[k] : Int)) := by
              by_cases h0 : k = 0
              · exact .inr ⟨by simp [h0], by omega⟩
              · exact .inl (by rw [beq_eq_false_iff_ne]; omega)
            clear hb hbd hn hn2 hz hd hdle hi
            rcases hcs with hcs | ⟨hcs, hcs2⟩
            all_goals
              go_wp2_with (go_at_call 48; refine hcall.mono ?_; rintro e w' ⟨rfl, rfl⟩)
              go_round
              case rel => exact ⟨k + 1, m * 32 + dg s[k], by omega, by go_num, by rw [← HO.out]; simp, by rw [HT.out, HM.out], HN.out, HA.out⟩
              case measure => simp [intOf]; omega
      · have hx := Lib.hid (show KV s.data.toList = .tuple #[.int .u64 m, .bool true] by
          unfold KV
          rw [kok_good HNE.out (fun j hj => (HALL.out j hj (by omega)).1) (fun h0 => (HALL.out 0 h0 (by omega)).2 rfl)]
          have := HM.out
          rw [List.take_of_length_le (by rw [← Lib.size_eq]; omega)] at this
          rw [this]
          rfl)
        clear hb
        go_wp2_with fail
        go_ret2
        exact ⟨Eq.trans (by rfl) (congrArg Ending.returned hx.out).symm, rfl⟩
  · have hx := Lib.hid (show KV s.data.toList = .tuple #[.int .u64 0, .bool false] by unfold KV; rw [kok_len (by rw [← Lib.size_eq]; exact hne)]; rfl)
    have j0 : ((s.size : Int) == 13) = false := by rw [beq_eq_false_iff_ne]; omega
    have j1 : ((s.size : Int) != 13) = true := by rw [bne, j0]; rfl
    go_enter Tryz.func29, Tryz.ntmps29
    go_wp2_with fail
    go_ret2
    exact ⟨Eq.trans (by rfl) (congrArg Ending.returned hx.out).symm, rfl⟩
end Mx
end Go.Proofs.YtbhngjhfeejeiaaGreatDoor
namespace Go.Proofs.YtbhngjhfeejeiaaGreatDoor
open Go.RowKit
namespace Mx

def lett (n : Nat) : UInt8 := if 25 < n then UInt8.ofNat (n + 24) else UInt8.ofNat (n + 97)
/-- the lowest letters of a number, the highest of them ahead -/
def tls (h : Nat) : Nat → List UInt8
  | 0 => []
  | i + 1 => lett (h / 32 ^ i % 32) :: tls h i
theorem tls_len (h : Nat) : ∀ i, (tls h i).length = i
  | 0 => rfl
  | i + 1 => by simp [tls, tls_len h i]
theorem lett_lo {n : Nat} (h : ¬ 25 < n) : ((lett n).toNat : Int) = n + 97 := by
  unfold lett
  rw [if_neg h, UInt8.toNat_ofNat_of_lt' (by show n + 97 < 256; omega)]
  simp
theorem lett_hi {n : Nat} (h : 25 < n) (h2 : n < 32) : ((lett n).toNat : Int) = n + 24 := by
  unfold lett
  rw [if_pos h, UInt8.toNat_ofNat_of_lt' (by show n + 24 < 256; omega)]
  simp
theorem conv1 (W : World) (n : Int) (c : UInt8) (h : n = (c.toNat : Int)) : (convert 78 9 (.slice (some ⟨W.heap.size, 0, none⟩) 1 1)).run Tryz.prog (W.alloc (.cells #[.int .u8 n] 5)) = .ok (.string ⟨#[c]⟩) (W.alloc (.cells #[.int .u8 n] 5)) := by
  subst h
  refine run_convert_bytes_back _ 78 9 5 ⟨W.heap.size, 0, none⟩ 1 [c] Tryz.underlying78 Tryz.underlying5 Tryz.underlying9 (fun j hj => ?_)
  obtain rfl : j = 0 := by simpa using hj
  simp [Addr.add]
theorem tls_next {h k m : Nat} {t : ByteArray} (hm : m = h / 32 ^ k) (ht : t = ⟨(tls h k).toArray⟩) : (⟨#[lett (m % 32)]⟩ ++ t : ByteArray) = ⟨(tls h (k + 1)).toArray⟩ := by
  subst hm ht
  apply ByteArray.ext
  apply Array.toList_inj.1
  simp [tls, ByteArray.data_append]
theorem div_next {h k m : Nat} (hm : m = h / 32 ^ k) : m / 32 = h / 32 ^ (k + 1) := by rw [hm, Nat.pow_succ, Nat.div_div_eq_div_mul]
end Mx
end Go.Proofs.YtbhngjhfeejeiaaGreatDoor
namespace Go.Proofs.YtbhngjhfeejeiaaGreatDoor
open Go.RowKit
namespace Mx

/-- thirteen bytes, of which the last k are the letters -/
def b13 (h k : Nat) : List Value := (List.replicate (13 - k) (Value.int .u8 0)) ++ (tls h k).map fun c => Value.int .u8 (c.toNat : Int)
theorem b13_len (h k : Nat) (hk : k ≤ 13) : (b13 h k).length = 13 := by simp [b13, tls_len]; omega
theorem b13_next (h k : Nat) (hk : k < 13) : (b13 h k).set (12 - k) (.int .u8 ((lett (h / 32 ^ k % 32)).toNat : Int)) = b13 h (k + 1) := by
  unfold b13
  have e : 13 - k = 12 - k + 1 := by omega
  rw [e, List.replicate_succ', List.append_assoc, List.set_append_right _ _ (by simp), show 13 - (k + 1) = 12 - k by omega]
  simp [tls]
/-- block b holds the thirteen bytes -/
structure B13 (W : World) (b : Nat) (xs : List Value) : Prop where
  lt : b < W.heap.size
  len : xs.length = 13
  cell : ∀ j v, xs[j]? = some v → W.cell? ⟨b, j, none⟩ = some v
  fz : ∀ j, W.frozen? ⟨b, j, none⟩ = false
theorem B13.set {W : World} {b : Nat} {xs : List Value} (h : B13 W b xs) (j : Nat) (u : Value) : B13 (W.setCell ⟨b, j, none⟩ u) b (xs.set j u) := by
  refine ⟨by simpa [World.setCell] using h.lt, by simpa using h.len, fun i v hi => ?_, fun i => by rw [World.frozen?_setCell]; exact h.fz i⟩
  rw [List.getElem?_set] at hi
  by_cases e : j = i
  · subst e
    rw [if_pos rfl] at hi
    split at hi
    · rename_i hl
      cases hi
      exact World.cell?_setCell_same _ _ _ (h.cell j xs[j] (List.getElem?_eq_getElem hl))
    · cases hi
  · rw [if_neg e] at hi
    have hne : (⟨b, i, none⟩ : Addr) ≠ ⟨b, j, none⟩ := by intro hh; cases hh; exact e rfl
    rw [World.cell?_setCell_other _ _ _ _ (by first | exact hne | exact hne.symm)]
    exact h.cell i v hi
theorem let_all : ∀ n : Fin 32, letters.data.toList[n.1]? = some (lett n.1) := by decide +kernel
theorem lett_ix {n : Nat} (h : n < 32) : ∃ hn : n < letters.size, letters[n]'hn = lett n := by
  have hl : letters.size = 32 := by decide +kernel
  refine ⟨by omega, ?_⟩
  have := let_all ⟨n, h⟩
  rw [List.getElem?_eq_getElem (by rw [← Lib.size_eq]; omega)] at this
  exact Option.some.inj this
end Mx
end Go.Proofs.YtbhngjhfeejeiaaGreatDoor
