/-
  Walks of the reference: hex, letter, Keyword, Name.
-/
import Derived.Test.YtflhmoelenmomaaGreatDoorMRcP
import Derived.Test.YtflhmoelenmomaaGreatDoorMRpB
namespace Go.Proofs.YtflhmoelenmomaaGreatDoor
open Go.RowKit
namespace Rc

set_option maxHeartbeats 1000000 in
theorem rletter_any (c : UInt8) (w : World) : Calls Tryz.prog 90 #[.int .u8 (c.toNat : Int)] w fun e w' => e = .returned (.bool (letter c)) ∧ w' = w := by
  rw [letter_R]
  generalize c.toNat = x
  have cases : (97 ≤ x ∧ x ≤ 122) ∨ (48 ≤ x ∧ x ≤ 57) ∨ x = 95 ∨ x < 48 ∨ (58 ≤ x ∧ x ≤ 96 ∧ x ≠ 95) ∨ 123 ≤ x := by omega
  rcases cases with ⟨a, b⟩ | ⟨a, b⟩ | h | a | ⟨a, b, c⟩ | a
  · have hx := Lib.hid (show letR x = true by simp only [letR, Bool.or_eq_true, Bool.and_eq_true, decide_eq_true_eq]; omega)
    have t1 : decide ((97 : Int) ≤ x) = true := by simp; omega
    have t2 : decide ((x : Int) ≤ 122) = true := by simp; omega
    go_enter Tryz.func90, Tryz.ntmps90
    go_wp2
    go_ret
    exact ⟨Sx.ret_bool hx.out.symm, rfl⟩
  · have hx := Lib.hid (show letR x = true by simp only [letR, Bool.or_eq_true, Bool.and_eq_true, decide_eq_true_eq]; omega)
    have t1 : decide ((97 : Int) ≤ x) = false := by simp; omega
    have t3 : decide ((48 : Int) ≤ x) = true := by simp; omega
    have t4 : decide ((x : Int) ≤ 57) = true := by simp; omega
    go_enter Tryz.func90, Tryz.ntmps90
    go_wp2
    go_ret
    exact ⟨Sx.ret_bool hx.out.symm, rfl⟩
  · subst h
    go_enter Tryz.func90, Tryz.ntmps90
    go_wp2
    go_ret
    exact ⟨rfl, rfl⟩
  all_goals
    have hx := Lib.hid (show letR x = false by simp only [letR, Bool.or_eq_false_iff, Bool.and_eq_false_iff, decide_eq_false_iff_not]; omega)
    have e2 : ((x : Int) == 95) = false := by rw [beq_eq_false_iff_ne]; omega
  · have t1 : decide ((97 : Int) ≤ x) = false := by simp; omega
    have t3 : decide ((48 : Int) ≤ x) = false := by simp; omega
    go_enter Tryz.func90, Tryz.ntmps90
    go_wp2
    go_ret
    exact ⟨Sx.ret_bool hx.out.symm, rfl⟩
  · have t1 : decide ((97 : Int) ≤ x) = false := by simp; omega
    have t3 : decide ((48 : Int) ≤ x) = true := by simp; omega
    have t4 : decide ((x : Int) ≤ 57) = false := by simp; omega
    go_enter Tryz.func90, Tryz.ntmps90
    go_wp2
    go_ret
    exact ⟨Sx.ret_bool hx.out.symm, rfl⟩
  · have t1 : decide ((97 : Int) ≤ x) = true := by simp; omega
    have t2 : decide ((x : Int) ≤ 122) = false := by simp; omega
    have t3 : decide ((48 : Int) ≤ x) = true := by simp; omega
    have t4 : decide ((x : Int) ≤ 57) = false := by simp; omega
    go_enter Tryz.func90, Tryz.ntmps90
    go_wp2
    go_ret
    exact ⟨Sx.ret_bool hx.out.symm, rfl⟩
set_option maxHeartbeats 1000000 in
theorem rkey_any (s : ByteArray) (w : World) : Calls Tryz.prog 91 #[.string s] w fun e w' => e = .returned (.bool (keyW.contains s.data.toList)) ∧ Below w.heap.size w w' := by
  have hb := (Below.refl w.heap.size w).alloc (Nat.le_refl _) (.cells (keyW.map fun x => Value.string ⟨x.toArray⟩).toArray 9)
  obtain ⟨b, cap, he, hlt, hc⟩ := ss_lit w keyW
  obtain ⟨hb0, -⟩ : b = w.heap.size ∧ cap = keyW.length := by simpa [eq_comm] using he
  subst hb0
  have HC := Lib.hid hc
  have hb : Below w.heap.size w (w.alloc (.cells #[.string ⟨#[112, 97, 99, 107, 97, 103, 101]⟩, .string ⟨#[118, 101, 114, 115, 105, 111, 110]⟩, .string ⟨#[116, 111, 111, 108]⟩, .string ⟨#[98, 117, 105, 108, 100]⟩, .string ⟨#[114, 117, 110]⟩, .string ⟨#[108, 101, 116]⟩, .string ⟨#[105, 110]⟩, .string ⟨#[105, 102]⟩, .string ⟨#[116, 104, 101, 110]⟩, .string ⟨#[101, 108, 115, 101]⟩] 9)) := hb
  have HB := Lib.hid hb
  have HC := Lib.hid (show ∀ (i : Nat) (x : List UInt8), keyW[i]? = some x → (w.alloc (.cells #[.string ⟨#[112, 97, 99, 107, 97, 103, 101]⟩, .string ⟨#[118, 101, 114, 115, 105, 111, 110]⟩, .string ⟨#[116, 111, 111, 108]⟩, .string ⟨#[98, 117, 105, 108, 100]⟩, .string ⟨#[114, 117, 110]⟩, .string ⟨#[108, 101, 116]⟩, .string ⟨#[105, 110]⟩, .string ⟨#[105, 102]⟩, .string ⟨#[116, 104, 101, 110]⟩, .string ⟨#[101, 108, 115, 101]⟩] 9)).cell? ⟨w.heap.size, i, none⟩ = some (.string ⟨x.toArray⟩) from hc)
  clear hc he hlt hb
  go_enter Tryz.func91, Tryz.ntmps91
  go_wp2
  generalize (w.alloc (.cells #[.string ⟨#[112, 97, 99, 107, 97, 103, 101]⟩, .string ⟨#[118, 101, 114, 115, 105, 111, 110]⟩, .string ⟨#[116, 111, 111, 108]⟩, .string ⟨#[98, 117, 105, 108, 100]⟩, .string ⟨#[114, 117, 110]⟩, .string ⟨#[108, 101, 116]⟩, .string ⟨#[105, 110]⟩, .string ⟨#[105, 102]⟩, .string ⟨#[116, 104, 101, 110]⟩, .string ⟨#[101, 108, 115, 101]⟩] 9)) = w1 at *
  go_loopw [4, 7] (fun _ i wr => ∃ k : Nat, k ≤ 10 ∧ i = .int .i64 k ∧ (∀ (j : Nat) (y : List UInt8), j < k → keyW[j]? = some y → s.data.toList ≠ y) ∧ wr = w1) (fun _ i _ => 10 - (intOf i).toNat)
  case atStart => exact ⟨0, Nat.zero_le _, rfl, by omega, rfl⟩
  case round =>
    obtain ⟨k, hk, rfl, hn, rfl⟩ := hrel
    have HN := Lib.hid hn
    clear hn
    by_cases hk2 : k < 10
    · obtain ⟨x, hx⟩ : ∃ x, keyW[k]? = some x := ⟨keyW[k], List.getElem?_eq_getElem hk2⟩
      have hcell := HC.out k x hx
      have HX := Lib.hid hx
      obtain ⟨xb, hxb⟩ : ∃ xb : ByteArray, xb = ⟨x.toArray⟩ := ⟨_, rfl⟩
      rw [← hxb] at hcell
      clear hx
      by_cases he : s.data.toList = x
      · have hr := Lib.hid (show keyW.contains s.data.toList = true by rw [List.contains_iff_mem, he]; exact List.mem_of_getElem? HX.out)
        have i1 := Sx.seq_tt (show s = xb by rw [hxb]; exact ba_eq he)
        clear he hxb
        go_wp2_with fail
        go_ret
        exact ⟨Sx.ret_bool hr.out.symm, HB.out⟩
      · have i1 := Sx.seq_ff (show s ≠ xb by rw [hxb]; exact ba_ne he)
        clear hxb
        have HNN := Lib.hid (show ∀ (j : Nat) (y : List UInt8), j < k + 1 → keyW[j]? = some y → s.data.toList ≠ y from fun j y hj hy => by
          by_cases h : j < k
          · exact HN.out j y h hy
          · obtain rfl : j = k := by omega
            rw [HX.out] at hy
            rw [← Option.some.inj hy]
            exact he)
        clear he
        go_wp2_with fail
        go_roundw
        case rel => exact ⟨k + 1, by omega, by go_num, HNN.out, by trivial⟩
        case measure => simp [intOf]; omega
    · have hr := Lib.hid (show keyW.contains s.data.toList = false by
        cases hc : keyW.contains s.data.toList
        · rfl
        · rw [List.contains_iff_mem] at hc
          obtain ⟨j, hj⟩ := List.mem_iff_getElem?.1 hc
          exact absurd rfl (HN.out j _ (by have := (List.getElem?_eq_some_iff.1 hj).1; have : keyW.length = 10 := rfl; omega) hj))
      go_wp2_with fail
      go_ret
      exact ⟨Sx.ret_bool hr.out.symm, HB.out⟩
end Rc
end Go.Proofs.YtflhmoelenmomaaGreatDoor

/-
  Walk of the reference: Name.
-/
namespace Go.Proofs.YtflhmoelenmomaaGreatDoor
open Go.RowKit
namespace Rc

theorem all_pref {s : ByteArray} (h : ∀ (i : Nat) (hi : i < s.size), letter s[i] = true) : s.data.toList.all letter = true := by
  rw [all_get]
  intro i hi
  rw [← letter_R]
  exact h i hi
theorem all_not {s : ByteArray} {i : Nat} (hi : i < s.size) (h : letter s[i] = false) : s.data.toList.all letter = false := by
  cases hc : s.data.toList.all letter
  · rfl
  · rw [all_get] at hc
    have := hc i hi
    rw [← letter_R, h] at this
    cases this
set_option maxHeartbeats 2000000 in
theorem rname0_any (s : ByteArray) (w : World) (hs : s.size ≤ 10000) : Calls Tryz.prog 64 #[.string s] w fun e w' => e = .returned (.bool (nameL s.data.toList)) ∧ Below w.heap.size w w' := by
  have hz := Lib.hid (Lib.size_eq s)
  have hlet := rletter_any
  have hB := Below.refl w.heap.size w
  go_enter Tryz.func64, Tryz.ntmps64
  go_wp2_with fail
  go_loop [3] (fun i => ∃ k : Nat, k ≤ s.size ∧ i = .int .i64 k ∧ ∀ (i : Nat) (hi : i < s.size), i < k → letter s[i] = true) (fun i => s.size - (intOf i).toNat)
  case atStart => exact ⟨0, Nat.zero_le _, rfl, by omega⟩
  case round =>
    obtain ⟨k, hk, rfl, hn⟩ := hrel
    have HN := Lib.hid hn
    clear hn
    have hk1 : IntKind.i64.wrap ((k : Int) + 1) = (k : Int) + 1 := IntWalk.i64_in _ (by omega)
    by_cases hk2 : k < s.size
    · have k2 : decide ((k : Int) < s.size) = true := by simp; omega
      cases hl : letter s[k]
      · have hx := Lib.hid (nameL_no4 (all_not hk2 hl))
        have hlk := hlet s[k]
        rw [hl] at hlk
        clear hl hlet
        go_wp2_with (go_at_call 90; refine (hlk _).mono ?_; rintro e w' ⟨rfl, rfl⟩)
        go_ret
        exact ⟨Sx.ret_bool hx.out.symm, hB⟩
      · have hlk := hlet s[k]
        rw [hl] at hlk
        have HNN := Lib.hid (show ∀ (i : Nat) (hi : i < s.size), i < k + 1 → letter s[i] = true from fun i hi hik => by
          by_cases h : i < k
          · exact HN.out i hi h
          · obtain rfl : i = k := by omega
            exact hl)
        clear hl hlet
        go_wp2_with (go_at_call 90; refine (hlk _).mono ?_; rintro e w' ⟨rfl, rfl⟩)
        go_round
        case rel => exact ⟨k + 1, by omega, by go_num, HNN.out⟩
        case measure => simp [intOf]; omega
    · have k2 : decide ((k : Int) < s.size) = false := by simp; omega
      have hall := Lib.hid (all_pref (s := s) fun i hi => HN.out i hi (by omega))
      clear hlet
      by_cases h0 : s.size = 0
      · have hx := Lib.hid (nameL_no1 (l := s.data.toList) (List.eq_nil_of_length_eq_zero (by rw [← hz.out]; exact h0)))
        have j1 : decide ((1 : Int) ≤ s.size) = false := by simp; omega
        clear h0
        go_wp2_with fail
        go_ret
        exact ⟨Sx.ret_bool hx.out.symm, hB⟩
      have j1 : decide ((1 : Int) ≤ s.size) = true := by simp; omega
      have hpos : 0 < s.size := by omega
      have hhd := Lib.hid (head_get hpos)
      by_cases h32 : s.size ≤ 32
      rotate_left
      · have hx := Lib.hid (nameL_no2 (l := s.data.toList) (by rw [← hz.out]; omega))
        have t1 : decide ((s.size : Int) ≤ 32) = false := by simp; omega
        clear h0
        go_wp2_with fail
        go_ret
        exact ⟨Sx.ret_bool hx.out.symm, hB⟩
      have t1 : decide ((s.size : Int) ≤ 32) = true := by simp; omega
      by_cases ha : 97 ≤ s[0].toNat
      rotate_left
      · have hx := Lib.hid (nameL_no3 hhd.out (by omega))
        have t2 : decide ((97 : Int) ≤ (s[0].toNat : Int)) = false := by simp; omega
        clear h0 ha
        go_wp2_with fail
        go_ret
        exact ⟨Sx.ret_bool hx.out.symm, hB⟩
      have t2 : decide ((97 : Int) ≤ (s[0].toNat : Int)) = true := by simp; omega
      by_cases hb : s[0].toNat ≤ 122
      rotate_left
      · have hx := Lib.hid (nameL_no3 hhd.out (by omega))
        have t3 : decide ((s[0].toNat : Int) ≤ 122) = false := by simp; omega
        clear h0 ha hb
        go_wp2_with fail
        go_ret
        exact ⟨Sx.ret_bool hx.out.symm, hB⟩
      have t3 : decide ((s[0].toNat : Int) ≤ 122) = true := by simp; omega
      have hx := Lib.hid (nameL_yes (by rw [← hz.out]; omega) (by rw [← hz.out]; omega) hhd.out ha hb hall.out)
      have hkey := rkey_any s w
      generalize keyW.contains s.data.toList = q at *
      clear h0 ha hb
      go_wp2_with fail
      refine hkey.mono ?_
      rintro e w1 ⟨rfl, hb1⟩
      go_wp2_with fail
      go_ret
      exact ⟨Sx.ret_bool hx.out.symm, hb1⟩
end Rc
end Go.Proofs.YtflhmoelenmomaaGreatDoor

/-
  Whether an expression can be: the reference's Parts, Good.
-/
namespace Go.Proofs.YtflhmoelenmomaaGreatDoor
open Go.RowKit
namespace Rc
set_option maxHeartbeats 2000000 in
theorem rname1_any (s : ByteArray) (w : World) (hs : s.size ≤ 20000) : Calls Tryz.prog 64 #[.string s] w fun e w' => e = .returned (.bool (nameL s.data.toList)) ∧ Below w.heap.size w w' := by
  have hz := Lib.hid (Lib.size_eq s)
  have hlet := rletter_any
  have hB := Below.refl w.heap.size w
  go_enter Tryz.func64, Tryz.ntmps64
  go_wp2_with fail
  go_loop [3] (fun i => ∃ k : Nat, k ≤ s.size ∧ i = .int .i64 k ∧ ∀ (i : Nat) (hi : i < s.size), i < k → letter s[i] = true) (fun i => s.size - (intOf i).toNat)
  case atStart => exact ⟨0, Nat.zero_le _, rfl, by omega⟩
  case round =>
    obtain ⟨k, hk, rfl, hn⟩ := hrel
    have HN := Lib.hid hn
    clear hn
    have hk1 : IntKind.i64.wrap ((k : Int) + 1) = (k : Int) + 1 := IntWalk.i64_in _ (by omega)
    by_cases hk2 : k < s.size
    · have k2 : decide ((k : Int) < s.size) = true := by simp; omega
      cases hl : letter s[k]
      · have hx := Lib.hid (nameL_no4 (all_not hk2 hl))
        have hlk := hlet s[k]
        rw [hl] at hlk
        clear hl hlet
        go_wp2_with (go_at_call 90; refine (hlk _).mono ?_; rintro e w' ⟨rfl, rfl⟩)
        go_ret
        exact ⟨Sx.ret_bool hx.out.symm, hB⟩
      · have hlk := hlet s[k]
        rw [hl] at hlk
        have HNN := Lib.hid (show ∀ (i : Nat) (hi : i < s.size), i < k + 1 → letter s[i] = true from fun i hi hik => by
          by_cases h : i < k
          · exact HN.out i hi h
          · obtain rfl : i = k := by omega
            exact hl)
        clear hl hlet
        go_wp2_with (go_at_call 90; refine (hlk _).mono ?_; rintro e w' ⟨rfl, rfl⟩)
        go_round
        case rel => exact ⟨k + 1, by omega, by go_num, HNN.out⟩
        case measure => simp [intOf]; omega
    · have k2 : decide ((k : Int) < s.size) = false := by simp; omega
      have hall := Lib.hid (all_pref (s := s) fun i hi => HN.out i hi (by omega))
      clear hlet
      by_cases h0 : s.size = 0
      · have hx := Lib.hid (nameL_no1 (l := s.data.toList) (List.eq_nil_of_length_eq_zero (by rw [← hz.out]; exact h0)))
        have j1 : decide ((1 : Int) ≤ s.size) = false := by simp; omega
        clear h0
        go_wp2_with fail
        go_ret
        exact ⟨Sx.ret_bool hx.out.symm, hB⟩
      have j1 : decide ((1 : Int) ≤ s.size) = true := by simp; omega
      have hpos : 0 < s.size := by omega
      have hhd := Lib.hid (head_get hpos)
      by_cases h32 : s.size ≤ 32
      rotate_left
      · have hx := Lib.hid (nameL_no2 (l := s.data.toList) (by rw [← hz.out]; omega))
        have t1 : decide ((s.size : Int) ≤ 32) = false := by simp; omega
        clear h0
        go_wp2_with fail
        go_ret
        exact ⟨Sx.ret_bool hx.out.symm, hB⟩
      have t1 : decide ((s.size : Int) ≤ 32) = true := by simp; omega
      by_cases ha : 97 ≤ s[0].toNat
      rotate_left
      · have hx := Lib.hid (nameL_no3 hhd.out (by omega))
        have t2 : decide ((97 : Int) ≤ (s[0].toNat : Int)) = false := by simp; omega
        clear h0 ha
        go_wp2_with fail
        go_ret
        exact ⟨Sx.ret_bool hx.out.symm, hB⟩
      have t2 : decide ((97 : Int) ≤ (s[0].toNat : Int)) = true := by simp; omega
      by_cases hb : s[0].toNat ≤ 122
      rotate_left
      · have hx := Lib.hid (nameL_no3 hhd.out (by omega))
        have t3 : decide ((s[0].toNat : Int) ≤ 122) = false := by simp; omega
        clear h0 ha hb
        go_wp2_with fail
        go_ret
        exact ⟨Sx.ret_bool hx.out.symm, hB⟩
      have t3 : decide ((s[0].toNat : Int) ≤ 122) = true := by simp; omega
      have hx := Lib.hid (nameL_yes (by rw [← hz.out]; omega) (by rw [← hz.out]; omega) hhd.out ha hb hall.out)
      have hkey := rkey_any s w
      generalize keyW.contains s.data.toList = q at *
      clear h0 ha hb
      go_wp2_with fail
      refine hkey.mono ?_
      rintro e w1 ⟨rfl, hb1⟩
      go_wp2_with fail
      go_ret
      exact ⟨Sx.ret_bool hx.out.symm, hb1⟩
set_option maxHeartbeats 4000000 in
set_option maxRecDepth 100000 in
theorem parts_tt : ∀ (h : Nat) (x : E), SizeOf.sizeOf x < h → Sml x → (∀ y, y = x → sizeW y ≤ 20000) → ∀ (W : World) (S : Nat → Prop) (v : Value) (left : Int) (d : Nat), 0 ≤ left → left ≤ 4096 → d ≤ 64 → (∀ b, S b → b < W.heap.size) → RepX W S x v →
    Calls Tryz.prog 42 #[v, .int .i64 d, .int .i64 left] W fun e W' => e = .returned (.int .i64 (count x d left)) ∧ Below W.heap.size W W' := by
  intro h
  induction h with
  | zero => intro x hx; omega
  | succ h ih =>
    intro x hx hsm hwt W S v left d hl1 hl2 hd hS hr
    cases hr with
    | mk kd s ks sl cap x1 y1 z1 hcap hc hrk =>
      cases hsm with
      | mk _ _ _ hk1 hk2 hss hlen hfk =>
        have hX : Below W.heap.size W (W.alloc (.cells #[.int .i64 kd, .string s, .slice sl ks.length cap] 24)) := (Below.refl _ _).alloc (Nat.le_refl _) _
        have p0 : (W.alloc (.cells #[.int .i64 kd, .string s, .slice sl ks.length cap] 24)).cell? ⟨W.heap.size, 0, none⟩ = some (.int .i64 kd) := by go_simp
        have p1 : (W.alloc (.cells #[.int .i64 kd, .string s, .slice sl ks.length cap] 24)).cell? ⟨W.heap.size, 1, none⟩ = some (.string s) := by go_simp
        have p2 : (W.alloc (.cells #[.int .i64 kd, .string s, .slice sl ks.length cap] 24)).cell? ⟨W.heap.size, 2, none⟩ = some (.slice sl ks.length cap) := by go_simp
        have w1 : IntKind.i64.wrap (left - 1) = left - 1 := IntWalk.i64_in _ (by omega)
        have w3 : IntKind.i64.wrap ((d : Int) + 1) = ((d + 1 : Nat) : Int) := by rw [IntWalk.i64_in _ (by omega)]; omega
        have hwk : ∀ u ∈ ks, sizeW u ≤ 20000 := fun u hu => by have h1 := hwt _ rfl; have h2 := sizeW_kid (k := kd) (s := s) hu; omega
        have hs2 : s.size ≤ 20000 := by have h1 := hwt _ rfl; rw [sizeW] at h1; omega
        have HN1 := Lib.hid (show Int.ofNat ks.length = (ks.length : Int) from rfl)
        have HC := Lib.hid hc
        have HR := Lib.hid hrk
        have HS := Lib.hid hS
        have HF := Lib.hid hfk
        have HX := Lib.hid hx
        have HL := Lib.hid (And.intro hl1 hl2)
        have HW := Lib.hid hwk
        clear hc hrk hS hfk hx hk1 hk2 hl1 hl2 hwt hwk HN1 hss
        by_cases e1 : kd = 1
        · subst e1
          by_cases hn : ks.length = 0
          · have hnn := hn
            clear hnn
            have HNN := Lib.hid hn
            simp only [hn] at p2 hX p0 p1 ⊢
            by_cases hdp : 64 ≤ d
            · have k1 : decide ((64 : Int) ≤ d) = true := by simp; omega
              have HE := Lib.hid (show count (.mk 1 s ks) d left = -1 by rw [count, if_pos (.inr hdp)])
              clear hdp hn
              go_enter Tryz.func42, Tryz.ntmps42
              go_wp2_with fail
              go_ret
              rw [HE.out]
              exact ⟨rfl, hX⟩
            · have k1 : decide ((64 : Int) ≤ d) = false := by simp; omega
              have HE := Lib.hid (show count (.mk 1 s ks) d left = counts (ks.drop 0) (d + 1) (left - 1) by rw [count, if_neg (by rw [not_or]; exact ⟨by unfold partOk; simp [hn], hdp⟩)]; rfl)
              clear hn
              have hdl : d + 1 ≤ 64 := by omega
              clear hdp
              go_enter Tryz.func42, Tryz.ntmps42
              go_wp2_with fail
              go_loopw [2, 9] (fun l i wr => ∃ (k : Nat) (m : Int), k ≤ 0 ∧ i = .int .i64 k ∧ l = .int .i64 m ∧ counts (ks.drop k) (d + 1) m = count (.mk 1 s ks) d left ∧ -1 ≤ m ∧ m ≤ 4096 ∧ Below W.heap.size W wr ∧ wr.cell? ⟨W.heap.size, 2, none⟩ = some (.slice sl 0 cap) ∧ W.heap.size + 1 ≤ wr.heap.size) (fun _ i _ => 0 - (intOf i).toNat)
              case atStart => exact ⟨0, _, Nat.zero_le _, rfl, rfl, HE.out.symm, by have := HL.out; omega, by have := HL.out; omega, hX, p2, by first | (rw [World.size_alloc]; exact Nat.le_refl _) | exact hZ⟩
              case round =>
                obtain ⟨k, m, hk, rfl, rfl, hm, hm1, hm2, hbW, c2, hsz⟩ := hrel
                clear p0 p1 p2 hX
                have HM := Lib.hid hm
                clear hm
                by_cases hlt : k < 0
                · exact absurd hlt (Nat.not_lt_zero _)
                · obtain rfl : k = 0 := by omega
                  go_wp2_with fail
                  go_ret
                  rw [← HM.out, List.drop_eq_nil_of_le (Nat.le_of_eq HNN.out), counts]
                  exact ⟨rfl, hbW⟩
          · skip
            have n1 : ((ks.length : Int) == 0) = false := beq_eq_false_iff_ne.2 (by omega)
            have n2 : decide ((0 : Int) < (ks.length : Int)) = true := decide_eq_true (by omega)
            have HE := Lib.hid (show count (.mk 1 s ks) d left = -1 by rw [count, if_pos (.inl (by unfold partOk; simp [hn]))])
            have hnz := hn
            clear hn
            clear n1
            clear hcap hlen
            generalize ks.length = n at p0 p1 p2 hX n2 hnz ⊢
            by_cases hdp : 64 ≤ d
            · have k1 : decide ((64 : Int) ≤ d) = true := by simp; omega
              clear hdp
              go_enter Tryz.func42, Tryz.ntmps42
              go_wp2_with fail
              go_ret
              rw [HE.out]
              exact ⟨rfl, hX⟩
            · have k1 : decide ((64 : Int) ≤ d) = false := by simp; omega
              clear hdp
              go_enter Tryz.func42, Tryz.ntmps42
              go_wp2_with fail
              go_ret
              rw [HE.out]
              exact ⟨rfl, hX⟩
        by_cases e2 : kd = 2
        · subst e2
          by_cases hn : ks.length = 0
          · skip
            have HNN := Lib.hid hn
            simp only [hn] at p2 hX p0 p1 ⊢
            have h2 := fun w => rname1_any s w hs2
            by_cases hq : nameL s.data.toList = true
            · rw [hq] at h2
              by_cases hdp : 64 ≤ d
              · have k1 : decide ((64 : Int) ≤ d) = true := by simp; omega
                have HE := Lib.hid (show count (.mk 2 s ks) d left = -1 by rw [count, if_pos (.inr hdp)])
                clear hdp hq hn
                go_enter Tryz.func42, Tryz.ntmps42
                go_wp2_with fail
                go_ret
                rw [HE.out]
                exact ⟨rfl, hX⟩
              · have k1 : decide ((64 : Int) ≤ d) = false := by simp; omega
                have HE := Lib.hid (show count (.mk 2 s ks) d left = counts (ks.drop 0) (d + 1) (left - 1) by rw [count, if_neg (by rw [not_or]; exact ⟨by unfold partOk; simp [hn, hq], hdp⟩)]; rfl)
                clear hq hn
                have hdl : d + 1 ≤ 64 := by omega
                clear hdp
                go_enter Tryz.func42, Tryz.ntmps42
                go_wp2_with fail
                refine (h2 _).mono ?_
                rintro e w2 ⟨rfl, hB⟩
                replace p0 := (hB.cell (p := ⟨W.heap.size, 0, none⟩) (by simp)).trans p0
                replace p1 := (hB.cell (p := ⟨W.heap.size, 1, none⟩) (by simp)).trans p1
                replace p2 := (hB.cell (p := ⟨W.heap.size, 2, none⟩) (by simp)).trans p2
                replace hX := hX.trans (hB.mono (by simp))
                have hZ : W.heap.size + 1 ≤ w2.heap.size := by have := hB.size; simpa using this
                clear hB h2
                go_wp2_with fail
                go_loopw [2, 9] (fun l i wr => ∃ (k : Nat) (m : Int), k ≤ 0 ∧ i = .int .i64 k ∧ l = .int .i64 m ∧ counts (ks.drop k) (d + 1) m = count (.mk 2 s ks) d left ∧ -1 ≤ m ∧ m ≤ 4096 ∧ Below W.heap.size W wr ∧ wr.cell? ⟨W.heap.size, 2, none⟩ = some (.slice sl 0 cap) ∧ W.heap.size + 1 ≤ wr.heap.size) (fun _ i _ => 0 - (intOf i).toNat)
                case atStart => exact ⟨0, _, Nat.zero_le _, rfl, rfl, HE.out.symm, by have := HL.out; omega, by have := HL.out; omega, hX, p2, by first | (rw [World.size_alloc]; exact Nat.le_refl _) | exact hZ⟩
                case round =>
                  obtain ⟨k, m, hk, rfl, rfl, hm, hm1, hm2, hbW, c2, hsz⟩ := hrel
                  clear p0 p1 p2 hX
                  have HM := Lib.hid hm
                  clear hm
                  by_cases hlt : k < 0
                  · exact absurd hlt (Nat.not_lt_zero _)
                  · obtain rfl : k = 0 := by omega
                    go_wp2_with fail
                    go_ret
                    rw [← HM.out, List.drop_eq_nil_of_le (Nat.le_of_eq HNN.out), counts]
                    exact ⟨rfl, hbW⟩
            · rw [Bool.not_eq_true] at hq
              rw [hq] at h2
              have HE := Lib.hid (show count (.mk 2 s ks) d left = -1 by rw [count, if_pos (.inl (by unfold partOk; simp [hq]))])
              clear hq hn
              by_cases hdp : 64 ≤ d
              · have k1 : decide ((64 : Int) ≤ d) = true := by simp; omega
                clear hdp
                go_enter Tryz.func42, Tryz.ntmps42
                go_wp2_with fail
                go_ret
                rw [HE.out]
                exact ⟨rfl, hX⟩
              · have k1 : decide ((64 : Int) ≤ d) = false := by simp; omega
                clear hdp
                go_enter Tryz.func42, Tryz.ntmps42
                go_wp2_with fail
                refine (h2 _).mono ?_
                rintro e w2 ⟨rfl, hB⟩
                replace p0 := (hB.cell (p := ⟨W.heap.size, 0, none⟩) (by simp)).trans p0
                replace p1 := (hB.cell (p := ⟨W.heap.size, 1, none⟩) (by simp)).trans p1
                replace p2 := (hB.cell (p := ⟨W.heap.size, 2, none⟩) (by simp)).trans p2
                replace hX := hX.trans (hB.mono (by simp))
                clear hB h2
                go_wp2_with fail
                go_ret
                rw [HE.out]
                exact ⟨rfl, hX⟩
          · skip
            have n1 : ((ks.length : Int) == 0) = false := beq_eq_false_iff_ne.2 (by omega)
            have n2 : decide ((0 : Int) < (ks.length : Int)) = true := decide_eq_true (by omega)
            have HE := Lib.hid (show count (.mk 2 s ks) d left = -1 by rw [count, if_pos (.inl (by unfold partOk; simp [hn]))])
            have hnz := hn
            clear hn
            clear n1
            clear hcap hlen
            generalize ks.length = n at p0 p1 p2 hX n2 hnz ⊢
            by_cases hdp : 64 ≤ d
            · have k1 : decide ((64 : Int) ≤ d) = true := by simp; omega
              clear hdp
              go_enter Tryz.func42, Tryz.ntmps42
              go_wp2_with fail
              go_ret
              rw [HE.out]
              exact ⟨rfl, hX⟩
            · have k1 : decide ((64 : Int) ≤ d) = false := by simp; omega
              clear hdp
              have h2 := fun w => rname1_any s w hs2
              generalize nameL s.data.toList = q at h2
              cases q
              · skip
                go_enter Tryz.func42, Tryz.ntmps42
                go_wp2_with fail
                refine (h2 _).mono ?_
                rintro e w2 ⟨rfl, hB⟩
                replace p0 := (hB.cell (p := ⟨W.heap.size, 0, none⟩) (by simp)).trans p0
                replace p1 := (hB.cell (p := ⟨W.heap.size, 1, none⟩) (by simp)).trans p1
                replace p2 := (hB.cell (p := ⟨W.heap.size, 2, none⟩) (by simp)).trans p2
                replace hX := hX.trans (hB.mono (by simp))
                clear hB h2
                go_wp2_with fail
                go_ret
                rw [HE.out]
                exact ⟨rfl, hX⟩
              · skip
                go_enter Tryz.func42, Tryz.ntmps42
                go_wp2_with fail
                refine (h2 _).mono ?_
                rintro e w2 ⟨rfl, hB⟩
                replace p0 := (hB.cell (p := ⟨W.heap.size, 0, none⟩) (by simp)).trans p0
                replace p1 := (hB.cell (p := ⟨W.heap.size, 1, none⟩) (by simp)).trans p1
                replace p2 := (hB.cell (p := ⟨W.heap.size, 2, none⟩) (by simp)).trans p2
                replace hX := hX.trans (hB.mono (by simp))
                clear hB h2
                go_wp2_with fail
                go_ret
                rw [HE.out]
                exact ⟨rfl, hX⟩
        by_cases e3 : kd = 3
        · subst e3
          by_cases hn : 2 ≤ ks.length
          · skip
            have n2 : decide ((ks.length : Int) < 2) = false := decide_eq_false (by omega)
            by_cases he : s = ⟨#[]⟩
            · have h1 := Sx.emp_tt he
              have he2 : s.data.toList = [] := by rw [he]
              by_cases hdp : 64 ≤ d
              · have k1 : decide ((64 : Int) ≤ d) = true := by simp; omega
                have HE := Lib.hid (show count (.mk 3 s ks) d left = -1 by rw [count, if_pos (.inr hdp)])
                clear hdp hn he he2
                go_enter Tryz.func42, Tryz.ntmps42
                go_wp2_with fail
                go_ret
                rw [HE.out]
                exact ⟨rfl, hX⟩
              · have k1 : decide ((64 : Int) ≤ d) = false := by simp; omega
                have HE := Lib.hid (show count (.mk 3 s ks) d left = counts (ks.drop 0) (d + 1) (left - 1) by rw [count, if_neg (by rw [not_or]; exact ⟨by unfold partOk; simp [hn, he2], hdp⟩)]; rfl)
                clear hn he he2
                have hdl : d + 1 ≤ 64 := by omega
                clear hdp
                go_enter Tryz.func42, Tryz.ntmps42
                go_wp2_with fail
                go_loopw [2, 9] (fun l i wr => ∃ (k : Nat) (m : Int), k ≤ ks.length ∧ i = .int .i64 k ∧ l = .int .i64 m ∧ counts (ks.drop k) (d + 1) m = count (.mk 3 s ks) d left ∧ -1 ≤ m ∧ m ≤ 4096 ∧ Below W.heap.size W wr ∧ wr.cell? ⟨W.heap.size, 2, none⟩ = some (.slice sl ks.length cap) ∧ W.heap.size + 1 ≤ wr.heap.size) (fun _ i _ => ks.length - (intOf i).toNat)
                case atStart => exact ⟨0, _, Nat.zero_le _, rfl, rfl, HE.out.symm, by have := HL.out; omega, by have := HL.out; omega, hX, p2, by first | (rw [World.size_alloc]; exact Nat.le_refl _) | exact hZ⟩
                case round =>
                  obtain ⟨k, m, hk, rfl, rfl, hm, hm1, hm2, hbW, c2, hsz⟩ := hrel
                  clear p0 p1 p2 hX
                  have HM := Lib.hid hm
                  clear hm
                  by_cases hlt : k < ks.length
                  · by_cases hneg : m < 0
                    · have k2 : decide (0 ≤ m) = false := by simp; omega
                      have HN := Lib.hid hneg
                      clear hneg hm1 hm2
                      go_wp2_with fail
                      go_ret
                      rw [← HM.out, counts_neg HN.out]
                      exact ⟨rfl, hbW⟩
                    · have k2 : decide (0 ≤ m) = true := by simp; omega
                      obtain ⟨u, hu⟩ : ∃ u, ks[k]? = some u := ⟨ks[k]'(hlt), List.getElem?_eq_getElem (hlt)⟩
                      obtain ⟨b, a, rfl, hbl, h1, h2, h3⟩ := HC.out k u hu
                      have hsame : ∀ b o, b < W.heap.size → wr.cell? ⟨b, o, none⟩ = W.cell? ⟨b, o, none⟩ := fun b o hb => hbW.cell (p := ⟨b, o, none⟩) (by show b < _; omega)
                      have g1 := (hsame b _ (HS.out b hbl)).trans h1
                      have g2 := (hsame b _ (HS.out b hbl)).trans h2
                      have g3 := (hsame b _ (HS.out b hbl)).trans h3
                      have hkw : IntKind.i64.wrap ((k : Int) + 1) = (k : Int) + 1 := IntWalk.i64_in _ (by omega)
                      have hu2 := List.mem_of_getElem? hu
                      have hk0 := ih u (by have := kid_size (k := 3) (s := s) hu; have := HX.out; omega) (HF.out u hu2) (fun y hy => by rw [hy]; exact HW.out u hu2) wr S _ m (d + 1) (by omega) hm2 (by omega) (fun b hb => Nat.lt_of_lt_of_le (HS.out b hb) hbW.size) ((HR.out k u hu).same fun b o hb => hsame b o (HS.out b hb))
                      have HN := Lib.hid (counts_at (d := d + 1) hu hneg)
                      have HG := Lib.hid (count_le u (d + 1) m (by omega))
                      have HM2 := Lib.hid hm2
                      clear hsame h1 h2 h3 hu hu2 hneg hm1 hm2
                      go_wp2_with fail
                      refine hk0.mono ?_
                      rintro e w2 ⟨rfl, hB⟩
                      replace c2 := (hB.cell (p := ⟨W.heap.size, 2, none⟩) (by show W.heap.size < _; omega)).trans c2
                      go_wp2_with fail
                      go_roundw
                      case rel => exact ⟨k + 1, _, by omega, by go_num, rfl, HN.out.symm.trans HM.out, HG.out.1, by have := HG.out.2.1; have := HM2.out; omega, hbW.trans (hB.mono hbW.size), c2, by have := hB.size; omega⟩
                      case measure => simp [intOf]; omega
                  · obtain rfl : k = ks.length := by omega
                    go_wp2_with fail
                    go_ret
                    rw [← HM.out, List.drop_eq_nil_of_le (Nat.le_refl _), counts]
                    exact ⟨rfl, hbW⟩
            · have h1 := Sx.emp_ff he
              have he2 : s.data.toList.isEmpty = false := by rw [← ByteArray.toList_eq]; exact h1
              have HE := Lib.hid (show count (.mk 3 s ks) d left = -1 by rw [count, if_pos (.inl (by unfold partOk; simp [he2]))])
              clear he he2 hn
              by_cases hdp : 64 ≤ d
              · have k1 : decide ((64 : Int) ≤ d) = true := by simp; omega
                clear hdp
                go_enter Tryz.func42, Tryz.ntmps42
                go_wp2_with fail
                go_ret
                rw [HE.out]
                exact ⟨rfl, hX⟩
              · have k1 : decide ((64 : Int) ≤ d) = false := by simp; omega
                clear hdp
                go_enter Tryz.func42, Tryz.ntmps42
                go_wp2_with fail
                go_ret
                rw [HE.out]
                exact ⟨rfl, hX⟩
          · skip
            have n2 : decide ((ks.length : Int) < 2) = true := decide_eq_true (by omega)
            have HE := Lib.hid (show count (.mk 3 s ks) d left = -1 by rw [count, if_pos (.inl (by unfold partOk; simp [hn]))])
            clear hn
            clear hcap hlen
            generalize ks.length = n at p0 p1 p2 hX n2 ⊢
            by_cases hdp : 64 ≤ d
            · have k1 : decide ((64 : Int) ≤ d) = true := by simp; omega
              clear hdp
              go_enter Tryz.func42, Tryz.ntmps42
              go_wp2_with fail
              go_ret
              rw [HE.out]
              exact ⟨rfl, hX⟩
            · have k1 : decide ((64 : Int) ≤ d) = false := by simp; omega
              clear hdp
              by_cases he : s = ⟨#[]⟩
              · have h1 := Sx.emp_tt he
                clear he
                go_enter Tryz.func42, Tryz.ntmps42
                go_wp2_with fail
                go_ret
                rw [HE.out]
                exact ⟨rfl, hX⟩
              · have h1 := Sx.emp_ff he
                clear he
                go_enter Tryz.func42, Tryz.ntmps42
                go_wp2_with fail
                go_ret
                rw [HE.out]
                exact ⟨rfl, hX⟩
        by_cases e4 : kd = 4
        · subst e4
          by_cases hn : ks.length = 4
          · skip
            have HNN := Lib.hid hn
            simp only [hn] at p2 hX p0 p1 ⊢
            by_cases he : s = ⟨#[]⟩
            · have h1 := Sx.emp_tt he
              have he2 : s.data.toList = [] := by rw [he]
              by_cases hdp : 64 ≤ d
              · have k1 : decide ((64 : Int) ≤ d) = true := by simp; omega
                have HE := Lib.hid (show count (.mk 4 s ks) d left = -1 by rw [count, if_pos (.inr hdp)])
                clear hdp hn he he2
                go_enter Tryz.func42, Tryz.ntmps42
                go_wp2_with fail
                go_ret
                rw [HE.out]
                exact ⟨rfl, hX⟩
              · have k1 : decide ((64 : Int) ≤ d) = false := by simp; omega
                have HE := Lib.hid (show count (.mk 4 s ks) d left = counts (ks.drop 0) (d + 1) (left - 1) by rw [count, if_neg (by rw [not_or]; exact ⟨by unfold partOk; simp [hn, he2], hdp⟩)]; rfl)
                clear hn he he2
                have hdl : d + 1 ≤ 64 := by omega
                clear hdp
                go_enter Tryz.func42, Tryz.ntmps42
                go_wp2_with fail
                go_loopw [2, 9] (fun l i wr => ∃ (k : Nat) (m : Int), k ≤ 4 ∧ i = .int .i64 k ∧ l = .int .i64 m ∧ counts (ks.drop k) (d + 1) m = count (.mk 4 s ks) d left ∧ -1 ≤ m ∧ m ≤ 4096 ∧ Below W.heap.size W wr ∧ wr.cell? ⟨W.heap.size, 2, none⟩ = some (.slice sl 4 cap) ∧ W.heap.size + 1 ≤ wr.heap.size) (fun _ i _ => 4 - (intOf i).toNat)
                case atStart => exact ⟨0, _, Nat.zero_le _, rfl, rfl, HE.out.symm, by have := HL.out; omega, by have := HL.out; omega, hX, p2, by first | (rw [World.size_alloc]; exact Nat.le_refl _) | exact hZ⟩
                case round =>
                  obtain ⟨k, m, hk, rfl, rfl, hm, hm1, hm2, hbW, c2, hsz⟩ := hrel
                  clear p0 p1 p2 hX
                  have HM := Lib.hid hm
                  clear hm
                  by_cases hlt : k < 4
                  · by_cases hneg : m < 0
                    · have k2 : decide (0 ≤ m) = false := by simp; omega
                      have HN := Lib.hid hneg
                      clear hneg hm1 hm2
                      go_wp2_with fail
                      go_ret
                      rw [← HM.out, counts_neg HN.out]
                      exact ⟨rfl, hbW⟩
                    · have k2 : decide (0 ≤ m) = true := by simp; omega
                      obtain ⟨u, hu⟩ : ∃ u, ks[k]? = some u := ⟨ks[k]'(by rw [HNN.out]; exact hlt), List.getElem?_eq_getElem (by rw [HNN.out]; exact hlt)⟩
                      obtain ⟨b, a, rfl, hbl, h1, h2, h3⟩ := HC.out k u hu
                      have hsame : ∀ b o, b < W.heap.size → wr.cell? ⟨b, o, none⟩ = W.cell? ⟨b, o, none⟩ := fun b o hb => hbW.cell (p := ⟨b, o, none⟩) (by show b < _; omega)
                      have g1 := (hsame b _ (HS.out b hbl)).trans h1
                      have g2 := (hsame b _ (HS.out b hbl)).trans h2
                      have g3 := (hsame b _ (HS.out b hbl)).trans h3
                      have hkw : IntKind.i64.wrap ((k : Int) + 1) = (k : Int) + 1 := IntWalk.i64_in _ (by omega)
                      have hu2 := List.mem_of_getElem? hu
                      have hk0 := ih u (by have := kid_size (k := 4) (s := s) hu; have := HX.out; omega) (HF.out u hu2) (fun y hy => by rw [hy]; exact HW.out u hu2) wr S _ m (d + 1) (by omega) hm2 (by omega) (fun b hb => Nat.lt_of_lt_of_le (HS.out b hb) hbW.size) ((HR.out k u hu).same fun b o hb => hsame b o (HS.out b hb))
                      have HN := Lib.hid (counts_at (d := d + 1) hu hneg)
                      have HG := Lib.hid (count_le u (d + 1) m (by omega))
                      have HM2 := Lib.hid hm2
                      clear hsame h1 h2 h3 hu hu2 hneg hm1 hm2
                      go_wp2_with fail
                      refine hk0.mono ?_
                      rintro e w2 ⟨rfl, hB⟩
                      replace c2 := (hB.cell (p := ⟨W.heap.size, 2, none⟩) (by show W.heap.size < _; omega)).trans c2
                      go_wp2_with fail
                      go_roundw
                      case rel => exact ⟨k + 1, _, by omega, by go_num, rfl, HN.out.symm.trans HM.out, HG.out.1, by have := HG.out.2.1; have := HM2.out; omega, hbW.trans (hB.mono hbW.size), c2, by have := hB.size; omega⟩
                      case measure => simp [intOf]; omega
                  · obtain rfl : k = 4 := by omega
                    go_wp2_with fail
                    go_ret
                    rw [← HM.out, List.drop_eq_nil_of_le (Nat.le_of_eq HNN.out), counts]
                    exact ⟨rfl, hbW⟩
            · have h1 := Sx.emp_ff he
              have he2 : s.data.toList.isEmpty = false := by rw [← ByteArray.toList_eq]; exact h1
              have HE := Lib.hid (show count (.mk 4 s ks) d left = -1 by rw [count, if_pos (.inl (by unfold partOk; simp [he2]))])
              clear he he2 hn
              by_cases hdp : 64 ≤ d
              · have k1 : decide ((64 : Int) ≤ d) = true := by simp; omega
                clear hdp
                go_enter Tryz.func42, Tryz.ntmps42
                go_wp2_with fail
                go_ret
                rw [HE.out]
                exact ⟨rfl, hX⟩
              · have k1 : decide ((64 : Int) ≤ d) = false := by simp; omega
                clear hdp
                go_enter Tryz.func42, Tryz.ntmps42
                go_wp2_with fail
                go_ret
                rw [HE.out]
                exact ⟨rfl, hX⟩
          · skip
            have n1 : ((ks.length : Int) == 4) = false := beq_eq_false_iff_ne.2 (by omega)
            have HE := Lib.hid (show count (.mk 4 s ks) d left = -1 by rw [count, if_pos (.inl (by unfold partOk; simp [hn]))])
            have hnz := hn
            clear hn
            clear hcap hlen
            generalize ks.length = n at p0 p1 p2 hX n1 hnz ⊢
            by_cases hdp : 64 ≤ d
            · have k1 : decide ((64 : Int) ≤ d) = true := by simp; omega
              clear hdp
              go_enter Tryz.func42, Tryz.ntmps42
              go_wp2_with fail
              go_ret
              rw [HE.out]
              exact ⟨rfl, hX⟩
            · have k1 : decide ((64 : Int) ≤ d) = false := by simp; omega
              clear hdp
              by_cases he : s = ⟨#[]⟩
              · have h1 := Sx.emp_tt he
                clear he
                go_enter Tryz.func42, Tryz.ntmps42
                go_wp2_with fail
                go_ret
                rw [HE.out]
                exact ⟨rfl, hX⟩
              · have h1 := Sx.emp_ff he
                clear he
                go_enter Tryz.func42, Tryz.ntmps42
                go_wp2_with fail
                go_ret
                rw [HE.out]
                exact ⟨rfl, hX⟩
        by_cases e5 : kd = 5
        · subst e5
          by_cases hn : ks.length = 2
          · skip
            have HNN := Lib.hid hn
            simp only [hn] at p2 hX p0 p1 ⊢
            have h2 := fun w => rname1_any s w hs2
            by_cases hq : nameL s.data.toList = true
            · rw [hq] at h2
              by_cases hdp : 64 ≤ d
              · have k1 : decide ((64 : Int) ≤ d) = true := by simp; omega
                have HE := Lib.hid (show count (.mk 5 s ks) d left = -1 by rw [count, if_pos (.inr hdp)])
                clear hdp hq hn
                go_enter Tryz.func42, Tryz.ntmps42
                go_wp2_with fail
                go_ret
                rw [HE.out]
                exact ⟨rfl, hX⟩
              · have k1 : decide ((64 : Int) ≤ d) = false := by simp; omega
                have HE := Lib.hid (show count (.mk 5 s ks) d left = counts (ks.drop 0) (d + 1) (left - 1) by rw [count, if_neg (by rw [not_or]; exact ⟨by unfold partOk; simp [hn, hq], hdp⟩)]; rfl)
                clear hq hn
                have hdl : d + 1 ≤ 64 := by omega
                clear hdp
                go_enter Tryz.func42, Tryz.ntmps42
                go_wp2_with fail
                refine (h2 _).mono ?_
                rintro e w2 ⟨rfl, hB⟩
                replace p0 := (hB.cell (p := ⟨W.heap.size, 0, none⟩) (by simp)).trans p0
                replace p1 := (hB.cell (p := ⟨W.heap.size, 1, none⟩) (by simp)).trans p1
                replace p2 := (hB.cell (p := ⟨W.heap.size, 2, none⟩) (by simp)).trans p2
                replace hX := hX.trans (hB.mono (by simp))
                have hZ : W.heap.size + 1 ≤ w2.heap.size := by have := hB.size; simpa using this
                clear hB h2
                go_wp2_with fail
                go_loopw [2, 9] (fun l i wr => ∃ (k : Nat) (m : Int), k ≤ 2 ∧ i = .int .i64 k ∧ l = .int .i64 m ∧ counts (ks.drop k) (d + 1) m = count (.mk 5 s ks) d left ∧ -1 ≤ m ∧ m ≤ 4096 ∧ Below W.heap.size W wr ∧ wr.cell? ⟨W.heap.size, 2, none⟩ = some (.slice sl 2 cap) ∧ W.heap.size + 1 ≤ wr.heap.size) (fun _ i _ => 2 - (intOf i).toNat)
                case atStart => exact ⟨0, _, Nat.zero_le _, rfl, rfl, HE.out.symm, by have := HL.out; omega, by have := HL.out; omega, hX, p2, by first | (rw [World.size_alloc]; exact Nat.le_refl _) | exact hZ⟩
                case round =>
                  obtain ⟨k, m, hk, rfl, rfl, hm, hm1, hm2, hbW, c2, hsz⟩ := hrel
                  clear p0 p1 p2 hX
                  have HM := Lib.hid hm
                  clear hm
                  by_cases hlt : k < 2
                  · by_cases hneg : m < 0
                    · have k2 : decide (0 ≤ m) = false := by simp; omega
                      have HN := Lib.hid hneg
                      clear hneg hm1 hm2
                      go_wp2_with fail
                      go_ret
                      rw [← HM.out, counts_neg HN.out]
                      exact ⟨rfl, hbW⟩
                    · have k2 : decide (0 ≤ m) = true := by simp; omega
                      obtain ⟨u, hu⟩ : ∃ u, ks[k]? = some u := ⟨ks[k]'(by rw [HNN.out]; exact hlt), List.getElem?_eq_getElem (by rw [HNN.out]; exact hlt)⟩
                      obtain ⟨b, a, rfl, hbl, h1, h2, h3⟩ := HC.out k u hu
                      have hsame : ∀ b o, b < W.heap.size → wr.cell? ⟨b, o, none⟩ = W.cell? ⟨b, o, none⟩ := fun b o hb => hbW.cell (p := ⟨b, o, none⟩) (by show b < _; omega)
                      have g1 := (hsame b _ (HS.out b hbl)).trans h1
                      have g2 := (hsame b _ (HS.out b hbl)).trans h2
                      have g3 := (hsame b _ (HS.out b hbl)).trans h3
                      have hkw : IntKind.i64.wrap ((k : Int) + 1) = (k : Int) + 1 := IntWalk.i64_in _ (by omega)
                      have hu2 := List.mem_of_getElem? hu
                      have hk0 := ih u (by have := kid_size (k := 5) (s := s) hu; have := HX.out; omega) (HF.out u hu2) (fun y hy => by rw [hy]; exact HW.out u hu2) wr S _ m (d + 1) (by omega) hm2 (by omega) (fun b hb => Nat.lt_of_lt_of_le (HS.out b hb) hbW.size) ((HR.out k u hu).same fun b o hb => hsame b o (HS.out b hb))
                      have HN := Lib.hid (counts_at (d := d + 1) hu hneg)
                      have HG := Lib.hid (count_le u (d + 1) m (by omega))
                      have HM2 := Lib.hid hm2
                      clear hsame h1 h2 h3 hu hu2 hneg hm1 hm2
                      go_wp2_with fail
                      refine hk0.mono ?_
                      rintro e w2 ⟨rfl, hB⟩
                      replace c2 := (hB.cell (p := ⟨W.heap.size, 2, none⟩) (by show W.heap.size < _; omega)).trans c2
                      go_wp2_with fail
                      go_roundw
                      case rel => exact ⟨k + 1, _, by omega, by go_num, rfl, HN.out.symm.trans HM.out, HG.out.1, by have := HG.out.2.1; have := HM2.out; omega, hbW.trans (hB.mono hbW.size), c2, by have := hB.size; omega⟩
                      case measure => simp [intOf]; omega
                  · obtain rfl : k = 2 := by omega
                    go_wp2_with fail
                    go_ret
                    rw [← HM.out, List.drop_eq_nil_of_le (Nat.le_of_eq HNN.out), counts]
                    exact ⟨rfl, hbW⟩
            · rw [Bool.not_eq_true] at hq
              rw [hq] at h2
              have HE := Lib.hid (show count (.mk 5 s ks) d left = -1 by rw [count, if_pos (.inl (by unfold partOk; simp [hq]))])
              clear hq hn
              by_cases hdp : 64 ≤ d
              · have k1 : decide ((64 : Int) ≤ d) = true := by simp; omega
                clear hdp
                go_enter Tryz.func42, Tryz.ntmps42
                go_wp2_with fail
                go_ret
                rw [HE.out]
                exact ⟨rfl, hX⟩
              · have k1 : decide ((64 : Int) ≤ d) = false := by simp; omega
                clear hdp
                go_enter Tryz.func42, Tryz.ntmps42
                go_wp2_with fail
                refine (h2 _).mono ?_
                rintro e w2 ⟨rfl, hB⟩
                replace p0 := (hB.cell (p := ⟨W.heap.size, 0, none⟩) (by simp)).trans p0
                replace p1 := (hB.cell (p := ⟨W.heap.size, 1, none⟩) (by simp)).trans p1
                replace p2 := (hB.cell (p := ⟨W.heap.size, 2, none⟩) (by simp)).trans p2
                replace hX := hX.trans (hB.mono (by simp))
                clear hB h2
                go_wp2_with fail
                go_ret
                rw [HE.out]
                exact ⟨rfl, hX⟩
          · skip
            have n1 : ((ks.length : Int) == 2) = false := beq_eq_false_iff_ne.2 (by omega)
            have HE := Lib.hid (show count (.mk 5 s ks) d left = -1 by rw [count, if_pos (.inl (by unfold partOk; simp [hn]))])
            have hnz := hn
            clear hn
            clear hcap hlen
            generalize ks.length = n at p0 p1 p2 hX n1 hnz ⊢
            by_cases hdp : 64 ≤ d
            · have k1 : decide ((64 : Int) ≤ d) = true := by simp; omega
              clear hdp
              go_enter Tryz.func42, Tryz.ntmps42
              go_wp2_with fail
              go_ret
              rw [HE.out]
              exact ⟨rfl, hX⟩
            · have k1 : decide ((64 : Int) ≤ d) = false := by simp; omega
              clear hdp
              have h2 := fun w => rname1_any s w hs2
              generalize nameL s.data.toList = q at h2
              cases q
              · skip
                go_enter Tryz.func42, Tryz.ntmps42
                go_wp2_with fail
                refine (h2 _).mono ?_
                rintro e w2 ⟨rfl, hB⟩
                replace p0 := (hB.cell (p := ⟨W.heap.size, 0, none⟩) (by simp)).trans p0
                replace p1 := (hB.cell (p := ⟨W.heap.size, 1, none⟩) (by simp)).trans p1
                replace p2 := (hB.cell (p := ⟨W.heap.size, 2, none⟩) (by simp)).trans p2
                replace hX := hX.trans (hB.mono (by simp))
                clear hB h2
                go_wp2_with fail
                go_ret
                rw [HE.out]
                exact ⟨rfl, hX⟩
              · skip
                go_enter Tryz.func42, Tryz.ntmps42
                go_wp2_with fail
                refine (h2 _).mono ?_
                rintro e w2 ⟨rfl, hB⟩
                replace p0 := (hB.cell (p := ⟨W.heap.size, 0, none⟩) (by simp)).trans p0
                replace p1 := (hB.cell (p := ⟨W.heap.size, 1, none⟩) (by simp)).trans p1
                replace p2 := (hB.cell (p := ⟨W.heap.size, 2, none⟩) (by simp)).trans p2
                replace hX := hX.trans (hB.mono (by simp))
                clear hB h2
                go_wp2_with fail
                go_ret
                rw [HE.out]
                exact ⟨rfl, hX⟩
        have f1 : (kd == 1) = false := by simpa using e1
        have f2 : (kd == 2) = false := by simpa using e2
        have f3 : (kd == 3) = false := by simpa using e3
        have f4 : (kd == 4) = false := by simpa using e4
        have f5 : (kd == 5) = false := by simpa using e5
        have HE := Lib.hid (show count (.mk kd s ks) d left = -1 by rw [count, if_pos (.inl (by unfold partOk; simp [e1, e2, e3, e4, e5]))])
        by_cases g1 : kd < 1
        · have g2 : decide (kd < 1) = true := by simpa using g1
          clear g1 e1 e2 e3 e4 e5
          go_enter Tryz.func42, Tryz.ntmps42
          go_wp2_with fail
          go_ret
          rw [HE.out]
          exact ⟨rfl, hX⟩
        · have g2 : decide (kd < 1) = false := by simpa using g1
          have g3 : decide (5 < kd) = true := by simp; omega
          clear g1 e1 e2 e3 e4 e5
          go_enter Tryz.func42, Tryz.ntmps42
          go_wp2_with fail
          go_ret
          rw [HE.out]
          exact ⟨rfl, hX⟩
set_option maxHeartbeats 1000000 in
set_option maxRecDepth 100000 in
theorem rgood_any {x : E} (hx : Sml x) (hw : sizeW x ≤ 20000) (W : World) (S : Nat → Prop) (v : Value) (hS : ∀ b, S b → b < W.heap.size) (hr : RepX W S x v) :
    Calls Tryz.prog 23 #[v] W fun e W' => e = .returned (.bool (goodE x)) ∧ Below W.heap.size W W' := by
  obtain ⟨kd, s, sl, n, cap, rfl⟩ := hr.vals
  have hX : Below W.heap.size W (W.alloc (.cells #[.int .i64 kd, .string s, .slice sl n cap] 24)) := (Below.refl _ _).alloc (Nat.le_refl _) _
  have h1 := parts_tt _ x (Nat.lt_succ_self _) hx (fun y hy => by rw [hy]; exact hw) (W.alloc (.cells #[.int .i64 kd, .string s, .slice sl n cap] 24)) S _ 4096 0 (by decide) (by decide) (by decide) (fun b hb => Nat.lt_of_lt_of_le (hS b hb) hX.size) (hr.move fun b hb => ⟨hb, hX.block b (hS b hb)⟩)
  have p0 : (W.alloc (.cells #[.int .i64 kd, .string s, .slice sl n cap] 24)).cell? ⟨W.heap.size, 0, none⟩ = some (.int .i64 kd) := by go_simp
  have p1 : (W.alloc (.cells #[.int .i64 kd, .string s, .slice sl n cap] 24)).cell? ⟨W.heap.size, 1, none⟩ = some (.string s) := by go_simp
  have p2 : (W.alloc (.cells #[.int .i64 kd, .string s, .slice sl n cap] 24)).cell? ⟨W.heap.size, 2, none⟩ = some (.slice sl n cap) := by go_simp
  have HS := Lib.hid hS
  have HR := Lib.hid hr
  clear hS hr
  go_enter Tryz.func23, Tryz.ntmps23
  go_wp2_with fail
  refine h1.mono ?_
  rintro e w2 ⟨rfl, hB⟩
  go_wp2_with fail
  go_ret
  exact ⟨rfl, hX.trans (hB.mono hX.size)⟩
end Rc
end Go.Proofs.YtflhmoelenmomaaGreatDoor
