/-
  Law: SpanTerms answers true.
-/
import Derived.Test.YtlmmhhkhoaoheaaGreatDoorSgLH
namespace Go.Proofs.YtlmmhhkhoaoheaaGreatDoor
open Go.RowKit Go.Shelf Go.Lib
namespace Sg

/-- a range that says S, unless it has too many gaps -/
def SP (S : Int → Prop) (z : Value) (c : Int) (W' : World) : Prop := ∃ r, Nm r ∧ (∀ n, inR r n ↔ S n) ∧ (∀ g ∈ r, Bd g) ∧ c = (if 16 < r.length then 13 else 0) ∧ GS W' z (if 16 < r.length then [] else r)
theorem SP.of {B : Nat} {S : Int → Prop} {r : List G} {e : Ending} {W' : World} (h : SetP B S r e W') : ∃ z c, e = .returned (.tuple #[z, .int .i64 c]) ∧ SP S z c W' := by
  rcases h.ans with ⟨h1, h2⟩ | ⟨h1, v, h2, h3⟩
  · exact ⟨_, _, h2, r, h.nm, h.mem, h.bd, by rw [if_pos h1], by rw [if_pos h1]; exact gs_nil W'⟩
  · exact ⟨_, _, h2, r, h.nm, h.mem, h.bd, by rw [if_neg h1], by rw [if_neg h1]; exact h3.gs fun g hg => (h.bd g hg).n64⟩
theorem SP.same {S S' : Int → Prop} {z z' : Value} {c c' : Int} {W W' : World} (h : SP S z c W) (h' : SP S' z' c' W') (hS : ∀ n, S n ↔ S' n) : c = c' ∧ ∃ l, GS W z l ∧ GS W' z' l := by
  obtain ⟨r, h1, h2, h3, h4, h5⟩ := h
  obtain ⟨r', g1, g2, g3, g4, g5⟩ := h'
  have e : r = r' := nm_unique _ _ h1 g1 fun n => (h2 n).trans ((hS n).trans (g2 n).symm)
  subst e
  exact ⟨h4.trans g4.symm, _, h5, g5⟩
theorem SP.form {S : Int → Prop} {x : Value} {c : Int} {W' : World} (h : SP S x c W') : ∃ sl n cap, x = .slice sl n cap := by
  obtain ⟨r, _, _, _, _, h⟩ := h
  obtain ⟨sl, cap, h1, _⟩ := h.form
  exact ⟨_, _, _, h1⟩
theorem parse_sp (s : ByteArray) (l : List G) (W : World) (hs : s.size ≤ 1048576) (hE : Vs.Env W) (h : setF s.data.toList = .ok l) :
    Calls Tryz.prog 9 #[.string s] W fun e W' => ∃ z c, e = .returned (.tuple #[z, .int .i64 c]) ∧ SP (fun n => inR l n) z c W' ∧ Below W.heap.size W W' := (parse_any s W hs hE).mono fun e W' hq => by
  obtain ⟨h1, hB⟩ := hq
  rw [h] at h1
  obtain ⟨r, h2⟩ := h1
  obtain ⟨z, c, h3, h4⟩ := SP.of h2
  exact ⟨z, c, h3, h4, hB⟩
/-- what Parse answers of a text that is not none: a fault, or the range of its gaps -/
def PT (l : List UInt8) (z : Value) (c : Int) (W' : World) : Prop := (c ≠ 0 ∧ z = .slice none 0 0) ∨ (c = 0 ∧ ∃ g r, allF l = some g ∧ goodB r = true ∧ (∀ n, inR r n ↔ inR g n) ∧ GS W' z r)
theorem parse_two (s : ByteArray) (W : World) (hs : s.size ≤ 1048576) (hE : Vs.Env W) (hn : s.data.toList ≠ noneL) :
    Calls Tryz.prog 9 #[.string s] W fun e W' => ∃ z c, e = .returned (.tuple #[z, .int .i64 c]) ∧ PT s.data.toList z c W' ∧ Below W.heap.size W W' := (parse_any s W hs hE).mono fun e W' hq => by
  obtain ⟨h1, hB⟩ := hq
  unfold setF at h1
  by_cases hl : 256 < s.data.toList.length
  · rw [if_pos hl] at h1
    exact ⟨_, _, h1, .inl ⟨by decide, rfl⟩, hB⟩
  rw [if_neg hl, if_neg hn] at h1
  cases ha : allF s.data.toList with
  | none =>
    rw [ha] at h1
    exact ⟨_, _, h1, .inl ⟨by decide, rfl⟩, hB⟩
  | some g =>
    rw [ha] at h1
    obtain ⟨r, h2⟩ := h1
    rcases h2.ans with ⟨k1, k2⟩ | ⟨k1, v, k2, k3⟩
    · exact ⟨_, _, k2, .inl ⟨by decide, rfl⟩, hB⟩
    · exact ⟨_, _, k2, .inr ⟨rfl, g, r, ha, good_of h2.nm (by omega) fun x hx => ⟨(h2.bd x hx).1.1, (h2.bd x hx).2.2⟩, h2.mem, k3.gs fun x hx => (h2.bd x hx).n64⟩, hB⟩
theorem PT.form {l : List UInt8} {x : Value} {c : Int} {W' : World} (h : PT l x c W') : ∃ sl n cap, x = .slice sl n cap := by
  rcases h with ⟨_, rfl⟩ | ⟨_, g, r, _, _, _, h⟩
  · exact ⟨_, _, _, rfl⟩
  · obtain ⟨sl, cap, h1, _⟩ := h.form
    exact ⟨_, _, _, h1⟩
theorem cat_data (s t : ByteArray) (x : List UInt8) : ((s ++ ⟨x.toArray⟩) ++ t).data.toList = s.data.toList ++ (x ++ t.data.toList) := by
  rw [ByteArray.data_append, ByteArray.data_append, Array.toList_append, Array.toList_append, List.append_assoc]
theorem set_some {l : List UInt8} {g : List G} (h1 : l.length ≤ 256) (h2 : l ≠ noneL) (h3 : allF l = some g) : setF l = .ok g := by
  unfold setF
  rw [if_neg (by omega), if_neg h2, h3]
theorem same_of {p : List G} {v v' : Value} {W W1 W2 : World} (h1 : GS W v p) (h2 : GS W1 v' p) (hb1 : Below W.heap.size W W2) (hb2 : Below W1.heap.size W1 W2) : Calls Tryz.prog 11 #[v, v'] W2 fun e W' => e = .returned (.bool true) ∧ Below W2.heap.size W2 W' := rsame_any p v v' W2 (h1.below hb1) (h2.below hb2)
theorem no_succ {s : ByteArray} {k : Nat} (h : (124 : UInt8) ∉ s.data.toList.take k) (hk : k < s.size) (hn : s[k]'hk ≠ 124) : (124 : UInt8) ∉ s.data.toList.take (k + 1) := by
  rw [List.take_add_one, Lib.data_getElem? s k hk]
  simp only [Option.toList_some, List.mem_append, List.mem_cons, List.not_mem_nil, or_false, not_or]
  exact ⟨h, fun e => hn e.symm⟩
theorem no_all {s : ByteArray} (h : (124 : UInt8) ∉ s.data.toList.take s.size) : (124 : UInt8) ∉ s.data.toList := by
  rw [Lib.size_eq s, List.take_length] at h
  exact h
set_option maxHeartbeats 2000000 in
set_option maxRecDepth 100000 in
theorem termslaw_any (s t : ByteArray) (W : World) (hs : s.size ≤ maxLen) (ht : t.size ≤ maxLen) (hE : Vs.Env W) :
    Calls Tryz.prog 5 #[.string s, .string t] W fun e W' => e = .returned (.bool true) ∧ Below W.heap.size W W' := by
  unfold maxLen at hs ht
  have hal := alive_any W hE
  have HE := Lib.hid hE
  clear hE
  by_cases h1 : 120 < s.size
  · have k1 : (120 : Int) < s.size := by omega
    clear h1
    go_enter Tryz.func5, Tryz.ntmps5
    go_wp2_with (go_at_call 8; refine hal.mono ?_; rintro e W1 ⟨rfl, hB1⟩)
    go_ret
    exact ⟨rfl, hB1⟩
  have k1 : ¬ (120 : Int) < s.size := by omega
  by_cases h2 : 120 < t.size
  · have k2 : (120 : Int) < t.size := by omega
    clear h1 h2
    go_enter Tryz.func5, Tryz.ntmps5
    go_wp2_with (go_at_call 8; refine hal.mono ?_; rintro e W1 ⟨rfl, hB1⟩)
    go_ret
    exact ⟨rfl, hB1⟩
  have k2 : ¬ (120 : Int) < t.size := by omega
  have hz1 : s.size ≤ 120 := by omega
  have hz2 : t.size ≤ 120 := by omega
  clear h1 h2 hs ht
  by_cases n1 : s.data.toList = noneL
  · have j1 := str_tt n1
    clear n1
    go_enter Tryz.func5, Tryz.ntmps5
    go_wp2_with (go_at_call 8; refine hal.mono ?_; rintro e W1 ⟨rfl, hB1⟩)
    go_ret
    exact ⟨rfl, hB1⟩
  have j1 := str_ff n1
  by_cases n2 : t.data.toList = noneL
  · have j2 := str_tt n2
    clear n1 n2
    go_enter Tryz.func5, Tryz.ntmps5
    go_wp2_with (go_at_call 8; refine hal.mono ?_; rintro e W1 ⟨rfl, hB1⟩)
    go_ret
    exact ⟨rfl, hB1⟩
  have j2 := str_ff n2
  have N1 := Lib.hid n1
  have N2 := Lib.hid n2
  clear n1 n2
  go_enter Tryz.func5, Tryz.ntmps5
  go_wp2_with (first
    | (go_at_call 8; refine hal.mono ?_; rintro e W1 ⟨rfl, hB1⟩; have hp := parse_two s W1 (by omega) (HE.out.below (Nat.le_refl _) hB1) N1.out; clear hal)
    | (go_at_call 9; refine hp.mono ?_; rintro e W2 ⟨z, c, rfl, hT, hb2⟩; have hB2 := hB1.trans (hb2.mono hB1.size); have hq := parse_two t W2 (by omega) (HE.out.below (Nat.le_refl _) hB2) N2.out; obtain ⟨sz, nz, kz, rfl⟩ := hT.form; have HT := Lib.hid hT; clear hp hT))
  refine hq.mono ?_
  rintro e W3 ⟨y, d, rfl, hU, hb3⟩
  have hB3 := hB2.trans (hb3.mono hB2.size)
  obtain ⟨sy, ny, ky, rfl⟩ := hU.form
  rcases HT.out with ⟨hc, -⟩ | ⟨rfl, ga, ra, hga, hra, hma, hGa⟩
  · have i1 : (c == 0) = false := beq_eq_false_iff_ne.2 hc
    clear hq hU HT
    go_wp2_with fail
    go_ret
    exact ⟨rfl, hB3⟩
  rcases hU with ⟨hd, -⟩ | ⟨rfl, gb, rb, hgb, hrb, hmb, hGb⟩
  · have i1 : (d == 0) = false := beq_eq_false_iff_ne.2 hd
    clear hq HT hga hra hma hGa
    go_wp2_with fail
    go_ret
    exact ⟨rfl, hB3⟩
  have hGa3 := hGa.below hb3
  have hO := (or_ok ra rb _ _ W3 hGa3 hGb hra hrb).mono fun e W' (hq : ∃ r, SetP W3.heap.size (fun n => inR ra n ∨ inR rb n) r e W' ∧ Below W3.heap.size W3 W') => (show ∃ z c, e = .returned (.tuple #[z, .int .i64 c]) ∧ SP (fun n => inR ra n ∨ inR rb n) z c W' ∧ Below W3.heap.size W3 W' by
    obtain ⟨r, h1, h2⟩ := hq
    obtain ⟨z, c, h3, h4⟩ := SP.of h1
    exact ⟨z, c, h3, h4, h2⟩)
  obtain ⟨u1, hu1⟩ : ∃ u : ByteArray, u = s ++ ⟨([32, 124, 32] : List UInt8).toArray⟩ := ⟨_, rfl⟩
  obtain ⟨u2, hu2⟩ : ∃ u : ByteArray, u = u1 ++ t := ⟨_, rfl⟩
  have hd2 : u2.data.toList = s.data.toList ++ (bar ++ t.data.toList) := by rw [hu2, hu1, cat_data]
  have hl2 : u2.data.toList.length = s.size + 3 + t.size := by
    rw [hd2, Lib.size_eq s, Lib.size_eq t]
    simp
    omega
  have hset := set_some (l := u2.data.toList) (g := ga ++ gb) (by omega) (fun e => by
    rw [hd2] at e
    have h9 : (32 : UInt8) ∈ noneL := by rw [← e]; simp
    revert h9; decide) (by rw [hd2]; exact all_bar hga hgb)
  have hadd1 : ∀ w : World, (Op.stringOp .add s ⟨#[32, 124, 32]⟩).run Tryz.prog w = .ok (.string u1) w := fun w => by
    rw [hu1]
    exact run_string_add_sum _ _ _ (by show s.size + 3 ≤ _; omega)
  have hadd2 : ∀ w : World, (Op.stringOp .add u1 t).run Tryz.prog w = .ok (.string u2) w := fun w => by
    rw [hu2]
    exact run_string_add_sum _ _ _ (by
      have : u1.size = s.size + 3 := by rw [hu1, ByteArray.size_append]; rfl
      omega)
  have hz3 : u2.size ≤ 1048576 := by rw [Lib.size_eq u2]; omega
  have HSet := Lib.hid hset
  have HA := Lib.hid (And.intro hga (And.intro hgb (And.intro hma hmb)))
  have HG := Lib.hid (And.intro hGa3 (And.intro hGb (And.intro hra hrb)))
  clear hset hga hgb hma hmb hGa hGb hra hrb hGa3 hd2 hl2 hu1 hu2 hq HT
  go_wp2_with (first
    | (go_at_call 17; refine hO.mono ?_; rintro e W4 ⟨z4, c4, rfl, hS4, hb4⟩; have hB4 := hB3.trans (hb4.mono hB3.size); obtain ⟨sl4, n4, k4, rfl⟩ := hS4.form; have HS4 := Lib.hid hS4; have hp5 := parse_sp u2 _ W4 hz3 (HE.out.below (Nat.le_refl _) hB4) HSet.out; clear hO hS4))
  refine hp5.mono ?_
  rintro e W5 ⟨z5, c5, rfl, hS5, hb5⟩
  have hB5 := hB4.trans (hb5.mono hB4.size)
  obtain ⟨sl5, n5, k5, rfl⟩ := hS5.form
  obtain ⟨rfl, l5, hG4, hG5⟩ := HS4.out.same hS5 (fun n => by
    obtain ⟨-, -, h1, h2⟩ := HA.out
    rw [in_app, h1, h2])
  have hsa := same_of hG4 hG5 hb5 (Below.refl _ _)
  have hb35 := hb4.trans (hb5.mono hb4.size)
  clear hp5 hS5 HS4 HSet hadd1 hadd2 hG4 hG5 hz3
  go_wp2_with (go_at_call 11; refine hsa.mono ?_; rintro e W6 ⟨rfl, hb6⟩; have hB6 := hB5.trans (hb6.mono hB5.size); have hb36 := hb35.trans (hb6.mono hb35.size); clear hsa)
  clear hB5 hb35 hb5 hb4 hb6 hB4 hB3 hB2 hb3 hb2 hB1
  go_loopw [11] (fun i wr => ∃ k : Nat, k ≤ s.size ∧ i = .int .i64 (k : Int) ∧ W6 = wr ∧ (124 : UInt8) ∉ s.data.toList.take k) (fun i _ => s.size - (intOf i).toNat)
  case atStart => exact ⟨0, Nat.zero_le _, rfl, rfl, by simp⟩
  case round =>
    obtain ⟨k, hk, rfl, rfl, hno⟩ := hrel
    have HN := Lib.hid hno
    clear hno
    by_cases hlt : k < s.size
    · obtain ⟨x, hx⟩ : ∃ x : UInt8, s[k]'hlt = x := ⟨_, rfl⟩
      by_cases hx9 : x = 124
      · have i1 : ((s[k]'hlt).toNat : Int) = 124 := by rw [hx, hx9]; rfl
        clear hx
        go_wp2_with fail
        go_ret
        exact ⟨rfl, hB6⟩
      · have i1 : (((s[k]'hlt).toNat : Int) == 124) = false := beq_eq_false_iff_ne.2 fun e => hx9 (by
          rw [← hx]
          exact UInt8.toNat_inj.1 (by show _ = 124; omega))
        have HNS := Lib.hid (no_succ HN.out hlt (by rw [hx]; exact hx9))
        clear hx
        go_wp2_with fail
        go_roundw
        case rel => exact ⟨k + 1, by omega, by go_num, trivial, HNS.out⟩
        case measure => simp [intOf]; omega
    · obtain rfl : k = s.size := by omega
      have HNA := Lib.hid (no_all HN.out)
      go_wp2_with fail
      go_loopw [12] (fun i wr => ∃ k : Nat, k ≤ t.size ∧ i = .int .i64 (k : Int) ∧ W6 = wr ∧ (124 : UInt8) ∉ t.data.toList.take k) (fun i _ => t.size - (intOf i).toNat)
      case atStart => exact ⟨0, Nat.zero_le _, rfl, rfl, by simp⟩
      case round =>
        obtain ⟨k, hk, rfl, rfl, hno⟩ := hrel
        have HN := Lib.hid hno
        clear hno
        by_cases hlt : k < t.size
        · obtain ⟨x, hx⟩ : ∃ x : UInt8, t[k]'hlt = x := ⟨_, rfl⟩
          by_cases hx9 : x = 124
          · have i1 : ((t[k]'hlt).toNat : Int) = 124 := by rw [hx, hx9]; rfl
            clear hx
            go_wp2_with fail
            go_ret
            exact ⟨rfl, hB6⟩
          · have i1 : (((t[k]'hlt).toNat : Int) == 124) = false := beq_eq_false_iff_ne.2 fun e => hx9 (by
              rw [← hx]
              exact UInt8.toNat_inj.1 (by show _ = 124; omega))
            have HNS := Lib.hid (no_succ HN.out hlt (by rw [hx]; exact hx9))
            clear hx
            go_wp2_with fail
            go_roundw
            case rel => exact ⟨k + 1, by omega, by go_num, trivial, HNS.out⟩
            case measure => simp [intOf]; omega
        · obtain rfl : k = t.size := by omega
          have HNB := Lib.hid (no_all HN.out)
          obtain ⟨hga, hgb, hma, hmb⟩ := HA.out
          obtain ⟨hGa3, hGb, hra, hrb⟩ := HG.out
          have hO := (and_ok ra rb _ _ W6 (hGa3.below hb36) (hGb.below hb36) hra hrb).mono fun e W' (hq : ∃ r, SetP W6.heap.size (fun n => inR ra n ∧ inR rb n) r e W' ∧ Below W6.heap.size W6 W') => (show ∃ z c, e = .returned (.tuple #[z, .int .i64 c]) ∧ SP (fun n => inR ra n ∧ inR rb n) z c W' ∧ Below W6.heap.size W6 W' by
            obtain ⟨r, h1, h2⟩ := hq
            obtain ⟨z, c, h3, h4⟩ := SP.of h1
            exact ⟨z, c, h3, h4, h2⟩)
          obtain ⟨g, h, rfl, rfl, -, -, hab⟩ := all_blank hga hgb HNA.out HNB.out
          obtain ⟨u1, hu1⟩ : ∃ u : ByteArray, u = s ++ ⟨([32] : List UInt8).toArray⟩ := ⟨_, rfl⟩
          obtain ⟨u2, hu2⟩ : ∃ u : ByteArray, u = u1 ++ t := ⟨_, rfl⟩
          have hd2 : u2.data.toList = s.data.toList ++ ([32] ++ t.data.toList) := by rw [hu2, hu1, cat_data]
          have hl2 : u2.data.toList.length = s.size + 1 + t.size := by
            rw [hd2, Lib.size_eq s, Lib.size_eq t]
            simp
            omega
          have hset := set_some (l := u2.data.toList) (by omega) (fun e => by
            rw [hd2] at e
            have h9 : (32 : UInt8) ∈ noneL := by rw [← e]; simp
            revert h9; decide) (by rw [hd2]; exact hab)
          have hadd1 : ∀ w : World, (Op.stringOp .add s ⟨#[32]⟩).run Tryz.prog w = .ok (.string u1) w := fun w => by
            rw [hu1]
            exact run_string_add_sum _ _ _ (by show s.size + 1 ≤ _; omega)
          have hadd2 : ∀ w : World, (Op.stringOp .add u1 t).run Tryz.prog w = .ok (.string u2) w := fun w => by
            rw [hu2]
            exact run_string_add_sum _ _ _ (by
              have : u1.size = s.size + 1 := by rw [hu1, ByteArray.size_append]; rfl
              omega)
          have hz3 : u2.size ≤ 1048576 := by rw [Lib.size_eq u2]; omega
          have HSet := Lib.hid hset
          have HM := Lib.hid (And.intro hma hmb)
          clear hset hga hgb hma hmb hGa3 hGb hra hrb hab hd2 hl2 hu1 hu2 HA HG
          go_wp2_with (first
            | (go_at_call 18; refine hO.mono ?_; rintro e W7 ⟨z7, c7, rfl, hS7, hb7⟩; have hB7 := hB6.trans (hb7.mono hB6.size); obtain ⟨sl7, n7, k7, rfl⟩ := hS7.form; have HS7 := Lib.hid hS7; have hp8 := parse_sp u2 _ W7 hz3 (HE.out.below (Nat.le_refl _) hB7) HSet.out; clear hO hS7))
          refine hp8.mono ?_
          rintro e W8 ⟨z8, c8, rfl, hS8, hb8⟩
          have hB8 := hB7.trans (hb8.mono hB7.size)
          obtain ⟨sl8, n8, k8, rfl⟩ := hS8.form
          obtain ⟨rfl, l8, hG7, hG8⟩ := HS7.out.same hS8 (fun n => by
            obtain ⟨h1, h2⟩ := HM.out
            rw [h1, h2, in_one, in_one, in_one, in_meet])
          have hsa := same_of hG7 hG8 hb8 (Below.refl _ _)
          clear hp8 hS8 HS7 HSet hadd1 hadd2 hG7 hG8 hz3 HM
          go_wp2_with (go_at_call 11; refine hsa.mono ?_; rintro e W9 ⟨rfl, hb9⟩; have hB9 := hB8.trans (hb9.mono hB8.size))
          go_ret
          exact ⟨rfl, hB9⟩
end Sg
end Go.Proofs.YtlmmhhkhoaoheaaGreatDoor
