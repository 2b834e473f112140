/-
  Walks: shelf.Shelf at one kind of key and value: where a key stands, Get. (printed by gen_Sh.py)
-/
import Derived.Test.YtipcockcndnipaaDoorShP
import Derived.Test.YtipcockcndnipaaDoorSxA
import Derived.Lib.Strings
import Derived.Laws.AppendOwn
import Derived.Laws.OwnMore
namespace Go.Proofs.YtipcockcndnipaaDoor
open Go.RowKit
namespace ShS
open Shf

abbrev KV := List UInt8 × Int
abbrev ek (k : List UInt8) : Value := .string ⟨k.toArray⟩
abbrev ev (v : Int) : Value := .int .i64 v
def row (l : List KV) : List Value := l.flatMap fun p => [ek p.1, ev p.2]
theorem row_len : ∀ l : List KV, (row l).length = l.length * 2
  | [] => rfl
  | a :: l => by
    have := row_len l
    simp only [row, List.flatMap_cons, List.length_append, List.length_cons, List.length_nil] at *
    omega
theorem row_app (a b : List KV) : row (a ++ b) = row a ++ row b := List.flatMap_append
theorem row_at : ∀ (l : List KV) (k : Nat) (a : KV), l[k]? = some a → (row l)[k * 2]? = some (ek a.1) ∧ (row l)[k * 2 + 1]? = some (ev a.2)
  | [], k, a, h => by simp at h
  | b :: l, 0, a, h => by simp at h; subst h; exact ⟨rfl, rfl⟩
  | b :: l, k + 1, a, h => by
    have ih := row_at l k a (by simpa using h)
    rw [show (k + 1) * 2 = k * 2 + 2 by omega]
    exact ih
theorem row_one (l : List KV) : ∀ v ∈ row l, v.oneCell' = true := by
  intro v hv
  obtain ⟨p, _, hp⟩ := List.mem_flatMap.1 hv
  simp at hp
  rcases hp with rfl | rfl <;> rfl
/-- a slice of pairs that is its holder's own -/
def Own (W : World) (B : Nat) (v : Value) (l : List KV) : Prop := W.ownsRow B 85 2 v l.length (row l)
theorem Own.form {W : World} {B : Nat} {v : Value} {l : List KV} (h : Own W B v l) : ∃ sl cap, v = .slice sl l.length cap := by
  rcases h.2 with ⟨rfl, hn⟩ | ⟨g, cap, cur, rfl, _⟩
  · exact ⟨none, 0, by rw [hn]⟩
  · exact ⟨_, _, rfl⟩
theorem Own.at {W : World} {B : Nat} {sl : Option Addr} {n cap : Nat} {l : List KV} (h : Own W B (.slice sl n cap) l) {k : Nat} {a : KV} (ha : l[k]? = some a) :
    ∃ g, sl = some ⟨g, 0, none⟩ ∧ B ≤ g ∧ g < W.heap.size ∧ W.cell? ⟨g, k * 2, none⟩ = some (ek a.1) ∧ W.cell? ⟨g, k * 2 + 1, none⟩ = some (ev a.2) := by
  have hk := (List.getElem?_eq_some_iff.1 ha).1
  have h0 := h
  rcases h.2 with ⟨_, hn⟩ | ⟨g, cap', cur, e, hb, hg, _⟩
  · omega
  · cases e
    have hr := row_at l k a ha
    have hadd : ∀ j, (⟨g, 0, none⟩ : Addr).add j = ⟨g, j, none⟩ := fun j => by unfold Addr.add; split <;> simp_all
    have h1 := h0.cells (g := g) rfl (k * 2) _ hr.1
    have h2 := h0.cells (g := g) rfl (k * 2 + 1) _ hr.2
    rw [hadd] at h1 h2
    exact ⟨g, rfl, hb, (Array.getElem?_eq_some_iff.1 hg).1, h1, h2⟩
theorem Own.below {W W' : World} {B : Nat} {v : Value} {l : List KV} (h : Own W B v l) (hb : Below W.heap.size W W') : Own W' B v l :=
  h.kept (row := none) ⟨hb.os, hb.tape, hb.output, hb.size, fun k hk _ => hb.block k hk⟩ (by cases v.ownBlock <;> simp)
def cmpZ (a k : List UInt8) : Int := if Op.bytesLess a k = true then -1 else if a = k then 0 else 1
theorem cmp_lt {a k : List UInt8} : (cmpZ a k < 0) ↔ Op.bytesLess a k = true := by
  unfold cmpZ
  split
  · exact ⟨fun _ => by assumption, fun _ => by omega⟩
  · split
    · exact ⟨fun h => by omega, fun h => absurd h (by assumption)⟩
    · exact ⟨fun h => by omega, fun h => absurd h (by assumption)⟩
theorem cmp_eq {a k : List UInt8} (h : Op.bytesLess a k = false) : (cmpZ a k == 0) = decide (a = k) := by
  unfold cmpZ
  rw [if_neg (by rw [h]; simp)]
  split
  · rename_i e
    simp [e]
  · rename_i e
    simp [e]
set_option maxHeartbeats 1000000 in
theorem cmp_any (A s : ByteArray) (v : Int) (w : World) : Calls Tryd.prog 53 #[.agg #[.string A, .int .i64 v], .string s] w fun e w' => e = .returned (.int .i64 (cmpZ A.data.toList s.data.toList)) ∧ Below w.heap.size w w' := by
  have hB := (Below.refl w.heap.size w).alloc (Nat.le_refl _) (.cells #[.string A, .int .i64 v] 85)
  by_cases h1 : Op.bytesLess A.toList s.toList = true
  · have HR := Lib.hid (show cmpZ A.data.toList s.data.toList = -1 by unfold cmpZ; rw [← Lib.toList_data, ← Lib.toList_data, if_pos h1])
    go_enter Tryd.func53, Tryd.ntmps53
    go_wp2_with fail
    go_ret
    rw [HR.out]
    exact ⟨rfl, hB⟩
  · have h1' : Op.bytesLess A.toList s.toList = false := by simpa using h1
    by_cases h2 : A.toList = s.toList
    · have HR := Lib.hid (show cmpZ A.data.toList s.data.toList = 0 by unfold cmpZ; rw [← Lib.toList_data, ← Lib.toList_data, if_neg h1, if_pos h2])
      have h3 : (A.toList == s.toList) = true := by rw [h2]; exact beq_self_eq_true _
      clear h1 h2
      go_enter Tryd.func53, Tryd.ntmps53
      go_wp2_with fail
      go_ret
      rw [HR.out]
      exact ⟨rfl, hB⟩
    · have HR := Lib.hid (show cmpZ A.data.toList s.data.toList = 1 by unfold cmpZ; rw [← Lib.toList_data, ← Lib.toList_data, if_neg h1, if_neg h2])
      have h3 : (A.toList == s.toList) = false := beq_eq_false_iff_ne.2 h2
      clear h1 h2
      go_enter Tryd.func53, Tryd.ntmps53
      go_wp2_with fail
      go_ret
      rw [HR.out]
      exact ⟨rfl, hB⟩
theorem cmpk_any (a : KV) (s : ByteArray) (w : World) : Calls Tryd.prog 53 #[.agg #[ek a.1, ev a.2], .string s] w fun e w' => e = .returned (.int .i64 (cmpZ a.1 s.data.toList)) ∧ Below w.heap.size w w' :=
  cmp_any ⟨a.1.toArray⟩ s a.2 w

def hitB (l : List KV) (k : List UInt8) : Bool := (hit Op.bytesLess l k).isSome
set_option maxHeartbeats 2000000 in
theorem search_any (s : ByteArray) (B : Nat) (v : Value) (l : List KV) (w : World) (hO : Own w B v l) (hs : Srt Op.bytesLess l) (hl : l.length ≤ 1000000) :
    Calls Tryd.prog 52 #[v, .string s, .func (.func 53) #[] #[]] w fun e w' =>
      e = .returned (.tuple #[.int .i64 (pos Op.bytesLess l (s.data.toList) : Nat), .bool (hitB l (s.data.toList))]) ∧ Below w.heap.size w w' := by
  obtain ⟨sl, cap, rfl⟩ := hO.form
  have HS := Lib.hid hs
  have HO := Lib.hid hO
  clear hs hO
  go_enter Tryd.func52, Tryd.ntmps52
  go_wp2_with fail
  go_loopw [9, 10] (fun i j wr => ∃ lo hi : Nat, i = .int .i64 lo ∧ j = .int .i64 hi ∧ lo ≤ hi ∧ hi ≤ l.length ∧ (∀ (i : Nat) (a : KV), i < lo → l[i]? = some a → Op.bytesLess a.1 (s.data.toList) = true) ∧ (∀ (i : Nat) (a : KV), hi ≤ i → l[i]? = some a → Op.bytesLess a.1 (s.data.toList) = false) ∧ Below w.heap.size w wr) (fun i j _ => (intOf j).toNat - (intOf i).toNat)
  case atStart => exact ⟨0, l.length, rfl, rfl, Nat.zero_le _, Nat.le_refl _, fun i a h => absurd h (Nat.not_lt_zero _), fun i a h1 h2 => absurd (List.getElem?_eq_some_iff.1 h2).1 (by omega), Below.refl _ _⟩
  case round =>
    obtain ⟨lo, hi, rfl, rfl, hlh, hhl, hlo, hhi, hB⟩ := hrel
    have HLO := Lib.hid hlo
    have HHI := Lib.hid hhi
    clear hlo hhi
    have hO1 := HO.out.below hB
    have HO1 := Lib.hid hO1
    clear hO1
    by_cases hlt : lo < hi
    · obtain ⟨h, hh⟩ : ∃ h : Nat, h = (lo + hi) / 2 := ⟨_, rfl⟩
      obtain ⟨a, ha⟩ : ∃ a, l[h]? = some a := ⟨_, List.getElem?_eq_getElem (by omega)⟩
      obtain ⟨g, rfl, hBg, hgw, c0, c1⟩ := HO1.out.at ha
      have q1 : ((lo : Int) + (hi : Int)) / 2 = (h : Int) := by omega
      have q2 : (lo + hi) / 2 = h := hh.symm
      have q3 : h < l.length := by omega
      have q4 : lo ≤ h := by omega
      have q5 : h < hi := by omega
      have HA := Lib.hid ha
      clear hh ha
      go_wp2_with fail
      refine (cmpk_any a _ _).mono ?_
      rintro e w2 ⟨rfl, hb2⟩
      have hB2 := hB.trans (hb2.mono hB.size)
      by_cases hc : Op.bytesLess a.1 (s.data.toList) = true
      · have e1 : cmpZ a.1 (s.data.toList) = -1 := by unfold cmpZ; rw [if_pos hc]
        have HN := Lib.hid (show ∀ (i : Nat) (b : KV), i < h + 1 → l[i]? = some b → Op.bytesLess b.1 (s.data.toList) = true from fun i b hi hb => srt_lo ordS HS.out (Nat.le_of_lt_succ hi) hb HA.out hc)
        rw [e1]
        clear e1 hc q1 q2
        go_wp2_with fail
        go_roundw
        case rel => exact ⟨h + 1, hi, by go_num, rfl, by omega, hhl, HN.out, HHI.out, hB2⟩
        case measure => simp [intOf]; omega
      · have hc' : Op.bytesLess a.1 (s.data.toList) = false := by simpa using hc
        obtain ⟨z, hz⟩ : ∃ z, z = cmpZ a.1 (s.data.toList) := ⟨_, rfl⟩
        have z0 : ¬ z < 0 := by rw [hz]; exact fun g => hc (cmp_lt.1 g)
        have HN := Lib.hid (show ∀ (i : Nat) (b : KV), h ≤ i → l[i]? = some b → Op.bytesLess b.1 (s.data.toList) = false from fun i b hi hb => srt_hi ordS HS.out hi HA.out hb hc')
        rw [← hz]
        clear hz hc hc' q1 q2
        go_wp2_with fail
        go_roundw
        case rel => exact ⟨lo, h, rfl, rfl, q4, by omega, HLO.out, HN.out, hB2⟩
        case measure => simp [intOf]; omega
    · obtain rfl : hi = lo := by omega
      have hp := pos_of l (s.data.toList) hi hhl HLO.out HHI.out
      have HP := Lib.hid hp
      by_cases hn : hi < l.length
      · obtain ⟨a, ha⟩ : ∃ a, l[hi]? = some a := ⟨_, List.getElem?_eq_getElem hn⟩
        obtain ⟨g, rfl, hBg, hgw, c0, c1⟩ := HO1.out.at ha
        have hc := HHI.out hi a (Nat.le_refl _) ha
        have HH := Lib.hid (show hitB l (s.data.toList) = decide (a.1 = s.data.toList) by
          unfold hitB hit
          rw [hp, ha]
          dsimp only
          split
          · rename_i e
            simp [e]
          · rename_i e
            simp [e])
        have HE := Lib.hid (cmp_eq hc)
        clear hp ha hc
        go_wp2_with fail
        refine (cmpk_any a _ _).mono ?_
        rintro e w2 ⟨rfl, hb2⟩
        have hB2 := hB.trans (hb2.mono hB.size)
        obtain ⟨z, hz⟩ : ∃ z, z = cmpZ a.1 (s.data.toList) := ⟨_, rfl⟩
        have HZ := Lib.hid (show (z == 0) = hitB l (s.data.toList) by rw [hz, HE.out, HH.out])
        rw [← hz]
        clear hz
        go_wp2_with fail
        go_ret2
        rw [HP.out, ← HZ.out]
        exact ⟨rfl, hB2⟩
      · have HH := Lib.hid (show hitB l (s.data.toList) = false by
          unfold hitB hit
          rw [hp, List.getElem?_eq_none (by omega)]
          rfl)
        clear hp
        go_wp2_with fail
        go_ret2
        rw [HP.out, HH.out]
        exact ⟨rfl, hB⟩
end ShS
end Go.Proofs.YtipcockcndnipaaDoor
