/-
  Law: SpanParses answers true.
-/
import Derived.Test.YtlmmhhkhoaoheaaGreatDoorSgQW
import Derived.Test.YtlmmhhkhoaoheaaGreatDoorSgLT
namespace Go.Proofs.YtlmmhhkhoaoheaaGreatDoor
open Go.RowKit Go.Shelf Go.Lib
namespace Sg

/-- code and range of a text's meaning -/
def QK : Except Int (List G) → Int → List G → Prop
  | .error c0, c, l => c = c0 ∧ l = []
  | .ok g, c, l => ∃ r, Nm r ∧ (∀ n, inR r n ↔ inR g n) ∧ (∀ x ∈ r, Bd x) ∧ c = (if 16 < r.length then 13 else 0) ∧ l = (if 16 < r.length then [] else r)
theorem QK.eq : ∀ {o : Except Int (List G)} {c c' : Int} {l l' : List G}, QK o c l → QK o c' l' → c = c' ∧ l = l'
  | .error c0, _, _, _, _, ⟨rfl, rfl⟩, ⟨rfl, rfl⟩ => ⟨rfl, rfl⟩
  | .ok g, _, _, _, _, ⟨r, h1, h2, _, rfl, rfl⟩, ⟨r', g1, g2, _, rfl, rfl⟩ => by
    have e : r = r' := nm_unique _ _ h1 g1 fun n => (h2 n).trans (g2 n).symm
    subst e
    exact ⟨rfl, rfl⟩
theorem set_err {l : List UInt8} {c : Int} (h : setF l = .error c) : c ≠ 0 := by
  unfold setF at h
  split at h
  · cases h; decide
  · split at h
    · cases h
    · split at h
      · cases h; decide
      · cases h
theorem QK.good {s : List UInt8} {l : List G} (h : QK (setF s) 0 l) : goodB l = true := by
  cases ho : setF s with
  | error c0 =>
    rw [ho] at h
    exact absurd h.1.symm (set_err ho)
  | ok g =>
    rw [ho] at h
    obtain ⟨r, h1, _, h3, h4, h5⟩ := h
    by_cases hr : 16 < r.length
    · rw [if_pos hr] at h4
      cases h4
    · rw [if_neg hr] at h5
      subst h5
      exact good_of h1 (by omega) fun x hx => ⟨(h3 x hx).1.1, (h3 x hx).2.2⟩
theorem PQ.two : ∀ {o : Except Int (List G)} {B : Nat} {e : Ending} {W' : World}, PQ B o e W' → ∃ z c l, e = .returned (.tuple #[z, .int .i64 c]) ∧ GS W' z l ∧ QK o c l
  | .error c0, _, _, W', h => ⟨_, _, [], h, gs_nil W', rfl, rfl⟩
  | .ok g, _, _, W', ⟨r, h⟩ => by
    rcases h.ans with ⟨h1, h2⟩ | ⟨h1, v, h2, h3⟩
    · exact ⟨_, _, [], h2, gs_nil W', r, h.nm, h.mem, h.bd, by rw [if_pos h1], by rw [if_pos h1]⟩
    · exact ⟨_, _, r, h2, h3.gs fun g hg => (h.bd g hg).n64, r, h.nm, h.mem, h.bd, by rw [if_neg h1], by rw [if_neg h1]⟩
theorem parse_qk (s : ByteArray) (W : World) (hs : s.size ≤ 1048576) (hE : Vs.Env W) :
    Calls Tryz.prog 9 #[.string s] W fun e W' => ∃ z c l, e = .returned (.tuple #[z, .int .i64 c]) ∧ GS W' z l ∧ QK (setF s.data.toList) c l ∧ Below W.heap.size W W' :=
  (parse_any s W hs hE).mono fun e W' hq => by
    obtain ⟨h1, hB⟩ := hq
    obtain ⟨z, c, l, h2, h3, h4⟩ := h1.two
    exact ⟨z, c, l, h2, h3, h4, hB⟩
theorem qparse_qk (s : ByteArray) (W : World) (hs : s.size ≤ 1048576) :
    Calls Tryz.prog 10 #[.string s] W fun e W' => ∃ z c l, e = .returned (.tuple #[z, .int .i64 c]) ∧ GS W' z l ∧ QK (setF s.data.toList) c l ∧ Below W.heap.size W W' :=
  (qparse_any s W hs).mono fun e W' hq => by
    obtain ⟨h1, hB⟩ := hq
    obtain ⟨z, c, l, h2, h3, h4⟩ := h1.two
    exact ⟨z, c, l, h2, h3, h4, hB⟩
set_option maxHeartbeats 2000000 in
set_option maxRecDepth 100000 in
theorem parseslaw_any (s : ByteArray) (W : World) (hs : s.size ≤ maxLen) (hE : Vs.Env W) :
    Calls Tryz.prog 3 #[.string s] W fun e W' => e = .returned (.bool true) ∧ Below W.heap.size W W' := by
  unfold maxLen at hs
  have hal := alive_any W hE
  have HE := Lib.hid hE
  clear hE
  by_cases h1 : 4096 < s.size
  · have k1 : (4096 : Int) < s.size := by omega
    clear h1
    go_enter Tryz.func3, Tryz.ntmps3
    go_wp2_with (go_at_call 8; refine hal.mono ?_; rintro e W1 ⟨rfl, hB1⟩)
    go_ret
    exact ⟨rfl, hB1⟩
  have k1 : ¬ (4096 : Int) < s.size := by omega
  have hz : s.size ≤ 1048576 := by omega
  clear h1
  go_enter Tryz.func3, Tryz.ntmps3
  go_wp2_with (first
    | (go_at_call 8; refine hal.mono ?_; rintro e W1 ⟨rfl, hB1⟩; have hp := parse_qk s W1 hz (HE.out.below (Nat.le_refl _) hB1); clear hal)
    | (go_at_call 9; refine hp.mono ?_; rintro e W2 ⟨z, c, l, rfl, hG, hK, hb2⟩; have hB2 := hB1.trans (hb2.mono hB1.size); have hq := qparse_qk s W2 hz; have HG := Lib.hid hG; have HK := Lib.hid hK; clear hp hG hK)
    | (go_at_call 10; refine hq.mono ?_; rintro e W3 ⟨y, d, l', rfl, hG', hK', hb3⟩; have hB3 := hB2.trans (hb3.mono hB2.size); have HE2 := HK.out.eq hK'; have e8 := HE2.1; have e9 := HE2.2; clear HE2 hK'; subst e8 e9; have hsame := rsame_any l z y W3 (HG.out.below hb3) hG'; have HG3 := Lib.hid (HG.out.below hb3); clear hq hG' HG)
    | (go_at_call 11; refine hsame.mono ?_; rintro e W4 ⟨rfl, hb4⟩; have hB4 := hB3.trans (hb4.mono hB3.size); have hgd := good_any l z W4 (HG3.out.below hb4); clear hsame))
  · have hc : c = 0 := by assumption
    have hk := HK.out
    rw [hc] at hk
    rw [hk.good] at hgd
    clear hk
    go_wp2_with (go_at_call 12; refine hgd.mono ?_; rintro e W5 ⟨rfl, hb5⟩; have hB5 := hB4.trans (hb5.mono hB4.size))
    go_ret
    exact ⟨rfl, hB5⟩
  · go_ret
    exact ⟨rfl, hB4⟩
end Sg
end Go.Proofs.YtlmmhhkhoaoheaaGreatDoor
