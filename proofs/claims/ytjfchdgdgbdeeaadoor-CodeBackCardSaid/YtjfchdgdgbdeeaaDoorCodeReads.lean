/-
  The law CodeReads, for every text.
-/
import Derived.Test.YtjfchdgdgbdeeaaDoorCodeRP2
import Derived.Test.YtjfchdgdgbdeeaaDoorCodeRQ
namespace Go.Proofs.YtjfchdgdgbdeeaaDoor
open Go.RowKit
namespace Cd

theorem kids_bad45 {f : List UInt8 → Out} (hf : ∀ l e, f l = .bad e → e = 4 ∨ e = 5) : ∀ (m : Nat) (l : List UInt8) (acc : List T) (u : Nat) (e : Int), kidsP f m l acc u = .bad e → e = 4 ∨ e = 5
  | 0, l, acc, u, e, h => by simp [kidsP] at h; exact .inr h.symm
  | m + 1, [], acc, u, e, h => by simp [kidsP] at h; exact .inr h.symm
  | m + 1, c :: l, acc, u, e, h => by
    rw [kidsP] at h
    by_cases hc : c = 41
    · rw [if_pos hc] at h; cases h
    · rw [if_neg hc] at h
      cases hfl : f (c :: l) with
      | bad g =>
        rw [hfl] at h
        cases h
        exact hf _ _ hfl
      | ok t n =>
        rw [hfl] at h
        exact kids_bad45 hf m _ _ _ _ h
theorem atomO_bad {l : List UInt8} {e : Int} (h : atomO l = .bad e) : e = 5 := by
  unfold atomO at h
  split at h
  · cases h
  · cases h; rfl
theorem tk_bad45 : ∀ (h : Nat) (l : List UInt8) (e : Int), tk h l = .bad e → e = 4 ∨ e = 5 := by
  intro h
  induction h with
  | zero =>
    intro l e he
    cases l with
    | nil => simp [tk] at he; exact .inr he.symm
    | cons c r =>
      simp only [tk] at he
      split at he
      · cases he; exact .inl rfl
      · exact .inr (atomO_bad he)
  | succ h ih =>
    intro l e he
    cases l with
    | nil => simp [tk] at he; exact .inr he.symm
    | cons c r =>
      simp only [tk] at he
      split at he
      · exact kids_bad45 ih _ _ _ _ _ he
      · exact .inr (atomO_bad he)
theorem parse_ne {l : List UInt8} {f : Int} (h : parse l = .bad f) : f ≠ 0 := by
  unfold parse at h
  split at h
  · cases h; decide
  · cases ht : tk 32 l with
    | bad g =>
      rw [ht] at h
      cases h
      rcases tk_bad45 _ _ _ ht with rfl | rfl <;> decide
    | ok t n =>
      rw [ht] at h
      simp only at h
      split at h
      · cases h; decide
      · cases h
theorem dec_fine {l : List UInt8} (h : (dec l).1 = 0) : ∃ t n, parse l = .ok t n ∧ IsP t (dec l).2 := by
  cases hp : parse l with
  | bad f =>
    rw [dec_bad hp] at h
    exact absurd h (parse_ne hp)
  | ok t n =>
    refine ⟨t, n, rfl, ?_⟩
    by_cases hx : ∃ p, IsP t p
    · obtain ⟨p, hx⟩ := hx
      rw [dec_ok hp hx]
      exact hx
    · rw [dec_no hp (fun p h => hx ⟨p, h⟩)] at h
      cases h
/-- what is read is written as it was -/
theorem env_dec {l : List UInt8} (h : (dec l).1 = 0) : ENV (dec l).2 = .tuple #[.string ⟨l.toArray⟩, .int .i64 0] := by
  obtain ⟨t, n, hp, hi⟩ := dec_fine h
  obtain ⟨h1, h2⟩ := parse_enc hp
  rw [ENV_ok hi.chk, hi.tree, h1, EV_ff (by omega)]
theorem dc_ps {W W' : World} {l : List UInt8} {sl : Option Addr} {cap : Nat} (h : W'.ownsRow W.heap.size 31 3 (.slice sl (dec l).2.length cap) (dec l).2.length (rowI (dec l).2)) (hl : (dec l).2.length ≤ 256) (hn : ∀ x ∈ (dec l).2, N64 x) : PS W' (.slice sl (dec l).2.length cap) (dec l).2 :=
  PS.of_own h (by omega) hn

set_option maxHeartbeats 2000000 in
set_option maxRecDepth 100000 in
theorem readslaw_any (s : ByteArray) (W : World) (hE : Env2 W) :
    Calls Tryd.prog 6 #[.string s] W fun e W' => e = .returned (.bool true) ∧ Below W.heap.size W W' := by
  go_enter Tryd.func6, Tryd.ntmps6
  go_wp2_with fail
  refine (alive_any _ hE.env).mono ?_
  rintro e w1 ⟨rfl, hb1⟩
  have hE1 := hE.below hb1
  by_cases hl : 131072 < s.size
  · have j1 : decide ((131072 : Int) < s.size) = true := by simp; omega
    go_wp2_with fail
    go_ret
    exact ⟨rfl, hb1⟩
  · have j1 : decide ((131072 : Int) < s.size) = false := by simp; omega
    go_wp2_with fail
    refine (cdecode_any s w1 hE1).mono ?_
    rintro e w2 ⟨⟨sl, cap, rfl, hown, hl2, hn2⟩, hb2⟩
    have hB2 := hb1.trans (hb2.mono hb1.size)
    have hP2 := dc_ps hown hl2 hn2
    have hE2 := hE1.below hb2
    clear hown
    go_wp2_with fail
    refine (rdecode_any s w2 hE2).mono ?_
    rintro e w3 ⟨⟨sl', cap', rfl, hown, hl3, hn3⟩, hb3⟩
    have hB3 := hB2.trans (hb3.mono hB2.size)
    have hP3 := dc_ps hown hl3 hn3
    have hE3 := hE2.below hb3
    have hP2' := hP2.below hb3
    have HENV := Lib.hid (fun h => env_dec (l := s.data.toList) h)
    clear hown hl2 hn2 hl3 hn3 hP2
    obtain ⟨d, hd⟩ : ∃ d, d = dec s.data.toList := ⟨_, rfl⟩
    rw [← hd] at hP3 hP2' HENV ⊢
    clear hd
    obtain ⟨f, p⟩ := d
    dsimp only at hP3 hP2' HENV ⊢
    have hsm := same8_any p _ _ w3 hP2' hP3
    go_wp2_with fail
    refine hsm.mono ?_
    rintro e w4 ⟨rfl, hb4⟩
    have hB4 := hB3.trans (hb4.mono hB3.size)
    by_cases hf : f = 0
    · subst hf
      have hen := encode_any p _ w4 (hP2'.below hb4) (hE3.below hb4).env
      rw [HENV.out rfl] at hen
      have hs : (⟨s.data.toList.toArray⟩ : ByteArray) = s := by
        apply ByteArray.ext
        simp
      rw [hs] at hen
      clear hsm
      go_wp2_with fail
      refine hen.mono ?_
      rintro e w5 ⟨rfl, hb5⟩
      go_wp2_with fail
      go_ret
      exact ⟨rfl, hB4.trans (hb5.mono hB4.size)⟩
    · have j2 : (f == 0) = false := by rw [beq_eq_false_iff_ne]; exact hf
      have j3 : (f != 0) = true := by rw [bne_iff_ne]; exact hf
      clear hf hsm
      go_wp2_with fail
      go_ret
      exact ⟨rfl, hB4⟩
end Cd
end Go.Proofs.YtjfchdgdgbdeeaaDoor
