/-
  Walks: Check of both texts.
-/
import Derived.Test.YtbefgplaaghlbaaGreatDoorCodeC
namespace Go.Proofs.YtbefgplaaghlbaaGreatDoor
open Go.RowKit
namespace Cd

theorem bad_hit {c : Int} : ∀ (p : List I) (k : Nat) (x : I), p[k]? = some x → (∀ (j : Nat) (y : I), j < k → p[j]? = some y → right y c = true) → right x c = false → firstBad c p = some k
  | [], k, x, h, _, _ => by simp at h
  | y :: p, 0, x, h, _, hr => by
    simp at h
    subst h
    simp [firstBad, hr]
  | y :: p, k + 1, x, h, ha, hr => by
    have h0 := ha 0 y (by omega) (by simp)
    have ih := bad_hit p k x (by simpa using h) (fun j z hj hz => ha (j + 1) z (by omega) (by simpa using hz)) hr
    simp [firstBad, h0, ih]
theorem bad_none {c : Int} : ∀ (p : List I), (∀ (j : Nat) (y : I), p[j]? = some y → right y c = true) → firstBad c p = none
  | [], _ => rfl
  | y :: p, ha => by
    have h0 := ha 0 y (by simp)
    have ih := bad_none p (fun j z hz => ha (j + 1) z (by simpa using hz))
    simp [firstBad, h0, ih]

/-- the k-th instruction of a row from b, o on -/
structure At3 (W : World) (b o k : Nat) (x : I) : Prop where
  c0 : W.cell? ⟨b, o + k * 3, none⟩ = some (.int .i64 x.op)
  c1 : W.cell? ⟨b, o + k * 3 + 1, none⟩ = some (.int .i64 x.n)
  c2 : W.cell? ⟨b, o + k * 3 + 2, none⟩ = some (.string x.s)
/-- a slice of instructions -/
structure PS (W : World) (v : Value) (p : List I) : Prop where
  small : p.length ≤ 9223372036854775807
  nb : ∀ x ∈ p, -9223372036854775808 ≤ x.n ∧ x.n ≤ 9223372036854775807
  form : ∃ (sl : Option Addr) (cap : Nat), v = .slice sl p.length cap ∧ ∀ k x, p[k]? = some x → ∃ b o, sl = some ⟨b, o, none⟩ ∧ b < W.heap.size ∧ At3 W b o k x
theorem At3.below {W W' : World} {b o k : Nat} {x : I} (ha : b < W.heap.size) (h : At3 W b o k x) (hb : Below W.heap.size W W') : At3 W' b o k x := by
  obtain ⟨hc, _⟩ := bcell hb
  exact ⟨(hc _ _ ha).trans h.c0, (hc _ _ ha).trans h.c1, (hc _ _ ha).trans h.c2⟩
theorem PS.below {W W' : World} {v : Value} {p : List I} (h : PS W v p) (hb : Below W.heap.size W W') : PS W' v p := by
  obtain ⟨sl, cap, hv, hf⟩ := h.form
  exact ⟨h.small, h.nb, sl, cap, hv, fun k x hk => by
    obtain ⟨b, o, e, ha, h3⟩ := hf k x hk
    exact ⟨b, o, e, Nat.lt_of_lt_of_le ha hb.size, h3.below ha hb⟩⟩
theorem PS.alloc {W : World} {v : Value} {p : List I} (h : PS W v p) (o : Obj) : PS (W.alloc o) v p := h.below ((Below.refl _ _).alloc (Nat.le_refl _) o)

set_option maxHeartbeats 400000 in
theorem notright_any (x : I) (p : List I) (v : Value) (bx : Nat) (w : World) (hbx : bx < w.heap.size) (hv : w.cell? ⟨bx, 0, none⟩ = some v) (hP : PS w v p) (hT : Tab w) :
    Calls Tryz.prog 40 #[IV x, .pointer (some ⟨bx, 0, none⟩)] w fun e w' => e = .returned (.bool (!right x p.length)) ∧ Below w.heap.size w w' := by
  obtain ⟨sl, cap, rfl, -⟩ := hP.form
  have hB0 : Below w.heap.size w (w.alloc (.cells #[.int .i64 x.op, .int .i64 x.n, .string x.s] 38)) := (Below.refl _ _).alloc (Nat.le_refl _) _
  have hT0 := hT.below (Nat.le_refl _) hB0
  go_enter Tryz.func40, Tryz.ntmps40
  go_wp2_with fail
  refine (right_any x _ _ hT0).mono ?_
  rintro e w1 ⟨rfl, hb1⟩
  go_wp2
  go_ret
  exact ⟨rfl, hB0.trans (hb1.mono hB0.size)⟩

def fbI (p : List I) : Int := match firstBad p.length p with
  | some i => (i : Int)
  | none => -1
theorem fbI_some {p : List I} {i : Nat} (h : firstBad p.length p = some i) : fbI p = i := by unfold fbI; rw [h]
theorem fbI_none {p : List I} (h : firstBad p.length p = none) : fbI p = -1 := by unfold fbI; rw [h]

set_option maxHeartbeats 400000 in
theorem find_any (p : List I) (v : Value) (bx : Nat) (w : World) (hbx : bx < w.heap.size) (hv : w.cell? ⟨bx, 0, none⟩ = some v) (hP : PS w v p) (hT : Tab w) :
    Calls Tryz.prog 39 #[v, .func (.func 40) #[] #[.pointer (some ⟨bx, 0, none⟩)]] w fun e w' => e = .returned (.int .i64 (fbI p)) ∧ Below w.heap.size w w' := by
  have hP0 := hP
  have hsm := hP.small
  obtain ⟨sl, cap, rfl, hf⟩ := hP.form
  go_enter Tryz.func39, Tryz.ntmps39
  go_wp2_with fail
  go_loopw [8] (fun i wr => ∃ k : Nat, k ≤ p.length ∧ i = .int .i64 k ∧ (∀ j y, j < k → p[j]? = some y → right y p.length = true) ∧ Below w.heap.size w wr) (fun i _ => p.length - (intOf i).toNat)
  case atStart => exact ⟨0, Nat.zero_le _, rfl, by omega, Below.refl _ _⟩
  case round =>
    obtain ⟨k, hk, rfl, hn, hb⟩ := hrel
    by_cases hlt : k < p.length
    · obtain ⟨x, hx⟩ : ∃ x, p[k]? = some x := ⟨p[k], List.getElem?_eq_getElem hlt⟩
      obtain ⟨b, o, rfl, ha, h3⟩ := hf k x hx
      have h3' := h3.below ha hb
      obtain ⟨c0, c1, c2⟩ := h3'
      have HX := Lib.hid hx
      have HN := Lib.hid hn
      have HF := Lib.hid hf
      clear hx hn hf h3
      have hP1 := hP0.below hb
      have hT1 := hT.below (Nat.le_refl _) hb
      have hv1 := ((bcell hb).1 bx 0 hbx).trans hv
      go_wp2_with fail
      refine (notright_any x p _ bx _ (Nat.lt_of_lt_of_le hbx hb.size) hv1 hP1 hT1).mono ?_
      rintro e w2 ⟨rfl, hb2⟩
      by_cases hr : right x p.length = true
      · rw [hr]
        go_wp2
        go_roundw
        case rel => exact ⟨k + 1, by omega, by go_num, fun j y h1 h2 => by
          by_cases h : j < k
          · exact HN.out j y h h2
          · obtain rfl : j = k := by omega
            obtain rfl : x = y := Option.some.inj (HX.out.symm.trans h2)
            exact hr, hb.trans (hb2.mono hb.size)⟩
        case measure => simp [intOf]; omega
      · have hr' : right x p.length = false := by simpa using hr
        have hx := Lib.hid (fbI_some (bad_hit p k x HX.out HN.out hr'))
        rw [hr']
        go_wp2
        go_ret
        exact ⟨ret_int hx.out.symm, hb.trans (hb2.mono hb.size)⟩
    · have hx := Lib.hid (fbI_none (bad_none p (c := p.length) (fun j y hj => hn j y (by
        have := (List.getElem?_eq_some_iff.1 hj).1
        omega) hj)))
      clear hn hf
      go_wp2
      go_ret
      exact ⟨ret_int hx.out.symm, hb⟩

def CKV (p : List I) : Value := .tuple #[.int .i64 (check p).1, .int .i64 (check p).2]
theorem ck_many {p : List I} (h : p.length = 0 ∨ 256 < p.length) : CKV p = .tuple #[.int .i64 0, .int .i64 13] := by unfold CKV check; rw [if_pos h]
theorem ck_bad {p : List I} (h : ¬ (p.length = 0 ∨ 256 < p.length)) {i : Nat} (hb : firstBad p.length p = some i) : CKV p = .tuple #[.int .i64 i, .int .i64 30] := by
  unfold CKV check; rw [if_neg h, hb]
theorem ck_ok {p : List I} (h : ¬ (p.length = 0 ∨ 256 < p.length)) (hb : firstBad p.length p = none) : CKV p = .tuple #[.int .i64 0, .int .i64 0] := by
  unfold CKV check; rw [if_neg h, hb]

set_option maxHeartbeats 400000 in
theorem check_any (p : List I) (v : Value) (w : World) (hP : PS w v p) (hT : Tab w) :
    Calls Tryz.prog 20 #[v] w fun e w' => e = .returned (CKV p) ∧ Below w.heap.size w w' := by
  have hsm := hP.small
  by_cases hl : p.length = 0 ∨ 256 < p.length
  · have hx := Lib.hid (ck_many hl)
    obtain ⟨sl, cap, rfl, -⟩ := hP.form
    by_cases hl0 : p.length = 0
    · rw [hl0]
      go_enter Tryz.func20, Tryz.ntmps20
      go_wp2
      refine bodyPost_ret (v := .tuple #[.int .i64 0, .int .i64 13]) (by simp [results, Tryz.results20, go_sem]) rfl ⟨by rw [hx.out], ?_⟩
      exact (Below.refl _ _).alloc (Nat.le_refl _) _
    · have hl1 : 256 < p.length := by omega
      go_enter Tryz.func20, Tryz.ntmps20
      go_wp2
      refine bodyPost_ret (v := .tuple #[.int .i64 0, .int .i64 13]) (by simp [results, Tryz.results20, go_sem]) rfl ⟨by rw [hx.out], ?_⟩
      exact (Below.refl _ _).alloc (Nat.le_refl _) _
  · have hB0 : Below w.heap.size w (w.alloc (.cells #[v] 22)) := (Below.refl _ _).alloc (Nat.le_refl _) _
    have hT0 := hT.below (Nat.le_refl _) hB0
    have hP0 := hP.below hB0
    have hl0 : ((p.length : Int) == 0) = false := by simp; rintro rfl; simp at hl
    have hl1 : decide ((256 : Int) < p.length) = false := by simp; omega
    have hbad := fun i => ck_bad (i := i) hl
    have hok := ck_ok hl
    have HL := Lib.hid hl
    clear hl
    have hcv : (w.alloc (.cells #[v] 22)).cell? ⟨w.heap.size, 0, none⟩ = some v := by go_simp
    have hfind := find_any p v w.heap.size (w.alloc (.cells #[v] 22)) (by simp) hcv hP0 hT0
    obtain ⟨sl, cap, rfl, -⟩ := hP.form
    clear hcv
    cases hfb : firstBad p.length p with
    | none =>
      have hx := Lib.hid (hok hfb)
      rw [fbI_none hfb] at hfind
      clear hbad hok
      go_enter Tryz.func20, Tryz.ntmps20
      go_wp2_with fail
      refine hfind.mono ?_
      rintro e w1 ⟨rfl, hb1⟩
      go_wp2
      refine bodyPost_ret (v := .tuple #[.int .i64 0, .int .i64 0]) (by simp [results, Tryz.results20, go_sem]) rfl ⟨by rw [hx.out], ?_⟩
      exact hB0.trans (hb1.mono hB0.size)
    | some i =>
      have hx := Lib.hid (hbad i hfb)
      rw [fbI_some hfb] at hfind
      clear hbad hok
      go_enter Tryz.func20, Tryz.ntmps20
      go_wp2_with fail
      refine hfind.mono ?_
      rintro e w1 ⟨rfl, hb1⟩
      go_wp2
      refine bodyPost_ret (v := .tuple #[.int .i64 i, .int .i64 30]) (by simp [results, Tryz.results20, go_sem]) rfl ⟨by rw [hx.out], ?_⟩
      exact hB0.trans (hb1.mono hB0.size)
end Cd
end Go.Proofs.YtbefgplaaghlbaaGreatDoor
