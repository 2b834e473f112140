/-
  Walks: the reader's want, name, open.
-/
import Derived.Test.YtcigggffaofkhaaRcI
namespace Go.Proofs.Ytcigggffaofkhaa
open Go.RowKit
namespace Rc

theorem wantT_t {s : List UInt8} {w : List UInt8} {t : Tk} (h : isW t w = true) : wantT s w t = stepT s t := by unfold wantT; rw [if_pos h]
theorem wantT_f {s : List UInt8} {w : List UInt8} {t : Tk} (h : isW t w = false) : wantT s w t = .bad t.pl 50 := by unfold wantT; rw [h]; rfl
set_option maxHeartbeats 1000000 in
theorem want_any (W : World) (b : Nat) (s : ByteArray) (t : Tk) (dp : Int) (w : ByteArray) (h : RK W b s t dp) (hv : TV s t) (hs : s.size ≤ 4096) (hw : w ≠ ⟨#[]⟩) :
    Calls Try.prog 47 #[.pointer (some ⟨b, 0, none⟩), .string w] W fun e W' => PX W b s dp (wantT s.data.toList w.data.toList t) unitE e W' := by
  have his := is_any W b s t dp w h hv hs hw
  cases hz : isW t w.data.toList with
  | true =>
    have HZ := Lib.hid (wantT_t (s := s.data.toList) hz)
    rw [hz] at his
    clear hz
    go_enter Try.func47, Try.ntmps47
    go_wp2_with fail
    refine his.mono ?_
    rintro e w1 ⟨-, hx⟩
    have hx := hx (by first | rfl | trivial)
    cases hr : stepT s.data.toList t with
    | ok u t' =>
      rw [hr] at hx
      obtain ⟨rfl, h1, h2, h3⟩ := hx
      have HR := Lib.hid (HZ.out.trans hr)
      clear hr his
      go_wp2_with fail
      go_end0
      exact px_ok HR.out rfl h1 h2 h3
    | bad p f =>
      rw [hr] at hx
      obtain ⟨rfl, h1, h2⟩ := hx
      have HR := Lib.hid (HZ.out.trans hr)
      clear hr his
      refine ⟨rfl, ?_⟩
      exact px_bad HR.out ⟨rfl, h1, h2⟩
  | false =>
    have HZ := Lib.hid (wantT_f (s := s.data.toList) hz)
    rw [hz] at his
    clear hz
    obtain ⟨lt, c0, c1, c2, c3, c4, c5, fz⟩ := id h
    go_enter Try.func47, Try.ntmps47
    go_wp2_with fail
    refine his.mono ?_
    rintro e w1 ⟨hx, -⟩
    obtain ⟨rfl, rfl⟩ := hx (by first | rfl | trivial)
    clear his
    go_wp2_with fail
    refine (fail_any t.pl 50 _).mono ?_
    rintro e w9 ⟨rfl, rfl⟩
    refine ⟨rfl, ?_⟩
    exact px_bad HZ.out ⟨rfl, ⟨_, _, _, _, _, h⟩, Fq.refl _ _⟩
/-- a name that must stand next -/
def nameT (s : List UInt8) (t : Tk) : Res ByteArray := if (t.kind == 1 && nameL t.s.data.toList) = true then (stepT s t).bind fun _ t1 => .ok t.s t1 else .bad t.pl 50
theorem sign_no {c : UInt8} (h : sign c = true) : nameL [c] = false := by
  simp only [sign, Bool.or_eq_true, beq_iff_eq] at h
  rcases h with ((rfl | rfl) | rfl) | rfl <;> decide
theorem name_kind {s : ByteArray} {t : Tk} (hv : TV s t) (h3 : t.kind ≠ 3) (hn : nameL t.s.data.toList = true) : t.kind = 1 := by
  have hk := hv.kind
  by_cases h0 : t.kind = 0
  · rw [hv.none h0] at hn
    cases hn
  · by_cases h2 : t.kind = 2
    · obtain ⟨c, hc, he⟩ := hv.sgn h2
      rw [he] at hn
      have := sign_no hc
      rw [show (⟨#[c]⟩ : ByteArray).data.toList = [c] from rfl, this] at hn
      cases hn
    · omega
theorem nameT_text {s : List UInt8} {t : Tk} (h : t.kind = 3) : nameT s t = .bad t.pl 50 := by simp [nameT, h]
theorem nameT_no {s : List UInt8} {t : Tk} (h : nameL t.s.data.toList = false) : nameT s t = .bad t.pl 50 := by simp [nameT, h]
theorem nameT_yes {s : List UInt8} {t : Tk} (hk : t.kind = 1) (h : nameL t.s.data.toList = true) : nameT s t = (stepT s t).bind fun _ t1 => .ok t.s t1 := by simp [nameT, hk, h]
set_option maxHeartbeats 1000000 in
theorem rname_any (W : World) (b : Nat) (s : ByteArray) (t : Tk) (dp : Int) (h : RK W b s t dp) (hv : TV s t) (hs : s.size ≤ 4096) :
    Calls Try.prog 63 #[.pointer (some ⟨b, 0, none⟩)] W fun e W' => PX W b s dp (nameT s.data.toList t) (fun x e _ => e = .returned (.string x)) e W' := by
  have hnm := name_any t.s W
  obtain ⟨lt, c0, c1, c2, c3, c4, c5, fz⟩ := id h
  by_cases hk : t.kind = 3
  · have HZ := Lib.hid (nameT_text (s := s.data.toList) hk)
    have t3 : (t.kind == 3) = true := by rw [beq_iff_eq]; exact hk
    rw [t3] at c2
    clear hk t3 hnm
    go_enter Try.func63, Try.ntmps63
    go_wp2_with fail
    refine (fail_any t.pl 50 _).mono ?_
    rintro e w9 ⟨rfl, rfl⟩
    refine ⟨rfl, ?_⟩
    exact px_bad HZ.out ⟨rfl, ⟨_, _, _, _, _, h⟩, Fq.refl _ _⟩
  · have t3 : (t.kind == 3) = false := by rw [beq_eq_false_iff_ne]; exact hk
    rw [t3] at c2
    cases hn : nameL t.s.data.toList with
    | false =>
      have HZ := Lib.hid (nameT_no (s := s.data.toList) hn)
      rw [hn] at hnm
      clear hk t3 hn
      go_enter Try.func63, Try.ntmps63
      go_wp2_with fail
      refine hnm.mono ?_
      rintro e w1 ⟨rfl, hb1⟩
      have h1 := h.keep hb1
      have f1 := (Fq.refl W b).step lt hb1
      clear hnm c0 c1 c2 c3 c4 c5 fz
      obtain ⟨lt1, c0, c1, c2, c3, c4, c5, fz⟩ := id h1
      go_wp2_with fail
      refine (fail_any t.pl 50 _).mono ?_
      rintro e w9 ⟨rfl, rfl⟩
      refine ⟨rfl, ?_⟩
      exact px_bad HZ.out ⟨rfl, ⟨_, _, _, _, _, h1⟩, f1⟩
    | true =>
      have HZ := Lib.hid (nameT_yes (s := s.data.toList) (name_kind hv hk hn) hn)
      rw [hn] at hnm
      clear hk t3 hn
      go_enter Try.func63, Try.ntmps63
      go_wp2_with fail
      refine hnm.mono ?_
      rintro e w1 ⟨rfl, hb1⟩
      have h1 := h.keep hb1
      have f1 := (Fq.refl W b).step lt hb1
      have hst := step_any w1 b s t dp h1 hv hs
      clear hnm c0 c1 c2 c3 c4 c5 fz
      go_wp2_with fail
      refine hst.mono ?_
      intro e w2 hx
      cases hr : stepT s.data.toList t with
      | ok u t' =>
        rw [hr] at hx
        obtain ⟨rfl, g1, g2, g3⟩ := hx
        have HR := Lib.hid (show nameT s.data.toList t = .ok t.s t' by rw [HZ.out, hr]; rfl)
        clear hr hst
        go_wp2_with fail
        go_ret
        exact px_ok HR.out rfl g1 (f1.trans g2) g3
      | bad p f =>
        rw [hr] at hx
        obtain ⟨rfl, g1, g2⟩ := hx
        have HR := Lib.hid (show nameT s.data.toList t = .bad p f by rw [HZ.out, hr]; rfl)
        clear hr hst
        refine ⟨rfl, ?_⟩
        exact px_bad HR.out ⟨rfl, g1, f1.trans g2⟩
set_option maxHeartbeats 1000000 in
theorem open_any (W : World) (b : Nat) (s : ByteArray) (t : Tk) (dp : Int) (p : Nat) (h : RK W b s t dp) (h0 : 0 ≤ dp) (h1 : dp ≤ 32) :
    Calls Try.prog 61 #[.pointer (some ⟨b, 0, none⟩), .int .i64 p] W fun e W' => (dp = 32 → e = .panicked (stopC p 4) ∧ W' = W) ∧ (dp ≠ 32 → e = .returned (.tuple #[]) ∧ W' = W.setCell ⟨b, 5, none⟩ (.int .i64 (dp + 1))) := by
  obtain ⟨lt, c0, c1, c2, c3, c4, c5, fz⟩ := id h
  by_cases hd : dp = 32
  · have j1 : (dp == 32) = true := by rw [beq_iff_eq]; exact hd
    go_enter Try.func61, Try.ntmps61
    go_wp2_with fail
    refine (fail_any p 4 _).mono ?_
    rintro e w9 ⟨rfl, rfl⟩
    refine ⟨rfl, ?_⟩
    exact ⟨fun _ => ⟨rfl, rfl⟩, fun h => absurd hd h⟩
  · have j1 : (dp == 32) = false := by rw [beq_eq_false_iff_ne]; exact hd
    have k1 : IntKind.i64.wrap (dp + 1) = dp + 1 := IntWalk.i64_in _ (by omega)
    have HD := Lib.hid hd
    clear hd
    go_enter Try.func61, Try.ntmps61
    go_wp2_with fail
    go_end0
    exact ⟨fun h => absurd h HD.out, fun _ => ⟨rfl, rfl⟩⟩
end Rc
end Go.Proofs.Ytcigggffaofkhaa
