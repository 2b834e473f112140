/-
  Walk: the reader's expr.
-/
import Derived.Test.YtcigggffaofkhaaRcE
namespace Go.Proofs.Ytcigggffaofkhaa
open Go.RowKit
namespace Rc

theorem ret_res {α : Type} {W : World} {b : Nat} {s : ByteArray} {dp : Int} {r : Res α} {val : α → Ending → World → Prop} {v v' : Value} {W' : World} (h : v = v') (g : PX W b s dp r val (.returned v') W') : PX W b s dp r val (.returned v) W' := by rw [h]; exact g
set_option maxHeartbeats 4000000 in
set_option maxRecDepth 100000 in
theorem expr_any (s : ByteArray) (hs : s.size ≤ 4096) (dp : Int) (f : Tk → Res E) (hp : Pg f) (hf : TermC s dp f) (W : World) (b : Nat) (t : Tk) (hk : RK W b s t dp) (hv : TV s t) :
    Calls Try.prog 48 #[.pointer (some ⟨b, 0, none⟩)] W fun e W' => PX W b s dp (exprP s.data.toList f t) (valE W) e W' := by
  obtain ⟨i0, hi0, hz0, hz1, hz2⟩ := info_parts info_x
  have hA : Below W.heap.size W (W.alloc (.cells zeroX 26)) := (Below.refl _ _).alloc (Nat.le_refl _) _
  have hFA : Fq W (W.alloc (.cells zeroX 26)) b := Fq.of_below hA (Nat.le_of_lt hk.lt)
  have hterm := hf _ b t (hk.keep hA) hv
  have hlt := hk.lt
  have hzz := Lib.size_eq s
  clear hk hA
  go_enter Try.func48, Try.ntmps48
  go_wp2_with fail
  refine hterm.mono ?_
  intro e w1 hx
  cases hr : f t with
  | bad p q =>
    rw [hr] at hx
    obtain ⟨rfl, ⟨m', tx, ts, tp, dp', hR⟩, hF⟩ := hx
    have HR := Lib.hid (expr_bad1 (s := s.data.toList) hr)
    clear hterm hr
    refine ⟨rfl, ?_⟩
    exact px_bad HR.out ⟨rfl, ⟨_, _, _, _, _, hR⟩, hFA.trans hF⟩
  | ok x t1 =>
    rw [hr] at hx
    obtain ⟨⟨k, σ, sl, n, cap, rfl, hrep⟩, hk1, hF1, hv1⟩ := hx
    have hL := LX.start (f := f) hlt hF1 hrep hk1 hv1
    have HB := Lib.hid (show ∀ p e, sumP s.data.toList f (s.size + 1) t1 [] = .bad p e → exprP s.data.toList f t = .bad p e from fun p e h => expr_bad2 hr (by rw [← hzz]; exact h))
    have HO := Lib.hid (show ∀ l t2, sumP s.data.toList f (s.size + 1) t1 [] = .ok l t2 → exprP s.data.toList f t = .ok (catE x l) t2 from fun l t2 h => expr_ok hr (by rw [← hzz]; exact h))
    generalize sumP s.data.toList f (s.size + 1) t1 [] = R at hL HB HO
    have HL := Lib.hid hL
    clear hterm hr hrep hk1 hF1 hv1 hL hFA
    go_wp2_with fail
    go_loopw [3] (fun kv wr => ∃ (v : Value) (acc : List E) (qs : List Q3) (t : Tk) (m : Nat), v = kv ∧ LX W wr b s dp f v x acc qs t m R) (fun _ wr => mz s b wr)
    case atStart => exact ⟨_, [], _, t1, _, rfl, HL.out⟩
    case round =>
      obtain ⟨v, acc, qs, t, m, rfl, L⟩ := hrel
      clear HL
      have his := is_any wr b s t dp ⟨#[43]⟩ L.rk L.tv hs (ne_nil (c := 43) (l := []))
      have hfu := L.fuel
      have HL := Lib.hid L
      cases hz : isW t [43] with
      | false =>
        rw [show isW t (⟨#[43]⟩ : ByteArray).data.toList = false from hz] at his
        have HR := Lib.hid (show R = .ok acc t by
          rw [← L.eq]
          obtain ⟨m', rfl⟩ : ∃ m', m = m' + 1 := ⟨m - 1, by omega⟩
          exact sum_stop hz)
        have bx := L.bx
        have q0 : wr.cell? ⟨W.heap.size, 0, none⟩ = some (.int .i64 0) := by simp [World.cell?, bx]
        have q1 : wr.cell? ⟨W.heap.size, 1, none⟩ = some (.string ⟨#[]⟩) := by simp [World.cell?, bx]
        have q2 : wr.cell? ⟨W.heap.size, 2, none⟩ = some (.slice none 0 0) := by simp [World.cell?, bx]
        have qf : ∀ j, wr.frozen? ⟨W.heap.size, j, none⟩ = false := fun j => by simp [World.frozen?, bx]
        clear hz L bx
        by_cases h0 : acc = []
        · obtain ⟨g, cap, k, σ, sl, n, c, rfl, c0, c1, c2, hcap, g1, g2, g3⟩ := HL.out.done1 hlt h0
          have H0 := Lib.hid h0
          clear h0
          go_wp2_with fail
          refine his.mono ?_
          rintro e w2 ⟨hx, -⟩
          obtain ⟨rfl, rfl⟩ := hx (by first | rfl | trivial)
          clear his hx
          go_wp2_with fail
          refine bodyPost_ret (v := .agg #[.int .i64 k, .string σ, .slice sl n c]) (by simp [results, Try.results48, go_sem, q0, q1, q2]) rfl ?_
          exact px_ok (HO.out _ _ HR.out) g1 g2 g3 HL.out.tv
        · obtain ⟨sl, cap, rfl, g1, g2, g3⟩ := HL.out.done2 hlt h0
          have j1 : (((acc.length + 1 : Nat) : Int) == 1) = false := by
            have : acc.length ≠ 0 := fun e => h0 (List.length_eq_zero_iff.1 e)
            simp; omega
          have H0 := Lib.hid h0
          clear h0
          go_wp2_with fail
          refine his.mono ?_
          rintro e w2 ⟨hx, -⟩
          obtain ⟨rfl, rfl⟩ := hx (by first | rfl | trivial)
          clear his hx
          go_wp2_with fail
          refine bodyPost_ret (v := .agg #[.int .i64 3, .string ⟨#[]⟩, .slice sl (acc.length + 1) cap]) (by simp [results, Try.results48, go_sem, q0, q1, q2]) rfl ?_
          exact px_ok (HO.out _ _ HR.out) g1 g2 g3 HL.out.tv
      | true =>
        rw [show isW t (⟨#[43]⟩ : ByteArray).data.toList = true from hz] at his
        have HZ := Lib.hid hz
        clear hz
        go_wp2_with fail
        refine his.mono ?_
        rintro e w2 ⟨-, hx⟩
        have hx := hx (by first | rfl | trivial)
        clear his
        cases h1 : stepT s.data.toList t with
        | bad p q =>
          rw [h1] at hx
          obtain ⟨rfl, ⟨m', tx, ts, tp, dp', hR⟩, hF⟩ := hx
          have HR := Lib.hid (show R = .bad p q by
            rw [← L.eq]
            obtain ⟨m', rfl⟩ : ∃ m', m = m' + 1 := ⟨m - 1, by omega⟩
            rw [sum_step HZ.out, h1]
            rfl)
          clear h1 L
          refine ⟨rfl, ?_⟩
          exact px_bad (HB.out _ _ HR.out) ⟨rfl, ⟨_, _, _, _, _, hR⟩, HL.out.fq.trans hF⟩
        | ok u t1 =>
          rw [h1] at hx
          obtain ⟨rfl, hk1, hF1, hv1⟩ := hx
          have H1 := Lib.hid h1
          have hterm := hf _ b t1 hk1 hv1
          clear h1
          go_wp2_with fail
          refine hterm.mono ?_
          intro e w3 hx
          cases h2 : f t1 with
          | bad p q =>
            rw [h2] at hx
            obtain ⟨rfl, ⟨m', tx, ts, tp, dp', hR⟩, hF⟩ := hx
            have HR := Lib.hid (show R = .bad p q by
              rw [← L.eq]
              obtain ⟨m', rfl⟩ : ∃ m', m = m' + 1 := ⟨m - 1, by omega⟩
              rw [sum_step HZ.out, H1.out]
              show (f t1).bind _ = _
              rw [h2]
              rfl)
            clear h2 L hterm
            refine ⟨rfl, ?_⟩
            exact px_bad (HB.out _ _ HR.out) ⟨rfl, ⟨_, _, _, _, _, hR⟩, (HL.out.fq.trans hF1).trans hF⟩
          | ok y t2 =>
            rw [h2] at hx
            obtain ⟨⟨k, σ, sl, n, cap, rfl, hrep⟩, hk2, hF2, hv2⟩ := hx
            have H2 := Lib.hid h2
            have hown := own_alloc L.kx.own (show b < W.heap.size + 1 by omega) (hF1.trans hF2) (.cells #[.int .i64 k, .string σ, .slice sl n cap] 26)
            have hsz : W.heap.size + 1 ≤ (w3.alloc (.cells #[.int .i64 k, .string σ, .slice sl n cap] 26)).heap.size := by
              have a1 := HL.out.fq.below.size
              have a2 := hF1.below.size
              have a3 := hF2.below.size
              simp; omega
            have hfew : acc.length ≤ 4096 := by
              have := L.few
              have := L.tv.fin
              omega
            clear h2 hterm L
            go_wp2_with (first
              | (at_builtin; refine wpList_append_lies _ rfl _ _ 24 rfl (W.heap.size + 1) 26 i0 _ 3 48 Try.underlying24 hi0 hz0 hz1 hz2 rfl (by decide) v (x :: acc).length _ rfl hown ⟨w3.heap.size, 0, none⟩ 1 1 [.int .i64 k, .string σ, .slice sl n cap] rfl rfl (lit3 _ _ _ _ _) (one3 ⟨rfl, rfl, rfl⟩) (by decide) ?c3 ?c4 ?c5 (w3.heap.size + 1) (by simp) ?_))
            case c3 => unfold maxLen; simp; omega
            case c4 => simp; omega
            case c5 => exact hsz
            intro g cap w4 hown2 hgr hat hlt2
            have hN := HL.out.next hlt hp HZ.out H1.out H2.out hv2 hF1 hrep hk2 hF2 hown2 hgr hat
            have HN := Lib.hid hN
            have HMO := Lib.hid (mz_of HL.out.rk)
            have HMZ := Lib.hid (mz_of hN.1.rk)
            clear hN hown2 hgr hat hlt2 hown hrep hk2 hF2 hv2 hk1 hF1 hv1
            go_wp2_with fail
            go_roundw
            case rel => exact ⟨_, _, _, _, _, rfl, HN.out.1⟩
            case measure =>
              show mz s b _ < mz s b _
              rw [HMZ.out, HMO.out]
              have := HN.out.2
              have := HN.out.1.tv.fin
              omega
end Rc
end Go.Proofs.Ytcigggffaofkhaa
