/-
  Walk: the reference's Check.
-/
import Derived.Test.YtbefgplaaghlbaaGreatDoorCodeD
namespace Go.Proofs.YtbefgplaaghlbaaGreatDoor
open Go.RowKit
namespace Cd

theorem rel_next {p : List I} {k : Nat} {x : I} (hx : p[k]? = some x) (hn : ∀ (j : Nat) (y : I), j < k → p[j]? = some y → right y p.length = true) (hr : right x p.length = true) :
    ∀ (j : Nat) (y : I), j < k + 1 → p[j]? = some y → right y p.length = true := fun j y h1 h2 => by
  by_cases h : j < k
  · exact hn j y h h2
  · obtain rfl : j = k := by omega
    obtain rfl : x = y := Option.some.inj (hx.symm.trans h2)
    exact hr

set_option maxHeartbeats 2000000 in
set_option maxRecDepth 100000 in
theorem checkr_any (p : List I) (v : Value) (w : World) (hP : PS w v p) :
    Calls Tryz.prog 32 #[v] w fun e w' => e = .returned (CKV p) ∧ Below w.heap.size w w' := by
  have hsm := hP.small
  by_cases hl : p.length = 0 ∨ 256 < p.length
  · have hx := Lib.hid (ck_many hl)
    obtain ⟨sl, cap, rfl, -⟩ := hP.form
    by_cases hl0 : p.length = 0
    · rw [hl0]
      go_enter Tryz.func32, Tryz.ntmps32
      go_wp2
      refine bodyPost_ret (v := .tuple #[.int .i64 0, .int .i64 13]) (by simp [results, Tryz.results32, go_sem]) rfl ⟨by rw [hx.out], ?_⟩
      exact Below.refl _ _
    · have hl1 : 256 < p.length := by omega
      go_enter Tryz.func32, Tryz.ntmps32
      go_wp2
      refine bodyPost_ret (v := .tuple #[.int .i64 0, .int .i64 13]) (by simp [results, Tryz.results32, go_sem]) rfl ⟨by rw [hx.out], ?_⟩
      exact Below.refl _ _
  · have hP0 := hP
    have hl0 : ((p.length : Int) == 0) = false := by simp; rintro rfl; simp at hl
    have hl1 : decide ((256 : Int) < p.length) = false := by simp; omega
    have hl2 : decide ((p.length : Int) < 1) = false := by simp; omega
    have hbad := fun i => ck_bad (i := i) hl
    have hok := Lib.hid (ck_ok hl)
    have HB := Lib.hid hbad
    have HL := Lib.hid hl
    clear hl hbad
    obtain ⟨sl, cap, rfl, hf⟩ := hP.form
    go_enter Tryz.func32, Tryz.ntmps32
    go_wp2_with fail
    go_loopw [18] (fun i wr => ∃ k : Nat, k ≤ p.length ∧ i = .int .i64 k ∧ (∀ (j : Nat) (y : I), j < k → p[j]? = some y → right y p.length = true) ∧ Below w.heap.size w wr) (fun i _ => p.length - (intOf i).toNat)
    case atStart => exact ⟨0, Nat.zero_le _, rfl, by omega, Below.refl _ _⟩
    case round =>
      obtain ⟨k, hk, rfl, hn, hb⟩ := hrel
      by_cases hlt : k < p.length
      · obtain ⟨x, hx⟩ : ∃ x, p[k]? = some x := ⟨p[k], List.getElem?_eq_getElem hlt⟩
        obtain ⟨b, o, rfl, ha, h3⟩ := hf k x hx
        obtain ⟨c0, c1, c2⟩ := h3.below ha hb
        have HX := Lib.hid hx
        have HN := Lib.hid hn
        have HF := Lib.hid hf
        clear hx hn hf h3
        have hC := CI.new wr x
        have hB0 : Below w.heap.size w (wr.alloc (.cells #[.int .i64 x.op, .int .i64 x.n, .string x.s] 38)) := hb.alloc hb.size _
        go_wp2_with fail
        refine (takesr_any _ _).mono ?_
        rintro e w1 ⟨rfl, hb1⟩
        have hC1 := hC.below hb1
        have hB1 := hB0.trans (hb1.mono hB0.size)
        have hd0 := hC1.c0
        clear c0 c1 c2
        go_wp2_with fail
        refine (wordr_any _ _).mono ?_
        rintro e w2 ⟨rfl, hb2⟩
        have hC2 := hC1.below hb2
        have hB2 := hB1.trans (hb2.mono hB1.size)
        have he0 := hC2.c0
        have he1 := hC2.c1
        have he2 := hC2.c2
        clear hC hC1 hB0 hB1 hd0 hb1 hb2
        by_cases hw : wordB x.op = ⟨#[]⟩
        · have hxx := Lib.hid (right_w (c := p.length) hw)
          rw [hw]
          go_wp2
          all_goals first
            | (refine bodyPost_ret (v := .tuple #[.int .i64 k, .int .i64 30]) (by simp [results, Tryz.results32, go_sem]) rfl ⟨?_, hB2⟩
               exact congrArg _ (HB.out k (bad_hit p k x HX.out HN.out (hxx.out.trans (by first | rfl | (simp [*]; done) | (simp; omega) | (simp [*]; omega))))).symm)
            | (go_roundw
               case rel => exact ⟨k + 1, by omega, by go_num, rel_next HX.out HN.out (hxx.out.trans (by first | rfl | (simp [*]; done) | (simp; omega) | (simp [*]; omega))), hB2⟩
               case measure => simp [intOf]; omega)
        · have hw1 := emp_ff hw
          by_cases ht2 : takes x.op = 2
          · have hxx := Lib.hid (right_2 (c := p.length) hw ht2)
            rw [ht2]
            go_wp2
            all_goals first
              | (refine bodyPost_ret (v := .tuple #[.int .i64 k, .int .i64 30]) (by simp [results, Tryz.results32, go_sem]) rfl ⟨?_, hB2⟩
                 exact congrArg _ (HB.out k (bad_hit p k x HX.out HN.out (hxx.out.trans (by first | rfl | (simp [*]; done) | (simp; omega) | (simp [*]; omega))))).symm)
              | (go_roundw
                 case rel => exact ⟨k + 1, by omega, by go_num, rel_next HX.out HN.out (hxx.out.trans (by first | rfl | (simp [*]; done) | (simp; omega) | (simp [*]; omega))), hB2⟩
                 case measure => simp [intOf]; omega)
          · by_cases hs : x.s = ⟨#[]⟩
            · have hs1 := emp_tt hs
              have hs2 : x.s.size = 0 := by rw [hs]; rfl
              rcases takes_5 x.op with ht | ht | ht | ht | ht
              · have hxx := Lib.hid (right_0 (c := p.length) hw ht hs)
                rw [ht]
                go_wp2
                all_goals first
                  | (refine bodyPost_ret (v := .tuple #[.int .i64 k, .int .i64 30]) (by simp [results, Tryz.results32, go_sem]) rfl ⟨?_, hB2⟩
                     exact congrArg _ (HB.out k (bad_hit p k x HX.out HN.out (hxx.out.trans (by first | rfl | (simp [*]; done) | (simp; omega) | (simp [*]; omega))))).symm)
                  | (go_roundw
                     case rel => exact ⟨k + 1, by omega, by go_num, rel_next HX.out HN.out (hxx.out.trans (by first | rfl | (simp [*]; done) | (simp; omega) | (simp [*]; omega))), hB2⟩
                     case measure => simp [intOf]; omega)
              · have hxx := Lib.hid (right_1 (c := p.length) hw ht hs)
                rw [ht]
                go_wp2
                go_roundw
                case rel => exact ⟨k + 1, by omega, by go_num, rel_next HX.out HN.out hxx.out, hB2⟩
                case measure => simp [intOf]; omega
              · exact absurd ht ht2
              · have hxx := Lib.hid (right_3 (c := p.length) hw ht hs)
                rw [ht]
                go_wp2
                all_goals first
                  | (refine bodyPost_ret (v := .tuple #[.int .i64 k, .int .i64 30]) (by simp [results, Tryz.results32, go_sem]) rfl ⟨?_, hB2⟩
                     exact congrArg _ (HB.out k (bad_hit p k x HX.out HN.out (hxx.out.trans (by first | rfl | (simp [*]; done) | (simp; omega) | (simp [*]; omega))))).symm)
                  | (go_roundw
                     case rel => exact ⟨k + 1, by omega, by go_num, rel_next HX.out HN.out (hxx.out.trans (by first | rfl | (simp [*]; done) | (simp; omega) | (simp [*]; omega))), hB2⟩
                     case measure => simp [intOf]; omega)
              · have hxx := Lib.hid (right_4 (c := p.length) hw ht hs)
                rw [ht]
                go_wp2
                all_goals first
                  | (refine bodyPost_ret (v := .tuple #[.int .i64 k, .int .i64 30]) (by simp [results, Tryz.results32, go_sem]) rfl ⟨?_, hB2⟩
                     exact congrArg _ (HB.out k (bad_hit p k x HX.out HN.out (hxx.out.trans (by first | rfl | (simp [*]; done) | (simp; omega) | (simp [*]; omega))))).symm)
                  | (go_roundw
                     case rel => exact ⟨k + 1, by omega, by go_num, rel_next HX.out HN.out (hxx.out.trans (by first | rfl | (simp [*]; done) | (simp; omega) | (simp [*]; omega))), hB2⟩
                     case measure => simp [intOf]; omega)
            · have hs1 := emp_ff hs
              have hxx := Lib.hid (right_s (c := p.length) ht2 hs)
              have ht3 : (takes x.op == 2) = false := by simpa using ht2
              go_wp2
              all_goals first
                | (refine bodyPost_ret (v := .tuple #[.int .i64 k, .int .i64 30]) (by simp [results, Tryz.results32, go_sem]) rfl ⟨?_, hB2⟩
                   exact congrArg _ (HB.out k (bad_hit p k x HX.out HN.out (hxx.out.trans (by first | rfl | (simp [*]; done) | (simp; omega) | (simp [*]; omega))))).symm)
                | (go_roundw
                   case rel => exact ⟨k + 1, by omega, by go_num, rel_next HX.out HN.out (hxx.out.trans (by first | rfl | (simp [*]; done) | (simp; omega) | (simp [*]; omega))), hB2⟩
                   case measure => simp [intOf]; omega)
      · have hx := Lib.hid (bad_none p (c := p.length) (fun j y hj => hn j y (by
          have := (List.getElem?_eq_some_iff.1 hj).1
          omega) hj))
        clear hn hf
        go_wp2
        refine bodyPost_ret (v := .tuple #[.int .i64 0, .int .i64 0]) (by simp [results, Tryz.results32, go_sem]) rfl ⟨by rw [hok.out hx.out], hb⟩
end Cd
end Go.Proofs.YtbefgplaaghlbaaGreatDoor
