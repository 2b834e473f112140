/-
  The law CodeAlone.
-/
import Derived.Test.YtjfchdgdgbdeeaaDoorCodeAloneB
import Derived.Deep.AppendLies
namespace Go.Proofs.YtjfchdgdgbdeeaaDoor
open Go.RowKit
namespace Cd

theorem mem_bound {p : List I} {y : I} (h : y ∈ p) : ∃ k : Nat, p[k]? = some y := List.mem_iff_getElem?.1 h

set_option maxHeartbeats 4000000 in
set_option maxRecDepth 100000 in
theorem alonelaw_any (x : I) (p : List I) (v : Value) (at_ : Int) (W : World) (hP : PS W v p) (hPC : ∀ sl cap, v = .slice sl p.length cap → p.length ≤ cap ∧ (sl = none → cap = 0)) (hxn : -9223372036854775808 ≤ x.n ∧ x.n ≤ 9223372036854775807) (hE : Env W) :
    Calls Tryd.prog 4 #[IV x, v, .int .i64 at_] W fun e W' => e = .returned (.bool true) ∧ Below W.heap.size W W' := by
  have hC0 := CI.new W x
  have hB0 := (Below.refl W.heap.size W).alloc (Nat.le_refl _) (.cells #[.int .i64 x.op, .int .i64 x.n, .string x.s] 31)
  have hE0 := hE.below hB0
  have hP0 := hP
  obtain ⟨sl, cap, rfl, hf⟩ := hP.form
  have HF := Lib.hid hf
  have hPC' := Lib.hid (hPC _ _ rfl)
  clear hf hP hPC
  by_cases h1 : 4096 < x.s.size
  · have q1 : decide ((4096 : Int) < x.s.size) = true := by simp; omega
    go_enter Tryd.func4, Tryd.ntmps4
    go_wp2_with fail
    refine (alive_any _ hE0).mono ?_
    rintro e w1 ⟨rfl, hb1⟩
    have hB1 := hB0.trans (hb1.mono hB0.size)
    have hC1 := hC0.below hb1
    have hgr := great_any p _ w1 (hP0.below hB1)
    have hx0 := hC1.c0
    have hx2 := hC1.c2
    go_wp2_with fail
    refine hgr.mono ?_
    rintro e w2 ⟨g, rfl, hb2⟩
    have hB2 := hB1.trans (hb2.mono hB1.size)
    have hC2 := hC1.below hb2
    clear hgr hx0 hx2
    have hx0 := hC2.c0
    have hx2 := hC2.c2
    cases g
    case true =>
      go_wp2
      go_ret
      exact ⟨rfl, hB2⟩
    case false =>
      go_wp2
      go_ret
      exact ⟨rfl, hB2⟩
  · have q1 : decide ((4096 : Int) < x.s.size) = false := by simp; omega
    by_cases h2 : at_ < 0
    · have q2 : decide (at_ < 0) = true := by simpa using h2
      go_enter Tryd.func4, Tryd.ntmps4
      go_wp2_with fail
      refine (alive_any _ hE0).mono ?_
      rintro e w1 ⟨rfl, hb1⟩
      have hB1 := hB0.trans (hb1.mono hB0.size)
      have hC1 := hC0.below hb1
      have hgr := great_any p _ w1 (hP0.below hB1)
      have hx0 := hC1.c0
      have hx2 := hC1.c2
      go_wp2_with fail
      refine hgr.mono ?_
      rintro e w2 ⟨g, rfl, hb2⟩
      have hB2 := hB1.trans (hb2.mono hB1.size)
      have hC2 := hC1.below hb2
      clear hgr hx0 hx2
      have hx0 := hC2.c0
      have hx2 := hC2.c2
      cases g
      case true =>
        go_wp2
        go_ret
        exact ⟨rfl, hB2⟩
      case false =>
        go_wp2
        go_ret
        exact ⟨rfl, hB2⟩
    · have q2 : decide (at_ < 0) = false := by simpa using h2
      by_cases h3 : (p.length : Int) < at_
      · have q3 : decide ((p.length : Int) < at_) = true := by simpa using h3
        go_enter Tryd.func4, Tryd.ntmps4
        go_wp2_with fail
        refine (alive_any _ hE0).mono ?_
        rintro e w1 ⟨rfl, hb1⟩
        have hB1 := hB0.trans (hb1.mono hB0.size)
        have hC1 := hC0.below hb1
        have hgr := great_any p _ w1 (hP0.below hB1)
        have hx0 := hC1.c0
        have hx2 := hC1.c2
        go_wp2_with fail
        refine hgr.mono ?_
        rintro e w2 ⟨g, rfl, hb2⟩
        have hB2 := hB1.trans (hb2.mono hB1.size)
        have hC2 := hC1.below hb2
        clear hgr hx0 hx2
        have hx0 := hC2.c0
        have hx2 := hC2.c2
        cases g
        case true =>
          go_wp2
          go_ret
          exact ⟨rfl, hB2⟩
        case false =>
          go_wp2
          go_ret
          exact ⟨rfl, hB2⟩
      · have q3 : decide ((p.length : Int) < at_) = false := by simpa using h3
        by_cases h4 : (256 : Int) ≤ p.length
        · have q4 : decide ((256 : Int) ≤ p.length) = true := by simpa using h4
          go_enter Tryd.func4, Tryd.ntmps4
          go_wp2_with fail
          refine (alive_any _ hE0).mono ?_
          rintro e w1 ⟨rfl, hb1⟩
          have hB1 := hB0.trans (hb1.mono hB0.size)
          have hC1 := hC0.below hb1
          have hgr := great_any p _ w1 (hP0.below hB1)
          have hx0 := hC1.c0
          have hx2 := hC1.c2
          go_wp2_with fail
          refine hgr.mono ?_
          rintro e w2 ⟨g, rfl, hb2⟩
          have hB2 := hB1.trans (hb2.mono hB1.size)
          have hC2 := hC1.below hb2
          clear hgr hx0 hx2
          have hx0 := hC2.c0
          have hx2 := hC2.c2
          cases g
          case true =>
            go_wp2
            go_ret
            exact ⟨rfl, hB2⟩
          case false =>
            go_wp2
            go_ret
            exact ⟨rfl, hB2⟩
        · have q4 : decide ((256 : Int) ≤ p.length) = false := by simpa using h4
          go_enter Tryd.func4, Tryd.ntmps4
          go_wp2_with fail
          refine (alive_any _ hE0).mono ?_
          rintro e w1 ⟨rfl, hb1⟩
          have hB1 := hB0.trans (hb1.mono hB0.size)
          have hC1 := hC0.below hb1
          have hgr := great_any p _ w1 (hP0.below hB1)
          have hx0 := hC1.c0
          have hx2 := hC1.c2
          go_wp2_with fail
          refine hgr.mono ?_
          rintro e w2 ⟨g, rfl, hb2⟩
          have hB2 := hB1.trans (hb2.mono hB1.size)
          have hC2 := hC1.below hb2
          clear hgr hx0 hx2
          have hx0 := hC2.c0
          have hx2 := hC2.c2
          cases g
          case true =>
            go_wp2
            go_ret
            exact ⟨rfl, hB2⟩
          case false =>
            go_wp2_with fail
            refine (takes_any _ _).mono ?_
            rintro e w3 ⟨rfl, hb3⟩
            have hB3 := hB2.trans (hb3.mono hB2.size)
            have hC3 := hC2.below hb3
            clear hx0 hx2
            by_cases hx4 : takes x.op = 4
            · rw [hx4]
              go_wp2
              go_ret
              exact ⟨rfl, hB3⟩
            · have q5 : (takes x.op == 4) = false := by simpa using hx4
              have hx0 := hC3.c0
              have hx1 := hC3.c1
              have hx2 := hC3.c2
              obtain ⟨i0, hi0, hz0, hz1, hz2⟩ := info_parts info_ins
              have hown4 := (World.ownsRow_lit w3 (base := w3.heap.size) (e := 31) (size := 3) #[.int .i64 x.op, .int .i64 x.n, .string x.s] 1 (Nat.le_refl _) (by decide) rfl).alloc (.cells #[.int .i64 1, .int .i64 0, .string ⟨#[]⟩] 31)
              have hB4 := (hB3.alloc hB3.size (.cells #[.int .i64 x.op, .int .i64 x.n, .string x.s] 31)).alloc (by have := hB3.size; simp; omega) (.cells #[.int .i64 1, .int .i64 0, .string ⟨#[]⟩] 31)
              have hC4 := (hC3.below ((Below.refl _ _).alloc (Nat.le_refl _) (.cells #[.int .i64 x.op, .int .i64 x.n, .string x.s] 31))).below ((Below.refl _ _).alloc (Nat.le_refl _) (.cells #[.int .i64 1, .int .i64 0, .string ⟨#[]⟩] 31))
              have hsl := SR.lit (w3.alloc (.cells #[.int .i64 x.op, .int .i64 x.n, .string x.s] 31)) halt
              have hlc : ∀ j u, [Value.int .i64 1, .int .i64 0, .string ⟨#[]⟩][j]? = some u → ((w3.alloc (.cells #[.int .i64 x.op, .int .i64 x.n, .string x.s] 31)).alloc (.cells #[.int .i64 1, .int .i64 0, .string ⟨#[]⟩] 31)).cell? ((⟨w3.heap.size + 1, 0, none⟩ : Addr).add j) = some u := by
                rcases hsl with ⟨e, _⟩ | ⟨a, c, e, hc⟩
                · cases e
                · cases e
                  have hsz : (w3.alloc (.cells #[.int .i64 x.op, .int .i64 x.n, .string x.s] 31)).heap.size = w3.heap.size + 1 := by simp
                  rw [hsz] at hc
                  exact hc
              go_wp2_with (first
                | (at_builtin; refine wpList_append_own _ rfl _ _ 22 rfl w3.heap.size 31 i0 _ 3 32 Tryd.underlying22 hi0 hz0 hz1 hz2 rfl (by decide) _ 1 _ rfl hown4 ⟨w3.heap.size + 1, 0, none⟩ 1 1 [.int .i64 1, .int .i64 0, .string ⟨#[]⟩] rfl rfl hlc (rowI_one [halt]) (by decide) (by decide) (by simp; omega) ?_))
              intro v4 w4 hown5 hg5 _
              have hB5 := hB4.grown hg5 (by have := hB3.size; simp; omega) (fun g hg => by have := hB3.size; simp [Value.ownBlock] at hg; omega)
              have hwC : W.heap.size < w3.heap.size := hC3.lt
              have hC5 : CI w4 W.heap.size x := by
                have hb := hg5.block W.heap.size hC4.lt (by simp [Value.ownBlock]; omega)
                exact ⟨Nat.lt_of_lt_of_le hC4.lt hg5.size, (World.cell?_of_block hb).trans hC4.c0, (World.cell?_of_block hb).trans hC4.c1, (World.cell?_of_block hb).trans hC4.c2⟩
              have hPS5 : PS w4 v4 [x, halt] := PS.of_own (p := [x, halt]) hown5 (by show 2 ≤ _; omega) (by intro y hy; simp at hy; rcases hy with rfl | rfl; exact hxn; decide)
              have hck := check_any [x, halt] v4 w4 hPS5 (hE.below hB5).tab
              unfold CKV at hck
              obtain ⟨s4, c4, rfl⟩ := own_form hown5
              clear hown4 hown5 hg5 hC4 hB4 hlc hsl hx0 hx1 hx2
              go_wp2_with fail
              refine hck.mono ?_
              rintro e w5 ⟨rfl, hb5⟩
              have hB6 := hB5.trans (hb5.mono hB5.size)
              have hC6 := hC5.below hb5
              clear hck hPS5
              obtain ⟨kk, rfl⟩ : ∃ kk : Nat, at_ = kk := ⟨at_.toNat, by omega⟩
              go_wp2_with fail
              go_loopw [58] (fun i wr => ∃ k : Nat, k ≤ p.length ∧ i = .int .i64 k ∧ (∀ (j : Nat) (y : I), j < k → p[j]? = some y → takes y.op ≠ 4) ∧ Below W.heap.size W wr ∧ CI wr W.heap.size x) (fun i _ => p.length - (intOf i).toNat)
              case atStart => exact ⟨0, Nat.zero_le _, rfl, by omega, hB6, hC6⟩
              case round =>
                obtain ⟨k, hk, rfl, hn, hb, hCr⟩ := hrel
                by_cases hlt : k < p.length
                · obtain ⟨y, hy⟩ : ∃ y, p[k]? = some y := ⟨p[k], List.getElem?_eq_getElem hlt⟩
                  obtain ⟨b, o, rfl, ha, h3'⟩ := HF.out k y hy
                  obtain ⟨c0, c1, c2⟩ := h3'.below ha hb
                  have HY := Lib.hid hy
                  have HN := Lib.hid hn
                  have hCy := CI.new wr y
                  have hBy := hb.alloc hb.size (.cells #[.int .i64 y.op, .int .i64 y.n, .string y.s] 31)
                  have hCry := hCr.below ((Below.refl _ _).alloc (Nat.le_refl _) (.cells #[.int .i64 y.op, .int .i64 y.n, .string y.s] 31))
                  clear hy hn h3' hCr
                  go_wp2_with fail
                  refine (takes_any _ _).mono ?_
                  rintro e w6 ⟨rfl, hb6⟩
                  have hBz := hBy.trans (hb6.mono hBy.size)
                  have hCz := hCry.below hb6
                  clear c0 c1 c2 hCy
                  by_cases ht4 : takes y.op = 4
                  · rw [ht4]
                    go_wp2
                    go_ret
                    exact ⟨rfl, hBz⟩
                  · have hq : (takes y.op == 4) = false := by simpa using ht4
                    go_wp2
                    go_roundw
                    case rel => exact ⟨k + 1, by omega, by go_num, fun j z h1 h2 => by
                      by_cases h : j < k
                      · exact HN.out j z h h2
                      · obtain rfl : j = k := by omega
                        obtain rfl : y = z := Option.some.inj (HY.out.symm.trans h2)
                        exact ht4, hBz, hCz⟩
                    case measure => simp [intOf]; omega
                · have hfree : ∀ y ∈ p, takes y.op ≠ 4 := fun y hy => by
                    obtain ⟨j, hj⟩ := mem_bound hy
                    have hjl := (List.getElem?_eq_some_iff.1 hj).1
                    exact hn j y (by omega) hj
                  have HFR := Lib.hid hfree
                  have hck := check_any p _ wr (hP0.below hb) (hE.below hb).tab
                  unfold CKV at hck
                  clear hn hfree
                  go_wp2_with fail
                  refine hck.mono ?_
                  rintro e w7 ⟨rfl, hb7⟩
                  have hB7 := hb.trans (hb7.mono hb.size)
                  have hC7 := hCr.below hb7
                  clear hck hb7 hCr
                  obtain ⟨hcp, hcn⟩ := hPC'.out
                  obtain ⟨VL, hVL, hSL⟩ := cut_lo (hP0.below hB7) (show kk ≤ p.length by omega) hcp hcn
                  obtain ⟨VH, hVH, hSH⟩ := cut_hi (hP0.below hB7) (show kk ≤ p.length by omega) hcp hcn
                  have hHID := Lib.hid (show p.length ≤ cap ∧ kk ≤ p.length by omega)
                  have hxl := hC7.lt
                  have hl2 : SR ((w7.alloc (.cells #[] 31)).alloc (.cells #[.int .i64 x.op, .int .i64 x.n, .string x.s] 31)) (.slice (some ⟨w7.heap.size + 1, 0, none⟩) 1 1) [x] := by
                    have h := SR.lit (w7.alloc (.cells #[] 31)) x
                    have hsz : (w7.alloc (.cells #[] 31)).heap.size = w7.heap.size + 1 := by simp
                    rw [hsz] at h
                    exact h
                  have hemp2 : ((w7.alloc (.cells #[.int .i64 x.op, .int .i64 x.n, .string x.s] 31)).alloc (.cells #[] 31)).ownsRow (w7.heap.size + 1) 31 3 (.slice (some ⟨w7.heap.size + 1, 0, none⟩) 0 0) 0 (rowI []) := by
                    have h := own_empty (w7.alloc (.cells #[.int .i64 x.op, .int .i64 x.n, .string x.s] 31))
                    have hsz : (w7.alloc (.cells #[.int .i64 x.op, .int .i64 x.n, .string x.s] 31)).heap.size = w7.heap.size + 1 := by simp
                    rw [hsz] at h
                    exact h
                  have hx0 := hC7.c0
                  have hx1 := hC7.c1
                  have hx2 := hC7.c2
                  clear hcp hcn hC6 hB6 hC5 hB5
                  go_wp2_with fail
                  go_region_law (first
                    | (refine step_append_sr (by rfl) _ _ (by rfl) w7.heap.size (.slice (some ⟨w7.heap.size, 0, none⟩) 0 0) [] (by rfl) (by first | exact own_mono (by first | (simp; omega) | simp | omega) (own_empty w7) | exact own_mono (by first | (simp; omega) | simp | omega) ((own_empty w7).alloc _)) VL (p.take kk) (by rfl) (hSL.below (by repeat' first | assumption | exact Below.refl _ _ | refine Below.drew ?_ | refine Below.alloc ?_ (by first | exact Nat.le_refl _ | exact hby1.size | (simp; omega) | simp | omega) _)) (by first | (simp; omega) | simp | omega) (by first | (simp; omega) | simp | omega) ?_; intro v1 y1 hown1 hg1; have hby1 : Below w7.heap.size w7 y1 := Below.grown (by repeat' first | assumption | exact Below.refl _ _ | refine Below.drew ?_ | refine Below.alloc ?_ (by first | exact Nat.le_refl _ | exact hby1.size | (simp; omega) | simp | omega) _) hg1 (by first | (simp; omega) | simp | omega) (fun g hg => by cases hg; first | exact Nat.le_refl _ | exact Nat.le_succ _ | (simp; omega) | simp); have hCy1 := hC7.below hby1; have ky0 := hCy1.c0; have ky1 := hCy1.c1; have ky2 := hCy1.c2)
                    | (refine step_append_sr (by rfl) _ _ (by rfl) w7.heap.size (.slice (some ⟨w7.heap.size + 1, 0, none⟩) 0 0) [] (by rfl) (own_mono (Nat.le_succ _) hemp2) VL (p.take kk) (by rfl) (hSL.below (by repeat' first | assumption | exact Below.refl _ _ | refine Below.drew ?_ | refine Below.alloc ?_ (by first | exact Nat.le_refl _ | exact hby1.size | (simp; omega) | simp | omega) _)) (by first | (simp; omega) | simp | omega) (by first | (simp; omega) | simp | omega) ?_; intro v1 y1 hown1 hg1; have hby1 : Below w7.heap.size w7 y1 := Below.grown (by repeat' first | assumption | exact Below.refl _ _ | refine Below.drew ?_ | refine Below.alloc ?_ (by first | exact Nat.le_refl _ | exact hby1.size | (simp; omega) | simp | omega) _) hg1 (by first | (simp; omega) | simp | omega) (fun g hg => by cases hg; first | exact Nat.le_refl _ | exact Nat.le_succ _ | (simp; omega) | simp); have hCy1 := hC7.below hby1; have ky0 := hCy1.c0; have ky1 := hCy1.c1; have ky2 := hCy1.c2)
                    | (refine step_append_sr (by rfl) _ _ (by rfl) w7.heap.size v1 ([] ++ p.take kk) (by rfl) (by first | exact hown1 | exact hown1.alloc _) _ [x] (by rfl) (by first | exact SR.lit _ x | exact (hl2.below (Below.refl _ _).drew).grown hg1 (fun g hg => by cases hg; simp [Value.ownBlock]) | exact (((SR.lit w7 x).below ((Below.refl _ _).alloc (Nat.le_refl _) (.cells #[] 31))).below (Below.refl _ _).drew).grown hg1 (fun g hg => by cases hg; simp [Value.ownBlock])) (by simp; omega) (by have := hby1.size; first | (simp; omega) | omega) ?_; intro v2 y2 hown2 hg2; have hby2 : Below w7.heap.size w7 y2 := Below.grown (by repeat' first | assumption | exact Below.refl _ _ | refine Below.drew ?_ | refine Below.alloc ?_ (by first | exact Nat.le_refl _ | exact hby1.size | (simp; omega) | simp | omega) _) hg2 (by have := hby1.size; first | (simp; omega) | omega) (fun g hg => (hown1.lt g hg).1))
                    | (refine step_append_sr (by rfl) _ _ (by rfl) w7.heap.size v2 ([] ++ p.take kk ++ [x]) (by rfl) hown2 VH (p.drop kk) (by rfl) (hSH.below hby2) (by simp; omega) (by have := hby2.size; omega) ?_; intro v3 y3 hown3 hg3; have hby3 : Below w7.heap.size w7 y3 := hby2.grown hg3 (by have := hby2.size; omega) (fun g hg => (hown2.lt g hg).1))
                    | fail)
                  all_goals
                    have hown : y3.ownsRow w7.heap.size 31 3 v3 (into p kk x).length (rowI (into p kk x)) := hown3
                    have hB8 := hB7.trans (hby3.mono hB7.size)
                    have hkp := hHID.out.2
                    have hPS8 : PS y3 v3 (into p kk x) := PS.of_own hown (by rw [into_len hkp]; omega) (fun z hz => by
                      simp only [into, List.mem_append, List.mem_cons, List.not_mem_nil, or_false] at hz
                      rcases hz with (hz | rfl) | hz
                      · exact hP0.nb z (List.mem_of_mem_take hz)
                      · exact hxn
                      · exact hP0.nb z (List.mem_of_mem_drop hz))
                    have hck := check_any (into p kk x) v3 y3 hPS8 (hE.below hB8).tab
                    unfold CKV at hck
                    have hlaw := alone_plain x p kk hkp (by omega) hx4 HFR.out
                    obtain ⟨s8, c8, rfl⟩ := own_form hown
                    generalize (check (into p kk x)).1 = ii at *
                    generalize (check (into p kk x)).2 = gg at *
                    generalize (check [x, halt]).2 = ee at *
                    generalize (check p).2 = ff at *
                    clear hown hown1 hown2 hown3 hg1 hg2 hg3 hby1 hby2 hby3 hPS8 hC7 hCy1 ky0 ky1 ky2 hSL hSH hVL hVH hx0 hx1 hx2
                    by_cases hc : p.length = 0 ∨ ff = 0
                    · rw [if_pos hc] at hlaw
                      obtain ⟨rfl, hl2⟩ := hlaw
                      go_wp2_with fail
                      refine hck.mono ?_
                      rintro e w9 ⟨rfl, hb9⟩
                      clear hck
                      have hB9 := hB8.trans (hb9.mono hB8.size)
                      by_cases hz : p.length = 0
                      · have z1 : ((p.length : Int) == 0) = true := by simpa using hz
                        by_cases he : gg = 0
                        · have z2 : (gg == 0) = true := by simpa using he
                          go_wp2
                          go_ret
                          exact ⟨ret_bool (by simp [*]), hB9⟩
                        · have z2 : (gg == 0) = false := by simpa using he
                          have z3 : (ii == (kk : Int)) = true := by simpa using (hl2.resolve_left he)
                          go_wp2
                          go_ret
                          exact ⟨ret_bool (by simp [*]), hB9⟩
                      · have z1 : ((p.length : Int) == 0) = false := by simpa using hz
                        have z0 : (ff == 0) = true := by simpa using hc.resolve_left hz
                        by_cases he : gg = 0
                        · have z2 : (gg == 0) = true := by simpa using he
                          go_wp2
                          go_ret
                          exact ⟨ret_bool (by simp [*]), hB9⟩
                        · have z2 : (gg == 0) = false := by simpa using he
                          have z3 : (ii == (kk : Int)) = true := by simpa using (hl2.resolve_left he)
                          go_wp2
                          go_ret
                          exact ⟨ret_bool (by simp [*]), hB9⟩
                    · rw [if_neg hc] at hlaw
                      subst hlaw
                      have z1 : ((p.length : Int) == 0) = false := by simp; rintro rfl; simp at hc
                      have z0 : (ff == 0) = false := by simp; exact fun h => hc (.inr h)
                      go_wp2_with fail
                      refine hck.mono ?_
                      rintro e w9 ⟨rfl, hb9⟩
                      clear hck
                      go_wp2
                      go_ret
                      exact ⟨rfl, hB8.trans (hb9.mono hB8.size)⟩
end Cd
end Go.Proofs.YtjfchdgdgbdeeaaDoor
