/-
  The reference's Same of recipes finds true what means the same.
-/
import Derived.Test.YtflhmoelenmomaaGreatDoorMEvRP
import Derived.Test.YtflhmoelenmomaaGreatDoorMSgV
import Derived.Test.YtflhmoelenmomaaGreatDoorMSgZ
namespace Go.Proofs.YtflhmoelenmomaaGreatDoor
open Go.RowKit Go.Lib
namespace Ev
open Rc

theorem rng_bd {s : List UInt8} {r : List Sg.G} (h : rngP s = .ok r) : ∀ g ∈ r, Sg.Bd g := by
  unfold rngP at h
  split at h
  · cases h
  · rename_i l hl
    split at h
    · cases h
    · cases h
      have hb : ∀ g ∈ l, Sg.Bd g := by
        unfold Sg.setF at hl
        split at hl
        · cases hl
        split at hl
        · cases hl
          intro g hg
          cases hg
        split at hl
        · cases hl
        · rename_i r hr
          cases hl
          exact fun g hg => Sg.in9_bd ((Sg.terms_in _ [] (fun g hg => by cases hg) _ hr).1 g hg)
      obtain ⟨h1, h2⟩ := norm_of l
      obtain ⟨r, h3, h4, h5⟩ := Sg.norm_ex l hb
      have e := Sg.nm_unique _ _ h1 h3 fun n => (h2 n).trans (h4 n).symm
      rw [e]
      exact h5
def BdD (d : Dp) : Prop := ∀ g ∈ d.rng, Sg.Bd g
theorem dep_bd {f : Int × E × E} {d : Dp} (h : depP f = .ok d) : BdD d := by
  unfold depP at h
  split at h
  · split at h
    · cases h
    · split at h
      · cases h
      · split at h
        · cases h
        · rename_i r hr
          cases h
          exact rng_bd hr
  · cases h
def BdS (st : RSt) : Prop := (∀ d, st.tool = some d → BdD d) ∧ (∀ d ∈ st.build, BdD d) ∧ ∀ d ∈ st.run, BdD d
theorem more_bd {l l' : List Dp} {d : Dp} (h : moreP l d = .ok l') (hl : ∀ x ∈ l, BdD x) (hd : BdD d) : ∀ x ∈ l', BdD x := by
  unfold moreP at h
  split at h
  · cases h
  split at h
  · cases h
    intro x hx
    rcases List.mem_append.1 hx with hx | hx
    · exact hl x hx
    · simp at hx
      subst hx
      exact hd
  · cases h
theorem step_bdS {st st' : RSt} {f : Int × E × E} (h : stepP st f = .ok st') (hs : BdS st) : BdS st' := by
  unfold stepP at h
  split at h
  · cases h
  rename_i d hd
  have hb := dep_bd hd
  split at h
  · split at h
    · cases h
    · cases h
      exact ⟨fun d' e => (by cases e; exact hb), hs.2.1, hs.2.2⟩
  split at h
  · split at h
    · cases h
    · rename_i l hl
      cases h
      exact ⟨hs.1, more_bd hl hs.2.1 hb, hs.2.2⟩
  · split at h
    · cases h
    · rename_i l hl
      cases h
      exact ⟨hs.1, hs.2.1, more_bd hl hs.2.2 hb⟩
theorem fields_bd : ∀ (fs : List (Int × E × E)) (st st' : RSt), fieldsM fs st = .ok st' → BdS st → BdS st'
  | [], st, st', h, hs => by cases h; exact hs
  | f :: l, st, st', h, hs => by
    rw [fieldsM] at h
    cases hst : stepP st f with
    | error e => rw [hst] at h; cases h
    | ok s2 =>
      rw [hst] at h
      exact fields_bd l s2 st' h (step_bdS hst hs)
structure BdR (r : Rcp) : Prop where
  tool : BdD r.tool
  build : ∀ d ∈ r.build, BdD d
  run : ∀ d ∈ r.run, BdD d
theorem rec_bd {x : Rc.Src} {r : Rcp} (h : recP x = .ok r) : BdR r := by
  unfold recP at h
  split at h
  · cases h
  · rename_i n v hv
    unfold lastP at h
    split at h
    · cases h
    · rename_i st hst
      split at h
      · cases h
      · rename_i d hd
        cases h
        have hb := fields_bd _ _ _ hst ⟨fun d e => (by cases e), fun d hd => (by cases hd), fun d hd => (by cases hd)⟩
        exact ⟨hb.1 d hd, hb.2.1, hb.2.2⟩
theorem lens_fields : ∀ (fs : List (Int × E × E)) (st st' : RSt), fieldsM fs st = .ok st' → st.build.length ≤ 8 ∧ st.run.length ≤ 8 → st'.build.length ≤ 8 ∧ st'.run.length ≤ 8
  | [], st, st', h, hs => by cases h; exact hs
  | f :: l, st, st', h, hs => by
    rw [fieldsM] at h
    cases hst : stepP st f with
    | error e => rw [hst] at h; cases h
    | ok s2 =>
      rw [hst] at h
      refine lens_fields l s2 st' h ?_
      unfold stepP at hst
      split at hst
      · cases hst
      split at hst
      · split at hst
        · cases hst
        · cases hst; exact hs
      split at hst
      · split at hst
        · cases hst
        · rename_i l2 hl
          cases hst
          exact ⟨more_len hl hs.1, hs.2⟩
      · split at hst
        · cases hst
        · rename_i l2 hl
          cases hst
          exact ⟨hs.1, more_len hl hs.2⟩
theorem rec_lens {x : Rc.Src} {r : Rcp} (h : recP x = .ok r) : r.build.length ≤ 8 ∧ r.run.length ≤ 8 := by
  unfold recP at h
  split at h
  · cases h
  · unfold lastP at h
    split at h
    · cases h
    · rename_i st hst
      split at h
      · cases h
      · cases h
        exact lens_fields _ _ _ hst ⟨by simp, by simp⟩
theorem go_gs {W : World} {B : Nat} {v : Value} {l : List Sg.G} (h : Sg.GO W B v l) (hb : ∀ g ∈ l, Sg.Bd g) : Sg.GS W v l := Sg.GO.gs h fun g hg => (hb g hg).n64
set_option maxHeartbeats 1000000 in
set_option maxRecDepth 100000 in
theorem samedep_any (d : Dp) (ra : Option Addr) (rn rc : Nat) (ra' : Option Addr) (rn' rc' : Nat) (W : World) (h : Sg.GS W (.slice ra rn rc) d.rng) (h' : Sg.GS W (.slice ra' rn' rc') d.rng) :
    Calls Tryz.prog 36 #[.agg #[.string d.name, .slice ra rn rc], .agg #[.string d.name, .slice ra' rn' rc']] W fun e W' => e = .returned (.bool true) ∧ Below W.heap.size W W' := by
  have hA : Below W.heap.size W ((W.alloc (.cells #[.string d.name, .slice ra rn rc] 42)).alloc (.cells #[.string d.name, .slice ra' rn' rc'] 42)) := ((Below.refl _ _).alloc (Nat.le_refl _) _).alloc (by simp) _
  have hs := Sg.rsame_any d.rng _ _ _ (h.below hA) (h'.below hA)
  have HA := Lib.hid hA
  clear h h' hA
  go_enter Tryz.func36, Tryz.ntmps36
  go_wp2_with (first
    | (go_at_call 59; with_reducible refine hs.mono ?_; rintro e w1 ⟨he, hb1⟩; subst he; have hB := HA.out.trans (hb1.mono HA.out.size)))
  go_ret
  exact ⟨rfl, hB⟩
set_option maxHeartbeats 4000000 in
set_option maxRecDepth 100000 in
theorem samedeps_any {ds : List Dp} {W : World} {B B' : Nat} {v v' : Value} {qs qs' : List DV} (h : DO W B v qs ds) (h' : DO W B' v' qs' ds) (hb : ∀ d ∈ ds, BdD d) (hl : ds.length ≤ 8) :
    Calls Tryz.prog 37 #[v, v'] W fun e W' => e = .returned (.bool true) ∧ Below W.heap.size W W' := by
  obtain ⟨ba, bc, hv, -⟩ := h.form
  obtain ⟨ba', bc', hv', -⟩ := h'.form
  have HV := Lib.hid hv
  have HV' := Lib.hid hv'
  have H := Lib.hid h
  have H' := Lib.hid h'
  have HBD := Lib.hid hb
  rw [hv, hv']
  clear h h' hv hv' hb
  go_enter Tryz.func37, Tryz.ntmps37
  go_wp2_with fail
  go_loopw [13] (fun i wr => ∃ k : Nat, k ≤ ds.length ∧ i = .int .i64 k ∧ Below W.heap.size W wr) (fun i _ => ds.length - (RowKit.intOf i).toNat)
  case atStart => exact ⟨0, Nat.zero_le _, rfl, Below.refl _ _⟩
  case round =>
    obtain ⟨k, hk, rfl, hb⟩ := hrel
    by_cases hlt : k < ds.length
    · obtain ⟨x, hx⟩ : ∃ x, ds[k]? = some x := ⟨ds[k], List.getElem?_eq_getElem hlt⟩
      obtain ⟨g, q, cap, hv2, hBg, hgl, hq, hq1, a0, a1⟩ := H.out.cellsAt hx
      obtain ⟨g', q', cap', hv2', hBg', hgl', hq', hq1', a0', a1'⟩ := H'.out.cellsAt hx
      rw [HV.out] at hv2
      rw [HV'.out] at hv2'
      obtain rfl : ba = some ⟨g, 0, none⟩ := by injection hv2
      obtain rfl : ba' = some ⟨g', 0, none⟩ := by injection hv2'
      have c0 := Sx.ext_cell ((hb.cell (p := ⟨g, k * 2, none⟩) hgl).trans a0)
      have c1 := Sx.ext_cell ((hb.cell (p := ⟨g, k * 2 + 1, none⟩) hgl).trans a1)
      have c0' := Sx.ext_cell ((hb.cell (p := ⟨g', k * 2, none⟩) hgl').trans a0')
      have c1' := Sx.ext_cell ((hb.cell (p := ⟨g', k * 2 + 1, none⟩) hgl').trans a1')
      have hbx := HBD.out x (List.mem_of_getElem? hx)
      have HC := Lib.hid (fun (w : World) (hw : Below W.heap.size W w) => samedep_any x q.ra q.rn q.rc q'.ra q'.rn q'.rc w ((go_gs hq1.2 hbx).below hw) ((go_gs hq1'.2 hbx).below hw))
      clear a0 a1 a0' a1' hx hq hq' hq1 hq1' hv2 hv2' hbx
      go_wp2_with fail
      refine Mix.region (fun w' => ∃ Y, w' = Sx.ext wr Y) 10 [0, 0, 0, 0, 0, 0, 0, 0, 1, 1] [true, false] (by kernel_rfl) (fun _ _ d _ _ h => by cases d <;> exact h) (by rfl) (by kernel_rfl) ⟨_, Sx.ext_of (Below.refl _ _).drew⟩ ?_
      simp only [Mix.selP_cons, Mix.selP_nil, Mix.sel_cons, Mix.sel_nil, Nat.reduceBEq, Nat.reduceAdd, cond_true, cond_false, List.drop_succ_cons, List.drop_zero]
      refine Mix.parts_q ?_
      repeat (go_big_quiet_step (fail))
      refine wpQuiet_nil ?_
      refine Mix.parts_e ?_
      refine Mix.eff_step (fun K hK => ?_)
      go_simp
      refine (HC.out _ hb.drew).mono ?_
      rintro e w2 ⟨rfl, hB2⟩
      have hB3 : Below wr.heap.size wr w2 := (Below.refl _ _).drew.trans hB2
      refine hK _ _ ⟨_, Sx.ext_of hB3⟩ ?_
      clear hK K c0 c1 c0' c1'
      refine Mix.eff_step (fun K hK => ?_)
      go_simp
      refine hK _ _ ⟨_, Sx.ext_of hB3⟩ ?_
      clear hK K
      refine Mix.eff_nil (Mix.parts_n ?_)
      have hB4 := hb.trans (hB3.mono hb.size)
      go_wp2_with fail
      refine ⟨⟨k + 1, hlt, by push_cast; rfl, hB4⟩, ?_⟩
      simp only [RowKit.intOf]
      omega
    · go_wp2_with fail
      go_ret
      exact ⟨rfl, hb⟩
/-- the cells of a recipe in memory -/
structure RcM (W : World) (B : Nat) (r : Rcp) (ta : Option Addr) (tn tc : Nat) (ba : Option Addr) (bn bc : Nat) (ra : Option Addr) (rn rc : Nat) (qb qr : List DV) : Prop where
  tool : Sg.GO W B (.slice ta tn tc) r.tool.rng
  build : DO W B (.slice ba bn bc) qb r.build
  run : DO W B (.slice ra rn rc) qr r.run
theorem RcM.keep {W W' : World} {B : Nat} {r : Rcp} {ta : Option Addr} {tn tc : Nat} {ba : Option Addr} {bn bc : Nat} {ra : Option Addr} {rn rc : Nat} {qb qr : List DV} (h : RcM W B r ta tn tc ba bn bc ra rn rc qb qr) (hb : Below W.heap.size W W') : RcM W' B r ta tn tc ba bn bc ra rn rc qb qr :=
  ⟨go_move h.tool fun g _ hg _ => hb.block g (Array.getElem?_eq_some_iff.1 hg).1, h.build.keep hb, h.run.keep hb⟩
theorem eqVd (a b c x y z : Int) (w : World) : (Op.equalIn 9999 37 (.agg #[.int .i64 a, .int .i64 b, .int .i64 c]) (.agg #[.int .i64 x, .int .i64 y, .int .i64 z])).run Tryz.prog w = .ok (a == x && (b == y && c == z)) w := by
  obtain ⟨i, hi, -⟩ := info_parts Vs.info_int
  rw [show (9999 : Nat) = 9998 + 1 from rfl, run_equalIn_array w 9998 _ _ Tryz.underlying37 hi, Vs.size_int]
  simp only [List.range, List.range.loop, Op.eqItems]
  by_cases h1 : a = x <;> by_cases h2 : b = y <;> by_cases h3 : c = z <;> simp [go_sem, part, Tryz.isAgg3, h1, h2, h3]
attribute [local go_sem high] eqVd
set_option maxHeartbeats 4000000 in
set_option maxRecDepth 100000 in
theorem rsamer_any {r : Rcp} (hb : BdR r) (hl : r.build.length ≤ 8 ∧ r.run.length ≤ 8) {W : World} {B B' : Nat} {ta : Option Addr} {tn tc : Nat} {ba : Option Addr} {bn bc : Nat} {ra : Option Addr} {rn rc : Nat} {qb qr : List DV} (h : RcM W B r ta tn tc ba bn bc ra rn rc qb qr)
    {ta' : Option Addr} {tn' tc' : Nat} {ba' : Option Addr} {bn' bc' : Nat} {ra' : Option Addr} {rn' rc' : Nat} {qb' qr' : List DV} (h' : RcM W B' r ta' tn' tc' ba' bn' bc' ra' rn' rc' qb' qr') :
    Calls Tryz.prog 16 #[.agg #[.string r.name, .int .i64 r.ver.1, .int .i64 r.ver.2.1, .int .i64 r.ver.2.2, .string r.tool.name, .slice ta tn tc, .slice ba bn bc, .slice ra rn rc], .agg #[.string r.name, .int .i64 r.ver.1, .int .i64 r.ver.2.1, .int .i64 r.ver.2.2, .string r.tool.name, .slice ta' tn' tc', .slice ba' bn' bc', .slice ra' rn' rc']] W fun e W' => e = .returned (.bool true) ∧ Below W.heap.size W W' := by
  have hA : Below W.heap.size W ((W.alloc (.cells #[.string r.name, .int .i64 r.ver.1, .int .i64 r.ver.2.1, .int .i64 r.ver.2.2, .string r.tool.name, .slice ta tn tc, .slice ba bn bc, .slice ra rn rc] 45)).alloc (.cells #[.string r.name, .int .i64 r.ver.1, .int .i64 r.ver.2.1, .int .i64 r.ver.2.2, .string r.tool.name, .slice ta' tn' tc', .slice ba' bn' bc', .slice ra' rn' rc'] 45)) := ((Below.refl _ _).alloc (Nat.le_refl _) _).alloc (by simp) _
  have hX1 := (heap_alloc_old (W.alloc (.cells #[.string r.name, .int .i64 r.ver.1, .int .i64 r.ver.2.1, .int .i64 r.ver.2.2, .string r.tool.name, .slice ta tn tc, .slice ba bn bc, .slice ra rn rc] 45)) (.cells #[.string r.name, .int .i64 r.ver.1, .int .i64 r.ver.2.1, .int .i64 r.ver.2.2, .string r.tool.name, .slice ta' tn' tc', .slice ba' bn' bc', .slice ra' rn' rc'] 45) (show W.heap.size < _ by simp)).trans (heap_alloc_new W _)
  have hX2 := heap_alloc_new (W.alloc (.cells #[.string r.name, .int .i64 r.ver.1, .int .i64 r.ver.2.1, .int .i64 r.ver.2.2, .string r.tool.name, .slice ta tn tc, .slice ba bn bc, .slice ra rn rc] 45)) (.cells #[.string r.name, .int .i64 r.ver.1, .int .i64 r.ver.2.1, .int .i64 r.ver.2.2, .string r.tool.name, .slice ta' tn' tc', .slice ba' bn' bc', .slice ra' rn' rc'] 45)
  rw [show (W.alloc (.cells #[.string r.name, .int .i64 r.ver.1, .int .i64 r.ver.2.1, .int .i64 r.ver.2.2, .string r.tool.name, .slice ta tn tc, .slice ba bn bc, .slice ra rn rc] 45)).heap.size = W.heap.size + 1 by simp] at hX2
  have HK := Lib.hid (fun (w : World) (hw : Below ((W.alloc (.cells #[.string r.name, .int .i64 r.ver.1, .int .i64 r.ver.2.1, .int .i64 r.ver.2.2, .string r.tool.name, .slice ta tn tc, .slice ba bn bc, .slice ra rn rc] 45)).alloc (.cells #[.string r.name, .int .i64 r.ver.1, .int .i64 r.ver.2.1, .int .i64 r.ver.2.2, .string r.tool.name, .slice ta' tn' tc', .slice ba' bn' bc', .slice ra' rn' rc'] 45)).heap.size ((W.alloc (.cells #[.string r.name, .int .i64 r.ver.1, .int .i64 r.ver.2.1, .int .i64 r.ver.2.2, .string r.tool.name, .slice ta tn tc, .slice ba bn bc, .slice ra rn rc] 45)).alloc (.cells #[.string r.name, .int .i64 r.ver.1, .int .i64 r.ver.2.1, .int .i64 r.ver.2.2, .string r.tool.name, .slice ta' tn' tc', .slice ba' bn' bc', .slice ra' rn' rc'] 45)) w) => And.intro (hw.block W.heap.size (by simp; omega) |>.trans hX1) (hw.block (W.heap.size + 1) (by simp) |>.trans hX2))
  have H1 := Lib.hid (fun (w : World) (hw : Below W.heap.size W w) => samedep_any r.tool ta tn tc ta' tn' tc' w ((go_gs h.tool hb.tool).below hw) ((go_gs h'.tool hb.tool).below hw))
  have H2 := Lib.hid (fun (w : World) (hw : Below W.heap.size W w) => samedeps_any (h.build.keep hw) (h'.build.keep hw) hb.build hl.1)
  have H3 := Lib.hid (fun (w : World) (hw : Below W.heap.size W w) => samedeps_any (h.run.keep hw) (h'.run.keep hw) hb.run hl.2)
  have HA := Lib.hid hA
  clear h h' hb hA hX1 hX2
  go_enter Tryz.func16, Tryz.ntmps16
  go_wp2_with (first
    | (go_at_call 36; with_reducible refine (H1.out _ HA.out).mono ?_; rintro e w1 ⟨he, hb1⟩; subst he; have hB1 := HA.out.trans (hb1.mono HA.out.size); obtain ⟨c0, c1, c2, c3, c4, c5, c6, c7⟩ := obj8 (HK.out _ hb1).1; obtain ⟨d0, d1, d2, d3, d4, d5, d6, d7⟩ := obj8 (HK.out _ hb1).2)
    | (go_at_call 37; with_reducible refine (H2.out _ hB1).mono ?_; rintro e w2 ⟨he, hb2⟩; subst he; have hB2 := hB1.trans (hb2.mono hB1.size); have hb3 := hb1.trans (hb2.mono hb1.size); clear c0 c1 c2 c3 c4 c5 c6 c7 d0 d1 d2 d3 d4 d5 d6 d7; obtain ⟨c0, c1, c2, c3, c4, c5, c6, c7⟩ := obj8 (HK.out _ hb3).1; obtain ⟨d0, d1, d2, d3, d4, d5, d6, d7⟩ := obj8 (HK.out _ hb3).2)
    | (go_at_call 37; with_reducible refine (H3.out _ hB2).mono ?_; rintro e w4 ⟨he, hb4⟩; subst he; have hB4 := hB2.trans (hb4.mono hB2.size)))
  go_ret
  exact ⟨rfl, hB4⟩
end Ev
end Go.Proofs.YtflhmoelenmomaaGreatDoor
