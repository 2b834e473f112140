/-
  What a recipe's meaning is in memory, be it one or an error. (printed by gen_EvLR.py)
-/
import Derived.Test.YtflhmoelenmomaaGreatDoorMEvWi
import Derived.Test.YtflhmoelenmomaaGreatDoorMEvWj
import Derived.Test.YtflhmoelenmomaaGreatDoorMEvLA
namespace Go.Proofs.YtflhmoelenmomaaGreatDoor
open Go.RowKit Go.Lib
namespace Ev
open Rc

def zR : Rcp := ⟨⟨#[]⟩, (0, 0, 0), ⟨⟨#[]⟩, []⟩, [], []⟩
def resR : Except Int Rcp → Rcp × Int
  | .error k => (zR, k)
  | .ok r => (r, 0)
abbrev cellsR (r : Rcp) (ta : Option Addr) (tn tc : Nat) (ba : Option Addr) (bn bc : Nat) (ra : Option Addr) (rn rc : Nat) : Array Value := #[.string r.name, .int .i64 r.ver.1, .int .i64 r.ver.2.1, .int .i64 r.ver.2.2, .string r.tool.name, .slice ta tn tc, .slice ba bn bc, .slice ra rn rc]
theorem rans_form {W : World} {q : Except Int Rcp} {e : Ending} {W' : World} (h : RAns W q e W') :
    ∃ ta tn tc ba bn bc ra rn rc qb qr, e = .returned (.tuple #[.agg (cellsR (resR q).1 ta tn tc ba bn bc ra rn rc), .int .i64 (resR q).2]) ∧ RcM W' W.heap.size (resR q).1 ta tn tc ba bn bc ra rn rc qb qr ∧ Below W.heap.size W W' := by
  obtain ⟨hb, h⟩ := h
  cases q with
  | error k =>
    subst h
    exact ⟨none, 0, 0, none, 0, 0, none, 0, 0, [], [], rfl, ⟨Sg.go_nil _ _, DO.nil _ _, DO.nil _ _⟩, hb⟩
  | ok r =>
    obtain ⟨ta, tn, tc, ba, bn, bc, ra, rn, rc, qb, qr, he, h1, h2, h3⟩ := h
    exact ⟨ta, tn, tc, ba, bn, bc, ra, rn, rc, qb, qr, he, ⟨h1, h2, h3⟩, hb⟩
theorem res_bd (x : Rc.Src) : BdR (resR (recP x)).1 ∧ (resR (recP x)).1.build.length ≤ 8 ∧ (resR (recP x)).1.run.length ≤ 8 := by
  cases h : recP x with
  | error k => exact ⟨⟨fun g hg => (by cases hg), fun d hd => (by cases hd), fun d hd => (by cases hd)⟩, Nat.zero_le _, Nat.zero_le _⟩
  | ok r => exact ⟨rec_bd h, rec_lens h⟩
/-- what is left when the fields' parts are taken away -/
theorem fld_left {t : Int × E × E} (h1 : Sml t.2.1) (h2 : Sml t.2.2) {left M : Int} (hl : 0 ≤ left) (hM : left ≤ M) (hM2 : M ≤ 16384) :
    -1000000000000000000 ≤ weigh t.2.1 left 0 ∧ weigh t.2.1 left 0 ≤ M ∧ -1000000000000000000 ≤ weigh t.2.2 (weigh t.2.1 left 0) 0 ∧ weigh t.2.2 (weigh t.2.1 left 0) 0 ≤ M ∧ (0 ≤ weigh t.2.2 (weigh t.2.1 left 0) 0 → sizeW t.2.1 ≤ 20000 ∧ sizeW t.2.2 ≤ 20000) := by
  have a1 := weigh_le t.2.1 left 0
  have a2 := weigh_ge h1 left 0
  have b1 := weigh_le t.2.2 (weigh t.2.1 left 0) 0
  have b2 := weigh_ge h2 (weigh t.2.1 left 0) 0
  refine ⟨by omega, by omega, by omega, by omega, fun h => ?_⟩
  have b3 := b1.2 h
  have h0 : 0 ≤ weigh t.2.1 left 0 := by
    rcases Int.lt_or_le (weigh t.2.1 left 0) 0 with h9 | h9
    · have := b1.1
      omega
    · exact h9
  have a3 := a1.2 h0
  omega
set_option maxHeartbeats 8000000 in
set_option maxRecDepth 100000 in
theorem reclaw_any {x : Rc.Src} (hx : SmlS x) (W : World) (v : Value) (hr : RepR W (fun b => b < W.heap.size) x v) (hE : Vs.Env W) :
    Calls Tryz.prog 4 #[v] W fun e W' => e = .returned (.bool true) ∧ Below W.heap.size W W' := by
  have hr0 := Lib.hid hr
  obtain ⟨k1, σ1, sl1, n1, c1, k2, σ2, sl2, n2, c2, sl, n, c, rfl, hrn, hrv, hfs, hnc⟩ := hr
  have hnl : n = x.fields.length := hfs.1
  have hA := (Below.refl W.heap.size W).alloc (Nat.le_refl _) (.cells #[.int .i64 k1, .string σ1, .slice sl1 n1 c1, .int .i64 k2, .string σ2, .slice sl2 n2 c2, .slice sl n c] 33)
  have hX := heap_alloc_new W (.cells #[.int .i64 k1, .string σ1, .slice sl1 n1 c1, .int .i64 k2, .string σ2, .slice sl2 n2 c2, .slice sl n c] 33)
  have hal := alive_any (W.alloc (.cells #[.int .i64 k1, .string σ1, .slice sl1 n1 c1, .int .i64 k2, .string σ2, .slice sl2 n2 c2, .slice sl n c] 33)) (hE.alloc _)
  have HWN := Lib.hid (fun (w : World) (hb : Below W.heap.size W w) => weigh_any hx.1 w (fun b => b < W.heap.size) _ 16384 (by decide) (by decide) (fun k hk => Nat.lt_of_lt_of_le hk hb.size) (hrn.move fun k hk => ⟨hk, hb.block k hk⟩))
  have f0 := fld_left (t := (0, x.name, x.version)) hx.1 hx.2.1 (left := 16384) (M := 16384) (by decide) (by decide) (by decide)
  dsimp only at f0
  have HWV := Lib.hid (fun (w : World) (hb : Below W.heap.size W w) => weigh_any hx.2.1 w (fun b => b < W.heap.size) _ (weigh x.name 16384 0) f0.1 (by omega) (fun k hk => Nat.lt_of_lt_of_le hk hb.size) (hrv.move fun k hk => ⟨hk, hb.block k hk⟩))
  have HF0 := Lib.hid f0.2.2
  have HE := Lib.hid hE
  have HX := Lib.hid hx
  have HFS := Lib.hid hfs
  have HNL := Lib.hid hnl
  clear hrn hrv hE hx hfs f0 hnl
  go_enter Tryz.func4, Tryz.ntmps4
  go_wp2_with (first
    | (go_at_call 10; with_reducible refine hal.mono ?_; rintro e w1 ⟨he, hb1⟩; subst he; have hB := hA.trans (hb1.mono hA.size); have hX1 := (hb1.block W.heap.size (by simp)).trans hX; clear hb1 hal))
  clear hA hX
  obtain ⟨a0, a1, a2, a3, a4, a5, a6⟩ := obj7 hX1
  have e0 := Sx.ext_cell a0
  have e1 := Sx.ext_cell a1
  have e2 := Sx.ext_cell a2
  have e3 := Sx.ext_cell a3
  have e4 := Sx.ext_cell a4
  have e5 := Sx.ext_cell a5
  clear a0 a1 a2 a3 a4 a5 a6
  refine Mix.region (fun w' => ∃ Y, w' = Sx.ext w1 Y) 7 [0, 0, 0, 0, 1, 1, 1] [true, false] (by kernel_rfl) (fun _ _ d _ _ h => by cases d <;> exact h) (by rfl) (by kernel_rfl) ⟨_, Sx.ext_of (Below.refl _ _).drew⟩ ?_
  simp only [Mix.selP_cons, Mix.selP_nil, Mix.sel_cons, Mix.sel_nil, Nat.reduceBEq, Nat.reduceAdd, cond_true, cond_false, List.drop_succ_cons, List.drop_zero]
  refine Mix.parts_q ?_
  repeat (go_big_quiet_step (fail))
  refine wpQuiet_nil ?_
  refine Mix.parts_e ?_
  refine Mix.eff_step (fun K hK => ?_)
  go_simp
  refine (HWN.out _ hB.drew).mono ?_
  rintro e w2 ⟨rfl, hB2⟩
  have hB3 : Below w1.heap.size w1 w2 := (Below.refl _ _).drew.trans hB2
  refine hK _ _ ⟨_, Sx.ext_of hB3⟩ ?_
  clear hK K e0 e1 e2 e3 e4 e5
  refine Mix.eff_step (fun K hK => ?_)
  go_simp
  refine (HWV.out _ (hB.trans (hB3.mono hB.size))).mono ?_
  rintro e w3 ⟨rfl, hB4⟩
  have hB5 : Below w1.heap.size w1 w3 := hB3.trans (hB4.mono hB3.size)
  refine hK _ _ ⟨_, Sx.ext_of hB5⟩ ?_
  clear hK K
  refine Mix.eff_step (fun K hK => ?_)
  go_simp
  refine hK _ _ ⟨_, Sx.ext_of hB5⟩ ?_
  clear hK K
  refine Mix.eff_nil (Mix.parts_n ?_)
  have hB6 := hB.trans (hB5.mono hB.size)
  have hX6 := (hB5.block W.heap.size (Array.getElem?_eq_some_iff.1 hX1).1).trans hX1
  clear hB hX1 hB2 hB3 hB4 hB5
  generalize hL2 : weigh x.version (weigh x.name 16384 0) 0 = L2 at *
  clear hL2
  go_wp2_with fail
  go_loopw [3, 4] (fun lf i wr => ∃ (k : Nat) (left : Int), k ≤ n ∧ i = .int .i64 (k : Int) ∧ lf = .int .i64 left ∧ -1000000000000000000 ≤ left ∧ left ≤ 16384 ∧ (0 ≤ left → (sizeW x.name ≤ 20000 ∧ sizeW x.version ≤ 20000) ∧ ∀ t ∈ x.fields.take k, sizeW t.2.1 ≤ 20000 ∧ sizeW t.2.2 ≤ 20000) ∧ Below W.heap.size W wr ∧ wr.heap[W.heap.size]? = some (.cells #[.int .i64 k1, .string σ1, .slice sl1 n1 c1, .int .i64 k2, .string σ2, .slice sl2 n2 c2, .slice sl n c] 33)) (fun _ i _ => n - (RowKit.intOf i).toNat)
  case atStart => exact ⟨0, L2, Nat.zero_le _, rfl, rfl, HF0.out.1, HF0.out.2.1, fun h => ⟨HF0.out.2.2 h, fun t ht => by simp at ht⟩, hB6, hX6⟩
  case round =>
    obtain ⟨k, left, hk, rfl, rfl, hl1, hl2, hsz, hb, hX7⟩ := hrel
    have HSZ := Lib.hid hsz
    clear hsz hB6 hX6
    have hlW : W.heap.size < wr.heap.size := (Array.getElem?_eq_some_iff.1 hX7).1
    obtain ⟨a0, a1, a2, a3, a4, a5, a6⟩ := obj7 hX7
    have HB := Lib.hid (And.intro hb hX7)
    by_cases hneg : left < 0
    · have hn1 : decide (0 ≤ left) = false := decide_eq_false (by omega)
      by_cases hlt : k < n
      · clear hX7
        go_wp2_with fail
        go_ret
        exact ⟨rfl, HB.out.1⟩
      · clear hX7
        go_wp2_with fail
        go_ret
        exact ⟨rfl, HB.out.1⟩
    have hn1 : decide (0 ≤ left) = true := decide_eq_true (by omega)
    by_cases hlt : k < n
    · by_cases h100 : k < 100
      · obtain ⟨t, ht⟩ : ∃ t, x.fields[k]? = some t := ⟨_, List.getElem?_eq_getElem (by rw [← HNL.out]; exact hlt)⟩
        obtain ⟨b, o, k3, σ3, sl3, n3, c3, k4, σ4, sl4, n4, c4, hsl, hfc⟩ := fld_at HFS.out ht
        subst hsl
        have hbW : b < W.heap.size := hfc.sb
        have htm := List.mem_of_getElem? ht
        obtain ⟨-, hsm3, hsm4⟩ := HX.out.2.2.2 t htm
        have f1 := fld_left (t := t) hsm3 hsm4 (left := left) (M := 16384) (by omega) (by omega) (by decide)
        have HW3 := Lib.hid (fun (w : World) (hb : Below W.heap.size W w) => weigh_any hsm3 w (fun b => b < W.heap.size) _ left (by omega) (by omega) (fun k hk => Nat.lt_of_lt_of_le hk hb.size) (hfc.rn.move fun k hk => ⟨hk, hb.block k hk⟩))
        have HW4 := Lib.hid (fun (w : World) (hb : Below W.heap.size W w) => weigh_any hsm4 w (fun b => b < W.heap.size) _ (weigh t.2.1 left 0) f1.1 (by omega) (fun k hk => Nat.lt_of_lt_of_le hk hb.size) (hfc.rr.move fun k hk => ⟨hk, hb.block k hk⟩))
        have HF1 := Lib.hid f1.2.2
        have HT := Lib.hid ht
        have HFC := Lib.hid hfc
        clear f1 ht hfc htm hsm3 hsm4 hX7
        go_wp2_with fail
        clear a0 a1 a2 a3 a4 a5
        have e6 := Sx.ext_cell a6
        have e1 := Sx.ext_cell ((hb.cell (p := ⟨b, _, none⟩) hbW).trans HFC.out.d1)
        have e2 := Sx.ext_cell ((hb.cell (p := ⟨b, _, none⟩) hbW).trans HFC.out.d2)
        have e3 := Sx.ext_cell ((hb.cell (p := ⟨b, _, none⟩) hbW).trans HFC.out.d3)
        have e4 := Sx.ext_cell ((hb.cell (p := ⟨b, _, none⟩) hbW).trans HFC.out.d4)
        have e5 := Sx.ext_cell ((hb.cell (p := ⟨b, _, none⟩) hbW).trans HFC.out.d5)
        have e7 := Sx.ext_cell ((hb.cell (p := ⟨b, _, none⟩) hbW).trans HFC.out.d6)
        clear a6
        refine Mix.region (fun w' => ∃ Y, w' = Sx.ext wr Y) 16 [0, 0, 0, 0, 0, 0, 0, 0, 0, 0, 0, 0, 0, 1, 1, 1] [true, false] (by kernel_rfl) (fun _ _ d _ _ h => by cases d <;> exact h) (by rfl) (by kernel_rfl) ⟨_, Sx.ext_of (Below.refl _ _).drew⟩ ?_
        simp only [Mix.selP_cons, Mix.selP_nil, Mix.sel_cons, Mix.sel_nil, Nat.reduceBEq, Nat.reduceAdd, cond_true, cond_false, List.drop_succ_cons, List.drop_zero]
        refine Mix.parts_q ?_
        repeat (go_big_quiet_step (fail))
        refine wpQuiet_nil ?_
        refine Mix.parts_e ?_
        refine Mix.eff_step (fun K hK => ?_)
        go_simp
        refine (HW3.out _ HB.out.1.drew).mono ?_
        rintro e w2 ⟨rfl, hB2⟩
        have hB3 : Below wr.heap.size wr w2 := (Below.refl _ _).drew.trans hB2
        refine hK _ _ ⟨_, Sx.ext_of hB3⟩ ?_
        clear hK K e1 e2 e3 e4 e5 e6 e7
        refine Mix.eff_step (fun K hK => ?_)
        go_simp
        refine (HW4.out _ (HB.out.1.trans (hB3.mono HB.out.1.size))).mono ?_
        rintro e w3 ⟨rfl, hB4⟩
        have hB5 : Below wr.heap.size wr w3 := hB3.trans (hB4.mono hB3.size)
        refine hK _ _ ⟨_, Sx.ext_of hB5⟩ ?_
        clear hK K
        refine Mix.eff_step (fun K hK => ?_)
        go_simp
        refine hK _ _ ⟨_, Sx.ext_of hB5⟩ ?_
        clear hK K
        refine Mix.eff_nil (Mix.parts_n ?_)
        have hB6 := HB.out.1.trans (hB5.mono HB.out.1.size)
        have hX8 := (hB5.block W.heap.size hlW).trans HB.out.2
        have HB6 := Lib.hid (And.intro hB6 hX8)
        clear hb hB2 hB3 hB4 hB5 hB6 hX8
        go_wp2_with fail
        refine ⟨⟨k + 1, _, hlt, by push_cast; rfl, rfl, HF1.out.1, HF1.out.2.1, fun h => ⟨(HSZ.out (by omega)).1, fun u hu => ?_⟩, HB6.out.1, HB6.out.2⟩, ?_⟩
        · rw [List.take_add_one, HT.out] at hu
          rcases List.mem_append.1 hu with hu | hu
          · exact (HSZ.out (by omega)).2 u hu
          · simp at hu
            subst hu
            exact HF1.out.2.2 h
        · simp only [RowKit.intOf]
          omega
      · have h101 : (100 : Int) < n := by omega
        clear hX7
        go_wp2_with fail
        go_ret
        exact ⟨rfl, HB.out.1⟩
    · obtain rfl : k = n := by omega
      by_cases h101 : 100 < k
      · clear hX7
        go_wp2_with fail
        go_ret
        exact ⟨rfl, HB.out.1⟩
      have hs := HSZ.out (by omega)
      rw [List.take_of_length_le (by rw [← HNL.out]; exact Nat.le_refl _)] at hs
      have HREC := Lib.hid (fun (w : World) (hb : Below W.heap.size W w) => (recipe_any HX.out hs.1.1 hs.1.2 hs.2 w (fun b => b < W.heap.size) _ (fun k hk => Nat.lt_of_lt_of_le hk hb.size) (hr0.out.move fun k hk => ⟨hk, hb.block k hk⟩) (HE.out.below (Nat.le_refl _) hb)).mono fun e W' h => rans_form h)
      have HRR := Lib.hid (fun (w : World) (hb : Below W.heap.size W w) => (rrecipe_any HX.out hs.1.1 hs.1.2 hs.2 w (fun b => b < W.heap.size) _ (fun k hk => Nat.lt_of_lt_of_le hk hb.size) (hr0.out.move fun k hk => ⟨hk, hb.block k hk⟩) (HE.out.below (Nat.le_refl _) hb)).mono fun e W' h => rans_form h)
      have HBD := Lib.hid (res_bd x)
      generalize resR (recP x) = R at *
      obtain ⟨r, ek⟩ := R
      dsimp only at HREC HRR HBD
      clear hs hX7
      go_wp2_with (first
        | (go_at_call 14; with_reducible refine (HREC.out _ HB.out.1).mono ?_; rintro e w1 ⟨ta, tn, tc, ba, bn, bc, ra, rn, rc, qb, qr, he, hm1, hb1⟩; subst he; have hB1 := HB.out.1.trans (hb1.mono HB.out.1.size); have hl1 := Nat.lt_of_lt_of_le hlW hb1.size; have hX1 := (heap_alloc_old w1 (.cells (cellsR r ta tn tc ba bn bc ra rn rc) 45) hl1).trans ((hb1.block W.heap.size hlW).trans HB.out.2); clear a0 a1 a2 a3 a4 a5 a6; obtain ⟨a0, a1, a2, a3, a4, a5, a6⟩ := obj7 hX1; have hB2 := hB1.alloc hB1.size (.cells (cellsR r ta tn tc ba bn bc ra rn rc) 45); have hR1 := heap_alloc_new w1 (.cells (cellsR r ta tn tc ba bn bc ra rn rc) 45); have hm2 := hm1.keep ((Below.refl w1.heap.size w1).alloc (Nat.le_refl _) (.cells (cellsR r ta tn tc ba bn bc ra rn rc) 45)); have hg1 : w1.heap.size < (w1.alloc (.cells (cellsR r ta tn tc ba bn bc ra rn rc) 45)).heap.size := (by simp))
        | (go_at_call 15; with_reducible refine (HRR.out _ hB2).mono ?_; rintro e w3 ⟨ta', tn', tc', ba', bn', bc', ra', rn', rc', qb', qr', he, hm3, hb3⟩; subst he; have hR3 := (heap_alloc_old w3 (.cells (cellsR r ta' tn' tc' ba' bn' bc' ra' rn' rc') 45) (Nat.lt_of_lt_of_le hg1 hb3.size)).trans ((hb3.block _ hg1).trans hR1); obtain ⟨d0, d1, d2, d3, d4, d5, d6, d7⟩ := obj8 hR3; have hB3 := hB2.trans (hb3.mono hB2.size); have hB4 := hB3.alloc hB3.size (.cells (cellsR r ta' tn' tc' ba' bn' bc' ra' rn' rc') 45); have hm4 := hm3.keep ((Below.refl w3.heap.size w3).alloc (Nat.le_refl _) (.cells (cellsR r ta' tn' tc' ba' bn' bc' ra' rn' rc') 45)); have hm5 := (hm2.keep hb3).keep ((Below.refl w3.heap.size w3).alloc (Nat.le_refl _) (.cells (cellsR r ta' tn' tc' ba' bn' bc' ra' rn' rc') 45)); have hsm := rsamer_any HBD.out.1 HBD.out.2 hm5 hm4)
        | (go_at_call 16; with_reducible refine hsm.mono ?_; rintro e w5 ⟨he, hb5⟩; subst he; have hB5 := hB4.trans (hb5.mono hB4.size)))
      go_ret
      exact ⟨rfl, hB5⟩
end Ev
end Go.Proofs.YtflhmoelenmomaaGreatDoor
