/-
  The law EvalKeeps. (printed by gen_EvLQ.py)
-/
import Derived.Test.YtflhmoelenmomaaGreatDoorMEvLR
namespace Go.Proofs.YtflhmoelenmomaaGreatDoor
open Go.RowKit Go.Lib
namespace Ev
open Rc

/-- a slice whose cells lie in a block of one's own, whatever they are -/
def Shp (w : World) (B : Nat) (T : TypeId) (v : Value) : Prop := ∃ ad n cap, v = .slice ad n cap ∧ n ≤ maxLen ∧ (n = 0 ∨ ∃ g cs, ad = some ⟨g, 0, none⟩ ∧ B ≤ g ∧ w.heap[g]? = some (.cells cs T (0, 0)) ∧ n * 2 ≤ cs.size)
theorem shp_own {w : World} {B : Nat} {T : TypeId} {v : Value} {n : Nat} {xs : List Value} (h : w.ownsRow B T 2 v n xs) : Shp w B T v := by
  rcases h.2 with ⟨rfl, rfl⟩ | ⟨g, cap, cur, rfl, h1, h2, h3, h4, h5, -⟩
  · exact ⟨none, 0, 0, rfl, Nat.zero_le _, .inl rfl⟩
  · exact ⟨some ⟨g, 0, none⟩, n, cap, rfl, Nat.le_trans h3 h4, .inr ⟨g, cur, rfl, h1, h2, by rw [h5]; omega⟩⟩
theorem Shp.keep {w w' : World} {B : Nat} {T : TypeId} {v : Value} (h : Shp w B T v) (hb : Below w.heap.size w w') : Shp w' B T v := by
  obtain ⟨ad, n, cap, h1, h0, h2⟩ := h
  refine ⟨ad, n, cap, h1, h0, h2.imp id ?_⟩
  rintro ⟨g, cs, h3, h4, h5, h6⟩
  exact ⟨g, cs, h3, h4, (hb.block g (Array.getElem?_eq_some_iff.1 h5).1).trans h5, h6⟩
theorem Shp.set {w : World} {B : Nat} {T : TypeId} {v : Value} (h : Shp w B T v) (g o : Nat) (u : Value) : Shp (w.setCell ⟨g, o, none⟩ u) B T v := by
  obtain ⟨ad, n, cap, h1, h0, h2⟩ := h
  refine ⟨ad, n, cap, h1, h0, h2.imp id ?_⟩
  rintro ⟨g', cs, h3, h4, h5, h6⟩
  by_cases e : g' = g
  · subst e
    exact ⟨g', _, h3, h4, heap_setCell_same w g' o cs T u h5, by simpa using h6⟩
  · exact ⟨g', cs, h3, h4, (Below.heap_setCell _ _ _ _ e).trans h5, h6⟩
theorem DO.gaps {W : World} {B : Nat} {v : Value} {qs : List DV} {ds : List Dp} (h : DO W B v qs ds) : ∀ q ∈ qs, Shp W B 55 q.rv := fun q hq => by
  obtain ⟨i, hi⟩ := List.getElem?_of_mem hq
  have hl := (List.getElem?_eq_some_iff.1 hi).1
  have hd : ds[i]? = some (ds[i]'(by rw [← h.len]; exact hl)) := List.getElem?_eq_getElem _
  exact shp_own (h.at_ i q _ hi hd).2
theorem type_ne {w : World} {g g' : Nat} {cs cs' : Array Value} {T T' : TypeId} (h : w.heap[g]? = some (.cells cs T (0, 0))) (h' : w.heap[g']? = some (.cells cs' T' (0, 0))) (hT : T ≠ T') : g ≠ g' := fun e => by
  subst e
  rw [h] at h'
  cases h'
  exact hT rfl
/-- while the first answer's ranges are wiped out -/
structure KI (W w : World) (bx : Array Value) (A : Nat) (out : Array Value) (B5 : Nat) (v5 : Value) (all : List DV) (bv : Value) : Prop where
  below : Below W.heap.size W w
  box : w.heap[W.heap.size]? = some (.cells bx 33 (0, 0))
  rcp : w.heap[A]? = some (.cells out 45 (0, 0))
  row : w.ownsRow B5 42 2 v5 all.length (rowD all)
  gaps : ∀ q ∈ all, Shp w W.heap.size 55 q.rv
  bld : Shp w W.heap.size 42 bv
theorem KI.keep {W w w' : World} {bx : Array Value} {A : Nat} {out : Array Value} {B5 : Nat} {v5 : Value} {all : List DV} {bv : Value} (h : KI W w bx A out B5 v5 all bv) (hb : Below w.heap.size w w') : KI W w' bx A out B5 v5 all bv :=
  ⟨h.below.trans (hb.mono h.below.size), (hb.block _ (Array.getElem?_eq_some_iff.1 h.box).1).trans h.box, (hb.block _ (Array.getElem?_eq_some_iff.1 h.rcp).1).trans h.rcp, rowd_keep h.row hb, fun q hq => (h.gaps q hq).keep hb, h.bld.keep hb⟩
theorem KI.set {W w : World} {bx : Array Value} {A : Nat} {out : Array Value} {B5 : Nat} {v5 : Value} {all : List DV} {bv : Value} (h : KI W w bx A out B5 v5 all bv) {g : Nat} {cs : Array Value} (hg : W.heap.size ≤ g) (hc : w.heap[g]? = some (.cells cs 55 (0, 0))) (o : Nat) (u : Value) :
    KI W (w.setCell ⟨g, o, none⟩ u) bx A out B5 v5 all bv :=
  ⟨h.below.setCell (p := ⟨g, o, none⟩) hg _, (Below.heap_setCell _ _ _ _ (type_ne h.box hc (by decide))).trans h.box, (Below.heap_setCell _ _ _ _ (type_ne h.rcp hc (by decide))).trans h.rcp,
    ownsRow_setCell_other h.row (a := ⟨g, o, none⟩) (fun e => by
      obtain ⟨cs', h3⟩ := own_type h.row e
      rw [hc] at h3
      cases h3) _,
    fun q hq => (h.gaps q hq).set g o u, h.bld.set g o u⟩
/-- while its inputs are wiped out -/
structure KJ (W w : World) (bx : Array Value) (A : Nat) (out : Array Value) (bv : Value) : Prop where
  below : Below W.heap.size W w
  box : w.heap[W.heap.size]? = some (.cells bx 33 (0, 0))
  rcp : w.heap[A]? = some (.cells out 45 (0, 0))
  bld : Shp w W.heap.size 42 bv
theorem KJ.set {W w : World} {bx : Array Value} {A : Nat} {out : Array Value} {bv : Value} (h : KJ W w bx A out bv) {g : Nat} {cs : Array Value} (hg : W.heap.size ≤ g) (hc : w.heap[g]? = some (.cells cs 42 (0, 0))) (o : Nat) (u : Value) :
    KJ W (w.setCell ⟨g, o, none⟩ u) bx A out bv :=
  ⟨h.below.setCell (p := ⟨g, o, none⟩) hg _, (Below.heap_setCell _ _ _ _ (type_ne h.box hc (by decide))).trans h.box, (Below.heap_setCell _ _ _ _ (type_ne h.rcp hc (by decide))).trans h.rcp, h.bld.set g o u⟩
theorem cell_in {w : World} {g : Nat} {cs : Array Value} {T : TypeId} (h : w.heap[g]? = some (.cells cs T (0, 0))) {o : Nat} (ho : o < cs.size) : ∃ u, w.cell? ⟨g, o, none⟩ = some u := ⟨cs[o], by simp [World.cell?, h, ho]⟩
theorem heap_after {w : World} {g : Nat} {cs : Array Value} {T : TypeId} (h : w.heap[g]? = some (.cells cs T (0, 0))) (o : Nat) (u : Value) : ∃ cs', (w.setCell ⟨g, o, none⟩ u).heap[g]? = some (.cells cs' T (0, 0)) ∧ cs'.size = cs.size := ⟨_, heap_setCell_same w g o cs T u h, by simp⟩
theorem RcM.mono {W : World} {B B' : Nat} {r : Rcp} {ta : Option Addr} {tn tc : Nat} {ba : Option Addr} {bn bc : Nat} {ra : Option Addr} {rn rc : Nat} {qb qr : List DV} (h : RcM W B r ta tn tc ba bn bc ra rn rc qb qr) (hB : B' ≤ B) : RcM W B' r ta tn tc ba bn bc ra rn rc qb qr :=
  ⟨GO.mono h.tool hB, h.build.mono hB, h.run.mono hB⟩
set_option maxHeartbeats 8000000 in
set_option maxRecDepth 100000 in
theorem evkeeps_any {x : Rc.Src} (hx : SmlS x) (W : World) (v : Value) (hr : RepR W (fun b => b < W.heap.size) x v) (hE : Vs.Env W) :
    Calls Tryz.prog 7 #[v] W fun e W' => e = .returned (.bool true) ∧ Below W.heap.size W W' := by
  have hr0 := Lib.hid hr
  obtain ⟨k1, σ1, sl1, n1, c1, k2, σ2, sl2, n2, c2, sl, n, c, rfl, hrn, hrv, hfs, hnc⟩ := hr
  have hnl : n = x.fields.length := hfs.1
  have hA := (Below.refl W.heap.size W).alloc (Nat.le_refl _) (.cells #[.int .i64 k1, .string σ1, .slice sl1 n1 c1, .int .i64 k2, .string σ2, .slice sl2 n2 c2, .slice sl n c] 33)
  have hX := heap_alloc_new W (.cells #[.int .i64 k1, .string σ1, .slice sl1 n1 c1, .int .i64 k2, .string σ2, .slice sl2 n2 c2, .slice sl n c] 33)
  have hal := alive_any (W.alloc (.cells #[.int .i64 k1, .string σ1, .slice sl1 n1 c1, .int .i64 k2, .string σ2, .slice sl2 n2 c2, .slice sl n c] 33)) (hE.alloc _)
  have HWN := Lib.hid (fun (w : World) (hb : Below W.heap.size W w) => weigh_any hx.1 w (fun b => b < W.heap.size) _ 8192 (by decide) (by decide) (fun k hk => Nat.lt_of_lt_of_le hk hb.size) (hrn.move fun k hk => ⟨hk, hb.block k hk⟩))
  have f0 := fld_left (t := (0, x.name, x.version)) hx.1 hx.2.1 (left := 8192) (M := 8192) (by decide) (by decide) (by decide)
  dsimp only at f0
  have HWV := Lib.hid (fun (w : World) (hb : Below W.heap.size W w) => weigh_any hx.2.1 w (fun b => b < W.heap.size) _ (weigh x.name 8192 0) f0.1 (by omega) (fun k hk => Nat.lt_of_lt_of_le hk hb.size) (hrv.move fun k hk => ⟨hk, hb.block k hk⟩))
  have HF0 := Lib.hid f0.2.2
  have HE := Lib.hid hE
  have HX := Lib.hid hx
  have HFS := Lib.hid hfs
  have HNL := Lib.hid hnl
  clear hrn hrv hE hx hfs f0 hnl
  go_enter Tryz.func7, Tryz.ntmps7
  go_wp2_with (first
    | (go_at_call 10; with_reducible refine hal.mono ?_; rintro e w1 ⟨he, hb1⟩; subst he; have hB := hA.trans (hb1.mono hA.size); have hX1 := (hb1.block W.heap.size (by simp)).trans hX; clear hb1 hal))
  clear hA hX
  obtain ⟨a0, a1, a2, a3, a4, a5, a6⟩ := obj7 hX1
  have e0 := Sx.ext_cell a0
  have e1 := Sx.ext_cell a1
  have e2 := Sx.ext_cell a2
  have e3 := Sx.ext_cell a3
  have e4 := Sx.ext_cell a4
  have e5 := Sx.ext_cell a5
  clear a0 a1 a2 a3 a4 a5 a6
  refine Mix.region (fun w' => ∃ Y, w' = Sx.ext w1 Y) 7 [0, 0, 0, 0, 1, 1, 1] [true, false] (by kernel_rfl) (fun _ _ d _ _ h => by cases d <;> exact h) (by rfl) (by kernel_rfl) ⟨_, Sx.ext_of (Below.refl _ _).drew⟩ ?_
  simp only [Mix.selP_cons, Mix.selP_nil, Mix.sel_cons, Mix.sel_nil, Nat.reduceBEq, Nat.reduceAdd, cond_true, cond_false, List.drop_succ_cons, List.drop_zero]
  refine Mix.parts_q ?_
  repeat (go_big_quiet_step (fail))
  refine wpQuiet_nil ?_
  refine Mix.parts_e ?_
  refine Mix.eff_step (fun K hK => ?_)
  go_simp
  refine (HWN.out _ hB.drew).mono ?_
  rintro e w2 ⟨rfl, hB2⟩
  have hB3 : Below w1.heap.size w1 w2 := (Below.refl _ _).drew.trans hB2
  refine hK _ _ ⟨_, Sx.ext_of hB3⟩ ?_
  clear hK K e0 e1 e2 e3 e4 e5
  refine Mix.eff_step (fun K hK => ?_)
  go_simp
  refine (HWV.out _ (hB.trans (hB3.mono hB.size))).mono ?_
  rintro e w3 ⟨rfl, hB4⟩
  have hB5 : Below w1.heap.size w1 w3 := hB3.trans (hB4.mono hB3.size)
  refine hK _ _ ⟨_, Sx.ext_of hB5⟩ ?_
  clear hK K
  refine Mix.eff_step (fun K hK => ?_)
  go_simp
  refine hK _ _ ⟨_, Sx.ext_of hB5⟩ ?_
  clear hK K
  refine Mix.eff_nil (Mix.parts_n ?_)
  have hB6 := hB.trans (hB5.mono hB.size)
  have hX6 := (hB5.block W.heap.size (Array.getElem?_eq_some_iff.1 hX1).1).trans hX1
  clear hB hX1 hB2 hB3 hB4 hB5
  generalize hL2 : weigh x.version (weigh x.name 8192 0) 0 = L2 at *
  clear hL2
  go_wp2_with fail
  go_loopw [3, 4] (fun lf i wr => ∃ (k : Nat) (left : Int), k ≤ n ∧ i = .int .i64 (k : Int) ∧ lf = .int .i64 left ∧ -1000000000000000000 ≤ left ∧ left ≤ 8192 ∧ (0 ≤ left → (sizeW x.name ≤ 20000 ∧ sizeW x.version ≤ 20000) ∧ ∀ t ∈ x.fields.take k, sizeW t.2.1 ≤ 20000 ∧ sizeW t.2.2 ≤ 20000) ∧ Below W.heap.size W wr ∧ wr.heap[W.heap.size]? = some (.cells #[.int .i64 k1, .string σ1, .slice sl1 n1 c1, .int .i64 k2, .string σ2, .slice sl2 n2 c2, .slice sl n c] 33)) (fun _ i _ => n - (RowKit.intOf i).toNat)
  case atStart => exact ⟨0, L2, Nat.zero_le _, rfl, rfl, HF0.out.1, HF0.out.2.1, fun h => ⟨HF0.out.2.2 h, fun t ht => by simp at ht⟩, hB6, hX6⟩
  case round =>
    obtain ⟨k, left, hk, rfl, rfl, hl1, hl2, hsz, hb, hX7⟩ := hrel
    have HSZ := Lib.hid hsz
    clear hsz hB6 hX6
    have hlW : W.heap.size < wr.heap.size := (Array.getElem?_eq_some_iff.1 hX7).1
    obtain ⟨a0, a1, a2, a3, a4, a5, a6⟩ := obj7 hX7
    have HB := Lib.hid (And.intro hb hX7)
    by_cases hneg : left < 0
    · have hn1 : decide (0 ≤ left) = false := decide_eq_false (by omega)
      by_cases hlt : k < n
      · clear hX7
        go_wp2_with fail
        go_ret
        exact ⟨rfl, HB.out.1⟩
      · clear hX7
        go_wp2_with fail
        go_ret
        exact ⟨rfl, HB.out.1⟩
    have hn1 : decide (0 ≤ left) = true := decide_eq_true (by omega)
    by_cases hlt : k < n
    · by_cases h100 : k < 100
      · obtain ⟨t, ht⟩ : ∃ t, x.fields[k]? = some t := ⟨_, List.getElem?_eq_getElem (by rw [← HNL.out]; exact hlt)⟩
        obtain ⟨b, o, k3, σ3, sl3, n3, c3, k4, σ4, sl4, n4, c4, hsl, hfc⟩ := fld_at HFS.out ht
        subst hsl
        have hbW : b < W.heap.size := hfc.sb
        have htm := List.mem_of_getElem? ht
        obtain ⟨-, hsm3, hsm4⟩ := HX.out.2.2.2 t htm
        have f1 := fld_left (t := t) hsm3 hsm4 (left := left) (M := 8192) (by omega) (by omega) (by decide)
        have HW3 := Lib.hid (fun (w : World) (hb : Below W.heap.size W w) => weigh_any hsm3 w (fun b => b < W.heap.size) _ left (by omega) (by omega) (fun k hk => Nat.lt_of_lt_of_le hk hb.size) (hfc.rn.move fun k hk => ⟨hk, hb.block k hk⟩))
        have HW4 := Lib.hid (fun (w : World) (hb : Below W.heap.size W w) => weigh_any hsm4 w (fun b => b < W.heap.size) _ (weigh t.2.1 left 0) f1.1 (by omega) (fun k hk => Nat.lt_of_lt_of_le hk hb.size) (hfc.rr.move fun k hk => ⟨hk, hb.block k hk⟩))
        have HF1 := Lib.hid f1.2.2
        have HT := Lib.hid ht
        have HFC := Lib.hid hfc
        clear f1 ht hfc htm hsm3 hsm4 hX7
        go_wp2_with fail
        clear a0 a1 a2 a3 a4 a5
        have e6 := Sx.ext_cell a6
        have e1 := Sx.ext_cell ((hb.cell (p := ⟨b, _, none⟩) hbW).trans HFC.out.d1)
        have e2 := Sx.ext_cell ((hb.cell (p := ⟨b, _, none⟩) hbW).trans HFC.out.d2)
        have e3 := Sx.ext_cell ((hb.cell (p := ⟨b, _, none⟩) hbW).trans HFC.out.d3)
        have e4 := Sx.ext_cell ((hb.cell (p := ⟨b, _, none⟩) hbW).trans HFC.out.d4)
        have e5 := Sx.ext_cell ((hb.cell (p := ⟨b, _, none⟩) hbW).trans HFC.out.d5)
        have e7 := Sx.ext_cell ((hb.cell (p := ⟨b, _, none⟩) hbW).trans HFC.out.d6)
        clear a6
        refine Mix.region (fun w' => ∃ Y, w' = Sx.ext wr Y) 16 [0, 0, 0, 0, 0, 0, 0, 0, 0, 0, 0, 0, 0, 1, 1, 1] [true, false] (by kernel_rfl) (fun _ _ d _ _ h => by cases d <;> exact h) (by rfl) (by kernel_rfl) ⟨_, Sx.ext_of (Below.refl _ _).drew⟩ ?_
        simp only [Mix.selP_cons, Mix.selP_nil, Mix.sel_cons, Mix.sel_nil, Nat.reduceBEq, Nat.reduceAdd, cond_true, cond_false, List.drop_succ_cons, List.drop_zero]
        refine Mix.parts_q ?_
        repeat (go_big_quiet_step (fail))
        refine wpQuiet_nil ?_
        refine Mix.parts_e ?_
        refine Mix.eff_step (fun K hK => ?_)
        go_simp
        refine (HW3.out _ HB.out.1.drew).mono ?_
        rintro e w2 ⟨rfl, hB2⟩
        have hB3 : Below wr.heap.size wr w2 := (Below.refl _ _).drew.trans hB2
        refine hK _ _ ⟨_, Sx.ext_of hB3⟩ ?_
        clear hK K e1 e2 e3 e4 e5 e6 e7
        refine Mix.eff_step (fun K hK => ?_)
        go_simp
        refine (HW4.out _ (HB.out.1.trans (hB3.mono HB.out.1.size))).mono ?_
        rintro e w3 ⟨rfl, hB4⟩
        have hB5 : Below wr.heap.size wr w3 := hB3.trans (hB4.mono hB3.size)
        refine hK _ _ ⟨_, Sx.ext_of hB5⟩ ?_
        clear hK K
        refine Mix.eff_step (fun K hK => ?_)
        go_simp
        refine hK _ _ ⟨_, Sx.ext_of hB5⟩ ?_
        clear hK K
        refine Mix.eff_nil (Mix.parts_n ?_)
        have hB6 := HB.out.1.trans (hB5.mono HB.out.1.size)
        have hX8 := (hB5.block W.heap.size hlW).trans HB.out.2
        have HB6 := Lib.hid (And.intro hB6 hX8)
        clear hb hB2 hB3 hB4 hB5 hB6 hX8
        go_wp2_with fail
        refine ⟨⟨k + 1, _, hlt, by push_cast; rfl, rfl, HF1.out.1, HF1.out.2.1, fun h => ⟨(HSZ.out (by omega)).1, fun u hu => ?_⟩, HB6.out.1, HB6.out.2⟩, ?_⟩
        · rw [List.take_add_one, HT.out] at hu
          rcases List.mem_append.1 hu with hu | hu
          · exact (HSZ.out (by omega)).2 u hu
          · simp at hu
            subst hu
            exact HF1.out.2.2 h
        · simp only [RowKit.intOf]
          omega
      · have h101 : (100 : Int) < n := by omega
        clear hX7
        go_wp2_with fail
        go_ret
        exact ⟨rfl, HB.out.1⟩
    · obtain rfl : k = n := by omega
      by_cases h101 : 100 < k
      · clear hX7
        go_wp2_with fail
        go_ret
        exact ⟨rfl, HB.out.1⟩
      have hs := HSZ.out (by omega)
      rw [List.take_of_length_le (by rw [← HNL.out]; exact Nat.le_refl _)] at hs
      have HREC := Lib.hid (fun (w : World) (hb : Below W.heap.size W w) => (recipe_any HX.out hs.1.1 hs.1.2 hs.2 w (fun b => b < W.heap.size) _ (fun k hk => Nat.lt_of_lt_of_le hk hb.size) (hr0.out.move fun k hk => ⟨hk, hb.block k hk⟩) (HE.out.below (Nat.le_refl _) hb)).mono fun e W' h => rans_form h)
      have HRR := Lib.hid (fun (w : World) (hb : Below W.heap.size W w) => (rrecipe_any HX.out hs.1.1 hs.1.2 hs.2 w (fun b => b < W.heap.size) _ (fun k hk => Nat.lt_of_lt_of_le hk hb.size) (hr0.out.move fun k hk => ⟨hk, hb.block k hk⟩) (HE.out.below (Nat.le_refl _) hb)).mono fun e W' h => rans_form h)
      have HBD := Lib.hid (res_bd x)
      generalize resR (recP x) = R at *
      obtain ⟨r, ek⟩ := R
      dsimp only at HREC HRR HBD
      clear hs hX7
      go_wp2_with (first
        | (go_at_call 14; with_reducible refine (HREC.out _ HB.out.1).mono ?_; rintro e w1 ⟨ta0, tn0, tc0, ba0, bn0, bc0, ra0, rn0, rc0, qb0, qr0, he, hm1, hb1⟩; subst he; have hB1 := HB.out.1.trans (hb1.mono HB.out.1.size); have hl1 := Nat.lt_of_lt_of_le hlW hb1.size; have hX1 := (heap_alloc_old w1 (.cells (cellsR r ta0 tn0 tc0 ba0 bn0 bc0 ra0 rn0 rc0) 45) hl1).trans ((hb1.block W.heap.size hlW).trans HB.out.2); have hB2 := hB1.alloc hB1.size (.cells (cellsR r ta0 tn0 tc0 ba0 bn0 bc0 ra0 rn0 rc0) 45); have hR1 := heap_alloc_new w1 (.cells (cellsR r ta0 tn0 tc0 ba0 bn0 bc0 ra0 rn0 rc0) 45); have hm2 := RcM.mono (hm1.keep ((Below.refl w1.heap.size w1).alloc (Nat.le_refl _) (.cells (cellsR r ta0 tn0 tc0 ba0 bn0 bc0 ra0 rn0 rc0) 45))) HB.out.1.size; have hg1 : w1.heap.size < (w1.alloc (.cells (cellsR r ta0 tn0 tc0 ba0 bn0 bc0 ra0 rn0 rc0) 45)).heap.size := (by simp)))
      clear a0 a1 a2 a3 a4 a5 a6
      have HM2 := Lib.hid hm2
      have HW2 := Lib.hid (And.intro hB2 hX1)
      have HR1 := Lib.hid hR1
      clear hm1 hm2 hb1 hB1 hB2 hX1 hl1 hb
      obtain ⟨o0, o1, o2, o3, o4, o5, o6, o7⟩ := obj8 hR1
      generalize w1.alloc (.cells (cellsR r ta0 tn0 tc0 ba0 bn0 bc0 ra0 rn0 rc0) 45) = wA at *
      generalize w1.heap.size = A at *
      have e4 := Sx.ext_cell o4
      have e5 := Sx.ext_cell o5
      have e6 := Sx.ext_cell o6
      have e7 := Sx.ext_cell o7
      clear o0 o1 o2 o3 o4 o5 o6 o7 hR1
      refine Mix.region (fun w' => ∃ Y, w' = Sx.ext wA Y) 11 [0, 0, 1, 0, 0, 1, 0, 0, 1, 1, 0] [true, false] (by kernel_rfl) (fun _ _ d _ _ h => by cases d <;> exact h) (by rfl) (by kernel_rfl) ⟨_, Sx.ext_of (Below.refl _ _).drew⟩ ?_
      simp only [Mix.selP_cons, Mix.selP_nil, Mix.sel_cons, Mix.sel_nil, Nat.reduceBEq, Nat.reduceAdd, cond_true, cond_false, List.drop_succ_cons, List.drop_zero]
      refine Mix.parts_q ?_
      repeat (go_big_quiet_step (fail))
      refine wpQuiet_nil ?_
      clear e4 e5 e6 e7
      have hb0 : Below wA.heap.size wA wA.drew := (Below.refl _ _).drew
      generalize wA.drew = w0 at *
      refine Mix.parts_e ?_
      refine Mix.eff_step (fun K hK => ?_)
      go_simp
      have hb2 : Below wA.heap.size wA (w0.alloc (.cells #[.string r.tool.name, .slice ta0 tn0 tc0] 42)) := hb0.alloc hb0.size _
      have hO1 : (w0.alloc (.cells #[.string r.tool.name, .slice ta0 tn0 tc0] 42)).ownsRow wA.heap.size 42 2 (.slice (some ⟨w0.heap.size, 0, none⟩) 1 1) 1 [.string r.tool.name, .slice ta0 tn0 tc0] := World.ownsRow_lit (base := wA.heap.size) (e := 42) (size := 2) w0 #[.string r.tool.name, .slice ta0 tn0 tc0] 1 hb0.size (by unfold maxLen; omega) rfl
      refine hK _ _ ⟨_, Sx.ext_of hb2⟩ ?_
      clear hK K
      generalize w0.alloc (.cells #[.string r.tool.name, .slice ta0 tn0 tc0] 42) = w2 at *
      have hlb : qb0.length ≤ 8 := by rw [HM2.out.build.len]; exact HBD.out.2.1
      have hlr : qr0.length ≤ 8 := by rw [HM2.out.run.len]; exact HBD.out.2.2
      have HLB := Lib.hid (And.intro hlb hlr)
      refine Mix.eff_step (fun K hK => ?_)
      refine step_catD rfl _ _ rfl wA.heap.size (.slice (some ⟨w0.heap.size, 0, none⟩) 1 1) [(⟨r.tool.name, ta0, tn0, tc0⟩ : DV)] rfl hO1 W.heap.size (.slice ba0 bn0 bc0) qb0 rfl (rowd_keep HM2.out.build.row hb2) (by simp) (by omega) hb2.size ?_
      intro v3 w3 hO3 hg3
      have hb3 : Below wA.heap.size wA w3 := hb2.grown hg3 hb2.size (fun k e => (hO1.lt k e).1)
      refine hK _ _ ⟨_, Sx.ext_of hb3⟩ ?_
      clear hK K
      refine Mix.eff_step (fun K hK => ?_)
      refine step_catD rfl _ _ rfl wA.heap.size v3 ([(⟨r.tool.name, ta0, tn0, tc0⟩ : DV)] ++ qb0) rfl hO3 W.heap.size (.slice ra0 rn0 rc0) qr0 rfl (rowd_keep HM2.out.run.row hb3) (by simp; omega) (by omega) hb3.size ?_
      intro v5 w5 hO5 hg5
      have hb5 : Below wA.heap.size wA w5 := hb3.grown hg5 hb3.size (fun k e => (hO3.lt k e).1)
      refine hK _ _ ⟨_, Sx.ext_of hb5⟩ ?_
      clear hK K
      have hall : ∀ q ∈ ([(⟨r.tool.name, ta0, tn0, tc0⟩ : DV)] ++ qb0) ++ qr0, Shp w5 W.heap.size 55 q.rv := fun q hq => by
        rcases List.mem_append.1 hq with hq | hq
        · rcases List.mem_append.1 hq with hq | hq
          · simp at hq
            subst hq
            exact (shp_own HM2.out.tool).keep hb5
          · exact (HM2.out.build.gaps q hq).keep hb5
        · exact (HM2.out.run.gaps q hq).keep hb5
      have hlen17 : (([(⟨r.tool.name, ta0, tn0, tc0⟩ : DV)] ++ qb0) ++ qr0).length ≤ 17 := by simp; omega
      have hpos : 0 < (([(⟨r.tool.name, ta0, tn0, tc0⟩ : DV)] ++ qb0) ++ qr0).length := by simp
      generalize hAL : ([(⟨r.tool.name, ta0, tn0, tc0⟩ : DV)] ++ qb0) ++ qr0 = all at *
      clear hAL
      obtain ⟨g5, c5, rfl, hg5b, hg5l⟩ := hO5.form hpos
      have hki : KI W w5 #[.int .i64 k1, .string σ1, .slice sl1 n1 c1, .int .i64 k2, .string σ2, .slice sl2 n2 c2, .slice sl k c] A (cellsR r ta0 tn0 tc0 ba0 bn0 bc0 ra0 rn0 rc0) wA.heap.size (.slice (some ⟨g5, 0, none⟩) all.length c5) all (.slice ba0 bn0 bc0) := ⟨HW2.out.1.trans (hb5.mono HW2.out.1.size), (hb5.block _ (Array.getElem?_eq_some_iff.1 HW2.out.2).1).trans HW2.out.2, (hb5.block _ (Array.getElem?_eq_some_iff.1 HR1.out).1).trans HR1.out, hO5, hall, (shp_own HM2.out.build.row).keep hb5⟩
      have HKI := Lib.hid hki
      clear hki hall hO5 hO3 hO1 hb2 hb3 hg3 hg5 hlb hlr hpos HM2 HR1 HW2 hb0
      refine Mix.eff_step (fun K hK => ?_)
      go_simp
      refine hK _ _ ⟨_, Sx.ext_of hb5⟩ ?_
      clear hK K hb5
      refine Mix.eff_nil (Mix.parts_n ?_)
      go_wp2_with fail
      go_loopw [76] (fun i wq => ∃ j : Nat, j ≤ all.length ∧ i = .int .i64 (j : Int) ∧ KI W wq #[.int .i64 k1, .string σ1, .slice sl1 n1 c1, .int .i64 k2, .string σ2, .slice sl2 n2 c2, .slice sl k c] A (cellsR r ta0 tn0 tc0 ba0 bn0 bc0 ra0 rn0 rc0) wA.heap.size (.slice (some ⟨g5, 0, none⟩) all.length c5) all (.slice ba0 bn0 bc0)) (fun i _ => all.length - (RowKit.intOf i).toNat)
      case atStart => exact ⟨0, Nat.zero_le _, rfl, HKI.out⟩
      case round =>
        obtain ⟨wq, hwq⟩ : ∃ w, w = wr := ⟨_, rfl⟩
        subst hwq
        obtain ⟨j, hj, rfl, hK⟩ := hrel
        clear HKI
        by_cases hjl : j < all.length
        · obtain ⟨q, hq⟩ : ∃ q, all[j]? = some q := ⟨_, List.getElem?_eq_getElem hjl⟩
          obtain ⟨r1, r2⟩ := rowD_at all j q hq
          have hadd : ∀ n, (⟨g5, 0, none⟩ : Addr).add n = ⟨g5, n, none⟩ := fun n => by unfold Addr.add; split <;> simp_all
          have c0 := hK.row.cells (g := g5) rfl _ _ r1
          have c1 := hK.row.cells (g := g5) rfl _ _ r2
          rw [hadd] at c0 c1
          obtain ⟨σ, qa, qn, qc⟩ := q
          have HSH := Lib.hid (hK.gaps _ (List.mem_of_getElem? hq))
          have hA1 := (Below.refl wq.heap.size wq).alloc (Nat.le_refl _) (.cells #[.string σ, .slice qa qn qc] 42)
          have hD1 := heap_alloc_new wq (.cells #[.string σ, .slice qa qn qc] 42)
          have HK1 := Lib.hid (And.intro (hK.keep hA1) hD1)
          have hWq := hK.below.size
          obtain ⟨ad, nn, cc, e9, hmx, hsh⟩ := HSH.out
          injection e9 with e91 e92 e93
          subst e91 e92 e93
          have hmx9 : qn ≤ 9223372036854775807 := Nat.le_trans hmx (by decide)
          clear hq r1 r2 hadd hK hA1
          obtain ⟨d0, d1⟩ := obj2 hD1
          go_wp2_with fail
          clear d0 d1 hD1 c0 c1
          go_loopw [83] (fun i wz => ∃ m : Nat, m ≤ qn ∧ i = .int .i64 (m : Int) ∧ KI W wz #[.int .i64 k1, .string σ1, .slice sl1 n1 c1, .int .i64 k2, .string σ2, .slice sl2 n2 c2, .slice sl k c] A (cellsR r ta0 tn0 tc0 ba0 bn0 bc0 ra0 rn0 rc0) wA.heap.size (.slice (some ⟨g5, 0, none⟩) all.length c5) all (.slice ba0 bn0 bc0) ∧ Shp wz W.heap.size 55 (.slice qa qn qc) ∧ wz.heap[wq.heap.size]? = some (.cells #[.string σ, .slice qa qn qc] 42)) (fun i _ => qn - (RowKit.intOf i).toNat)
          case atStart => exact ⟨0, Nat.zero_le _, rfl, HK1.out.1, HSH.out.keep ((Below.refl wq.heap.size wq).alloc (Nat.le_refl _) _), HK1.out.2⟩
          case round =>
            obtain ⟨wz, hwz⟩ : ∃ w, w = wr := ⟨_, rfl⟩
            subst hwz
            obtain ⟨m, hm, rfl, hK2, hS2, hD2⟩ := hrel
            obtain ⟨d0, d1⟩ := obj2 hD2
            by_cases hml : m < qn
            · obtain ⟨ad, nn, cc, e9, -, h0 | ⟨gg, cs, e8, hgg, hcs, hsz⟩⟩ := hS2
              · injection e9 with e91 e92 e93
                omega
              · injection e9 with e91 e92 e93
                subst e92 e93
                subst e8
                subst e91
                obtain ⟨u0, z0⟩ := cell_in hcs (o := m * 2) (by omega)
                obtain ⟨u1, z1⟩ := cell_in hcs (o := m * 2 + 1) (by omega)
                have zf := frz hcs
                obtain ⟨cs', hcs', hcz⟩ := heap_after hcs (m * 2) (.int .i64 0)
                have HK3 := Lib.hid ((hK2.set hgg hcs (m * 2) (.int .i64 0)).set hgg hcs' (m * 2 + 1) (.int .i64 0))
                have HS3 := Lib.hid (((show Shp wz W.heap.size 55 (.slice (some ⟨gg, 0, none⟩) qn qc) from ⟨_, _, _, rfl, hmx, .inr ⟨gg, cs, rfl, hgg, hcs, hsz⟩⟩).set gg (m * 2) (.int .i64 0)).set gg (m * 2 + 1) (.int .i64 0))
                have hne : wq.heap.size ≠ gg := type_ne hD2 hcs (by decide)
                have HD3 := Lib.hid (show ((wz.setCell ⟨gg, m * 2, none⟩ (.int .i64 0)).setCell ⟨gg, m * 2 + 1, none⟩ (.int .i64 0)).heap[wq.heap.size]? = some (.cells #[.string σ, .slice (some ⟨gg, 0, none⟩) qn qc] 42) from (Below.heap_setCell _ _ _ _ hne).trans ((Below.heap_setCell _ _ _ _ hne).trans hD2))
                clear hK2 hcs hcs' hD2 hcz hsz
                go_wp2_with fail
                refine ⟨⟨m + 1, hml, by push_cast; rfl, HK3.out, HS3.out, HD3.out⟩, ?_⟩
                simp only [RowKit.intOf]
                omega
            · obtain rfl : m = qn := by omega
              have HK3 := Lib.hid hK2
              clear hK2 hD2 hS2
              go_wp2_with fail
              refine ⟨⟨j + 1, hjl, by push_cast; rfl, HK3.out⟩, ?_⟩
              simp only [RowKit.intOf]
              omega
        · obtain ⟨o0, o1, o2, o3, o4, o5, o6, o7⟩ := obj8 hK.rcp
          have HKJ := Lib.hid (show KJ W wq #[.int .i64 k1, .string σ1, .slice sl1 n1 c1, .int .i64 k2, .string σ2, .slice sl2 n2 c2, .slice sl k c] A (cellsR r ta0 tn0 tc0 ba0 bn0 bc0 ra0 rn0 rc0) (.slice ba0 bn0 bc0) from ⟨hK.below, hK.box, hK.rcp, hK.bld⟩)
          obtain ⟨ad, nn, cc, e9, hmx, -⟩ := hK.bld
          injection e9 with e91 e92 e93
          subst e91 e92 e93
          have hmx9 : bn0 ≤ 9223372036854775807 := Nat.le_trans hmx (by decide)
          clear hK
          go_wp2_with fail
          clear o0 o1 o2 o3 o4 o5 o6 o7
          go_loopw [96] (fun i wz => ∃ m : Nat, m ≤ bn0 ∧ i = .int .i64 (m : Int) ∧ KJ W wz #[.int .i64 k1, .string σ1, .slice sl1 n1 c1, .int .i64 k2, .string σ2, .slice sl2 n2 c2, .slice sl k c] A (cellsR r ta0 tn0 tc0 ba0 bn0 bc0 ra0 rn0 rc0) (.slice ba0 bn0 bc0)) (fun i _ => bn0 - (RowKit.intOf i).toNat)
          case atStart => exact ⟨0, Nat.zero_le _, rfl, HKJ.out⟩
          case round =>
            obtain ⟨wz, hwz⟩ : ∃ w, w = wr := ⟨_, rfl⟩
            subst hwz
            obtain ⟨m, hm, rfl, hK2⟩ := hrel
            clear HKJ
            obtain ⟨o0, o1, o2, o3, o4, o5, o6, o7⟩ := obj8 hK2.rcp
            by_cases hml : m < bn0
            · obtain ⟨ad, nn, cc, e9, -, h0 | ⟨gg, cs, e8, hgg, hcs, hsz⟩⟩ := hK2.bld
              · injection e9 with e91 e92 e93
                omega
              · injection e9 with e91 e92 e93
                subst e92 e93
                subst e8
                subst e91
                obtain ⟨u0, z0⟩ := cell_in hcs (o := m * 2) (by omega)
                obtain ⟨u1, z1⟩ := cell_in hcs (o := m * 2 + 1) (by omega)
                have zf := frz hcs
                obtain ⟨cs', hcs', hcz⟩ := heap_after hcs (m * 2) (.string ⟨#[]⟩)
                have HK3 := Lib.hid ((hK2.set hgg hcs (m * 2) (.string ⟨#[]⟩)).set hgg hcs' (m * 2 + 1) (.slice none 0 0))
                clear hK2 hcs hcs' hcz hsz
                go_wp2_with fail
                refine ⟨⟨m + 1, hml, by push_cast; rfl, HK3.out⟩, ?_⟩
                simp only [RowKit.intOf]
                omega
            · obtain ⟨a0, a1, a2, a3, a4, a5, a6⟩ := obj7 hK2.box
              have HB' := Lib.hid (And.intro hK2.below hK2.box)
              have hlZ : W.heap.size < wz.heap.size := (Array.getElem?_eq_some_iff.1 hK2.box).1
              clear hK2 o0 o1 o2 o3 o4 o5 o6 o7
              go_wp2_with (first
                | (go_at_call 14; with_reducible refine (HREC.out _ HB'.out.1).mono ?_; rintro e w1 ⟨ta, tn, tc, ba, bn, bc, ra, rn, rc, qb, qr, he, hm1, hb1⟩; subst he; have hB1 := HB'.out.1.trans (hb1.mono HB'.out.1.size); have hl1 := Nat.lt_of_lt_of_le hlZ hb1.size; have hX1 := (heap_alloc_old w1 (.cells (cellsR r ta tn tc ba bn bc ra rn rc) 45) hl1).trans ((hb1.block W.heap.size hlZ).trans HB'.out.2); clear a0 a1 a2 a3 a4 a5 a6; obtain ⟨a0, a1, a2, a3, a4, a5, a6⟩ := obj7 hX1; have hB2 := hB1.alloc hB1.size (.cells (cellsR r ta tn tc ba bn bc ra rn rc) 45); have hR1 := heap_alloc_new w1 (.cells (cellsR r ta tn tc ba bn bc ra rn rc) 45); have hm2 := hm1.keep ((Below.refl w1.heap.size w1).alloc (Nat.le_refl _) (.cells (cellsR r ta tn tc ba bn bc ra rn rc) 45)); have hg1 : w1.heap.size < (w1.alloc (.cells (cellsR r ta tn tc ba bn bc ra rn rc) 45)).heap.size := (by simp))
                | (go_at_call 15; with_reducible refine (HRR.out _ hB2).mono ?_; rintro e w3 ⟨ta', tn', tc', ba', bn', bc', ra', rn', rc', qb', qr', he, hm3, hb3⟩; subst he; have hR3 := (heap_alloc_old w3 (.cells (cellsR r ta' tn' tc' ba' bn' bc' ra' rn' rc') 45) (Nat.lt_of_lt_of_le hg1 hb3.size)).trans ((hb3.block _ hg1).trans hR1); obtain ⟨d0, d1, d2, d3, d4, d5, d6, d7⟩ := obj8 hR3; have hB3 := hB2.trans (hb3.mono hB2.size); have hB4 := hB3.alloc hB3.size (.cells (cellsR r ta' tn' tc' ba' bn' bc' ra' rn' rc') 45); have hm4 := hm3.keep ((Below.refl w3.heap.size w3).alloc (Nat.le_refl _) (.cells (cellsR r ta' tn' tc' ba' bn' bc' ra' rn' rc') 45)); have hm5 := (hm2.keep hb3).keep ((Below.refl w3.heap.size w3).alloc (Nat.le_refl _) (.cells (cellsR r ta' tn' tc' ba' bn' bc' ra' rn' rc') 45)); have hsm := rsamer_any HBD.out.1 HBD.out.2 hm5 hm4)
                | (go_at_call 16; with_reducible refine hsm.mono ?_; rintro e w5 ⟨he, hb5⟩; subst he; have hB5 := hB4.trans (hb5.mono hB4.size)))
              go_ret
              exact ⟨rfl, hB5⟩
end Ev
end Go.Proofs.YtflhmoelenmomaaGreatDoor
