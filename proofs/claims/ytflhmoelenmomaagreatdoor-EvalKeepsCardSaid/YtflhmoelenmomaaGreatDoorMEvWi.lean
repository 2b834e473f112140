/-
  The reference's Recipe. (printed by gen_EvWi.py)
-/
import Derived.Test.YtflhmoelenmomaaGreatDoorMEvWh
namespace Go.Proofs.YtflhmoelenmomaaGreatDoor
open Go.RowKit Go.Lib
namespace Ev
open Rc

set_option maxRecDepth 100000 in
theorem rrec_results {tmps : Array Value} {X : World} {g : Nat} {u0 u1 u2 u3 u4 u5 u6 u7 z : Value} (t2 : tmps[2]? = some (.pointer (some ⟨g, 0, none⟩))) (t3 : tmps[3]? = some z)
    (b0 : X.heap[g]? = some (.cells #[u0, u1, u2, u3, u4, u5, u6, u7] 45 (0, 0))) :
    (results Tryz.f15 tmps).run Tryz.prog X = .ok (.tuple #[.agg #[u0, u1, u2, u3, u4, u5, u6, u7], z]) X := by
  obtain ⟨c0, c1, c2, c3, c4, c5, c6, c7⟩ := obj8 b0
  simp [results, Tryz.results15, go_sem, t2, t3, c0, c1, c2, c3, c4, c5, c6, c7]
/-- the reference's Recipe: the argument, the result's cells -/
structure RRg (W w : World) (cs : Array Value) : Prop where
  below : Below W.heap.size W w
  bx : w.heap[W.heap.size]? = some (.cells cs 33 (0, 0))
  b0 : w.heap[W.heap.size + 1]? = some (.cells zero8 45 (0, 0))
  sz : W.heap.size + 2 ≤ w.heap.size
theorem RRg.start (W : World) (cs : Array Value) : RRg W ((W.alloc (.cells cs 33)).alloc (.cells zero8 45)) cs :=
  ⟨((Below.refl _ _).alloc (Nat.le_refl _) _).alloc (by simp) _, (heap_alloc_old _ _ (by simp)).trans (heap_alloc_new W _), by
    have := heap_alloc_new (W.alloc (.cells cs 33)) (.cells zero8 45)
    simpa using this, by simp⟩
theorem RRg.keep {W w w' : World} {cs : Array Value} (h : RRg W w cs) (hb : Below w.heap.size w w') : RRg W w' cs := by
  have := h.sz
  exact ⟨h.below.trans (hb.mono h.below.size), (hb.block _ (by omega)).trans h.bx, (hb.block _ (by omega)).trans h.b0, Nat.le_trans h.sz hb.size⟩
/-- and the recipe that is made -/
structure RRz (W w : World) (cs : Array Value) (og : Nat) (out : Array Value) : Prop extends RRg W w cs where
  ob : w.heap[og]? = some (.cells out 45 (0, 0))
  lo : W.heap.size + 2 ≤ og
theorem RRz.new {W w : World} {cs : Array Value} (h : RRg W w cs) (out : Array Value) : RRz W (w.alloc (.cells out 45)) cs w.heap.size out :=
  ⟨h.keep ((Below.refl _ _).alloc (Nat.le_refl _) _), heap_alloc_new w _, h.sz⟩
theorem RRz.keep {W w w' : World} {cs out : Array Value} {og : Nat} (h : RRz W w cs og out) (hb : Below w.heap.size w w') : RRz W w' cs og out :=
  ⟨h.toRRg.keep hb, (hb.block _ (Array.getElem?_eq_some_iff.1 h.ob).1).trans h.ob, h.lo⟩
theorem RRz.out {W w : World} {cs out : Array Value} {og : Nat} (h : RRz W w cs og out) (j : Nat) (u : Value) : RRz W (w.setCell ⟨og, j, none⟩ u) cs og (out.setIfInBounds j u) := by
  have := h.lo
  exact ⟨⟨h.below.setCell (p := ⟨og, j, none⟩) (by show W.heap.size ≤ og; omega) _, (Below.heap_setCell _ _ _ _ (by show W.heap.size ≠ og; omega)).trans h.bx, (Below.heap_setCell _ _ _ _ (by show W.heap.size + 1 ≠ og; omega)).trans h.b0, by simp; exact h.sz⟩, heap_setCell_same w _ j _ _ _ h.ob, h.lo⟩
theorem rrec_bad {W w : World} {cs : Array Value} (h : RRg W w cs) {q : Except Int Rcp} {k : Int} (hq : q = .error k) (tmps : Array Value) (h2 : tmps[2]? = some (.pointer (some ⟨W.heap.size + 1, 0, none⟩))) (h3 : tmps[3]? = some (.int .i64 k)) :
    bodyPost Tryz.prog Tryz.f15 (fun e W' => RAns W q e W') .ret { tmps := tmps, defers := [] } (put8 w (W.heap.size + 1) (.string ⟨#[]⟩) (.int .i64 0) (.int .i64 0) (.int .i64 0) (.string ⟨#[]⟩) (.slice none 0 0) (.slice none 0 0) (.slice none 0 0)) := by
  have hs := put8_same h.b0 (.string ⟨#[]⟩) (.int .i64 0) (.int .i64 0) (.int .i64 0) (.string ⟨#[]⟩) (.slice none 0 0) (.slice none 0 0) (.slice none 0 0)
  refine bodyPost_ret (rrec_results h2 h3 hs) rfl ?_
  refine ⟨put8_below h.below (Nat.le_succ _) _ _ _ _ _ _ _ _, ?_⟩
  rw [hq]
theorem rrec_bad0 {W w : World} {cs : Array Value} (h : RRg W w cs) {q : Except Int Rcp} {k : Int} (hq : q = .error k) (tmps : Array Value) (h2 : tmps[2]? = some (.pointer (some ⟨W.heap.size + 1, 0, none⟩))) (h3 : tmps[3]? = some (.int .i64 k)) :
    bodyPost Tryz.prog Tryz.f15 (fun e W' => RAns W q e W') .ret { tmps := tmps, defers := [] } w := by
  refine bodyPost_ret (rrec_results h2 h3 h.b0) rfl ?_
  refine ⟨h.below, ?_⟩
  rw [hq]
/-- the answer's parts stand though the recipe's own cells change -/
theorem DO.store {w w' : World} {B og : Nat} {v : Value} {qs : List DV} {ds : List Dp} {out : Array Value} (h : DO w B v qs ds) (ho : w.heap[og]? = some (.cells out 45 (0, 0))) (hw : ∀ g, g ≠ og → w'.heap[g]? = w.heap[g]?) : DO w' B v qs ds :=
  h.move fun g _ T hT hg _ => hw g fun e => by
    subst e
    rw [ho] at hg
    cases hg
    rcases hT with hT | hT
    · revert hT; decide
    · revert hT; decide
theorem GO.store {w w' : World} {B og : Nat} {v : Value} {l : List Sg.G} {out : Array Value} (h : Sg.GO w B v l) (ho : w.heap[og]? = some (.cells out 45 (0, 0))) (hw : ∀ g, g ≠ og → w'.heap[g]? = w.heap[g]?) : Sg.GO w' B v l :=
  go_move h fun g _ hg _ => hw g fun e => by
    subst e
    rw [ho] at hg
    cases hg
/-- the parts of the answer so far -/
structure RRy (W wr : World) (st : RSt) (tv bv rv : Value) (qb qr : List DV) : Prop where
  tool : Sg.GO wr W.heap.size tv (toolD st).rng
  build : DO wr W.heap.size bv qb st.build
  run : DO wr W.heap.size rv qr st.run
  lb : st.build.length ≤ 8
  lr : st.run.length ≤ 8
theorem RRy.keep {W wr w' : World} {st : RSt} {tv bv rv : Value} {qb qr : List DV} (h : RRy W wr st tv bv rv qb qr) (hb : Below wr.heap.size wr w') : RRy W w' st tv bv rv qb qr :=
  ⟨go_move h.tool fun g _ hg _ => hb.block g (Array.getElem?_eq_some_iff.1 hg).1, h.build.keep hb, h.run.keep hb, h.lb, h.lr⟩
theorem RRy.store {W w w' : World} {og : Nat} {st : RSt} {tv bv rv : Value} {qb qr : List DV} {out : Array Value} (h : RRy W w st tv bv rv qb qr) (ho : w.heap[og]? = some (.cells out 45 (0, 0))) (hw : ∀ g, g ≠ og → w'.heap[g]? = w.heap[g]?) : RRy W w' st tv bv rv qb qr :=
  ⟨GO.store h.tool ho hw, h.build.store ho hw, h.run.store ho hw, h.lb, h.lr⟩
theorem RRy.start (W w : World) : RRy W w ⟨none, [], []⟩ (.slice none 0 0) (.slice none 0 0) (.slice none 0 0) [] [] :=
  ⟨Sg.go_nil _ _, DO.nil _ _, DO.nil _ _, by simp, by simp⟩
set_option maxHeartbeats 8000000 in
set_option maxRecDepth 100000 in
theorem rrecipe_any {x : Rc.Src} (hx : SmlS x) (hwn : sizeW x.name ≤ 20000) (hwv : sizeW x.version ≤ 20000) (hwf : ∀ f ∈ x.fields, sizeW f.2.1 ≤ 20000 ∧ sizeW f.2.2 ≤ 20000) (W : World) (S : Nat → Prop) (v : Value) (hS : ∀ b, S b → b < W.heap.size) (hr : RepR W S x v) (hE : Vs.Env W) :
    Calls Tryz.prog 15 #[v] W fun e W' => RAns W (recP x) e W' := by
  obtain ⟨k1, σ1, sl1, n1, c1, k2, σ2, sl2, n2, c2, sl, n, c, rfl, hrn, hrv, hfs, hnc⟩ := hr
  have hnl : n = x.fields.length := hfs.1
  have HN := Lib.hid (fun (w : World) (hb : Below W.heap.size W w) => word_any hx.1 hwn w S _ (fun k hk => Nat.lt_of_lt_of_le (hS k hk) hb.size) (hrn.move fun k hk => ⟨hk, hb.block k (hS k hk)⟩))
  have HT := Lib.hid (fun (w : World) (hb : Below W.heap.size W w) => reval_any hx.2.1 hwv w S _ (fun k hk => Nat.lt_of_lt_of_le (hS k hk) hb.size) (hrv.move fun k hk => ⟨hk, hb.block k (hS k hk)⟩))
  have HE := Lib.hid hE
  have HS := Lib.hid hS
  have HX := Lib.hid (And.intro hx hwf)
  have HFS := Lib.hid hfs
  clear hx hwn hwv hwf hS hrn hrv hE hfs
  have HST := Lib.hid (RRg.start W #[.int .i64 k1, .string σ1, .slice sl1 n1 c1, .int .i64 k2, .string σ2, .slice sl2 n2 c2, .slice sl n c])
  by_cases hlen : 20 < n
  · have HP := Lib.hid (show recP x = .error 13 by unfold recP headP; rw [if_neg (by omega)])
    clear hnl
    go_enter Tryz.func15, Tryz.ntmps15
    go_wp2_with fail
    refine rrec_bad0 HST.out HP.out _ ?_ ?_ <;> rfl
  cases hn : nameP x.name with
  | error k =>
    have HP := Lib.hid (show recP x = .error k by unfold recP headP; rw [if_pos (by omega), hn])
    have he9 : (k == 0) = false := beq_eq_false_iff_ne.2 (name_er hn)
    rw [hn] at HN
    simp only [wordV] at HN
    clear hn hnl
    go_enter Tryz.func15, Tryz.ntmps15
    go_wp2_with (first
      | (go_at_call 32; with_reducible refine (HN.out _ (RRg.start W #[.int .i64 k1, .string σ1, .slice sl1 n1 c1, .int .i64 k2, .string σ2, .slice sl2 n2 c2, .slice sl n c]).below).mono ?_; rintro e w1 ⟨he, hb1⟩; subst he; have hq1 := (RRg.start W #[.int .i64 k1, .string σ1, .slice sl1 n1 c1, .int .i64 k2, .string σ2, .slice sl2 n2 c2, .slice sl n c]).keep hb1; obtain ⟨b0, b1, b2, b3, b4, b5, b6, b7⟩ := obj8 hq1.b0; have bf := frz hq1.b0))
    refine rrec_bad hq1 HP.out _ ?_ ?_ <;> rfl
  | ok nm =>
  rw [hn] at HN
  simp only [wordV] at HN
  unfold evalV at HT
  have hev : textP x.version = if (evalP x.version).2.2 = 0 then .ok (evalP x.version).1 else .error (evalP x.version).2.2 := rfl
  have hbd := (eval_bounds x.version).2
  generalize evalP x.version = p at *
  obtain ⟨tx, j, kk⟩ := p
  simp only at hev hbd HT
  by_cases hk : kk = 0
  rotate_left
  · have HP := Lib.hid (show recP x = .error kk by unfold recP headP; rw [if_pos (by omega), hn]; dsimp only; rw [hev, if_neg hk])
    have he9 : (kk == 0) = false := beq_eq_false_iff_ne.2 hk
    clear hn hev hk hnl
    go_enter Tryz.func15, Tryz.ntmps15
    go_wp2_with (first
      | (go_at_call 32; with_reducible refine (HN.out _ (RRg.start W #[.int .i64 k1, .string σ1, .slice sl1 n1 c1, .int .i64 k2, .string σ2, .slice sl2 n2 c2, .slice sl n c]).below).mono ?_; rintro e w1 ⟨he, hb1⟩; subst he; have hq1 := (RRg.start W #[.int .i64 k1, .string σ1, .slice sl1 n1 c1, .int .i64 k2, .string σ2, .slice sl2 n2 c2, .slice sl n c]).keep hb1; have hq2 := RRz.new hq1 #[.string nm, .int .i64 0, .int .i64 0, .int .i64 0, .string ⟨#[]⟩, .slice none 0 0, .slice none 0 0, .slice none 0 0]; obtain ⟨a0, a1, a2, a3, a4, a5, a6⟩ := obj7 hq2.bx)
      | (go_at_call 13; with_reducible refine (HT.out _ hq2.below).mono ?_; rintro e w2 ⟨he, hb2⟩; subst he; have hq3 := hq2.keep hb2; obtain ⟨b0, b1, b2, b3, b4, b5, b6, b7⟩ := obj8 hq3.b0; have bf := frz hq3.b0))
    refine rrec_bad hq3.toRRg HP.out _ ?_ ?_ <;> rfl
  subst hk
  rw [if_pos rfl] at hev
  have HV := Lib.hid (fun (w : World) (hb : Below W.heap.size W w) => Vs.parser_any tx (by omega) w)
  cases hv : Vs.parseL tx.data.toList with
  | none =>
    have HP := Lib.hid (show recP x = .error 20 by unfold recP headP; rw [if_pos (by omega), hn]; dsimp only; rw [hev]; dsimp only; rw [hv])
    rw [hv] at HV
    simp only [Vs.PV_none] at HV
    clear hn hev hv hnl hbd
    go_enter Tryz.func15, Tryz.ntmps15
    go_wp2_with (first
      | (go_at_call 32; with_reducible refine (HN.out _ (RRg.start W #[.int .i64 k1, .string σ1, .slice sl1 n1 c1, .int .i64 k2, .string σ2, .slice sl2 n2 c2, .slice sl n c]).below).mono ?_; rintro e w1 ⟨he, hb1⟩; subst he; have hq1 := (RRg.start W #[.int .i64 k1, .string σ1, .slice sl1 n1 c1, .int .i64 k2, .string σ2, .slice sl2 n2 c2, .slice sl n c]).keep hb1; have hq2 := RRz.new hq1 #[.string nm, .int .i64 0, .int .i64 0, .int .i64 0, .string ⟨#[]⟩, .slice none 0 0, .slice none 0 0, .slice none 0 0]; obtain ⟨a0, a1, a2, a3, a4, a5, a6⟩ := obj7 hq2.bx)
      | (go_at_call 13; with_reducible refine (HT.out _ hq2.below).mono ?_; rintro e w2 ⟨he, hb2⟩; subst he; have hq3 := hq2.keep hb2; clear a0 a1 a2 a3 a4 a5 a6 hq1)
      | (go_at_call 33; with_reducible refine (HV.out _ hq3.below).mono ?_; rintro e w3 ⟨he, hb3⟩; subst he; have hq4 := hq3.keep hb3; obtain ⟨a0, a1, a2, a3, a4, a5, a6⟩ := obj7 hq4.bx; obtain ⟨b0, b1, b2, b3, b4, b5, b6, b7⟩ := obj8 hq4.b0; have bf := frz hq4.b0; obtain ⟨d0, d1, d2, d3, d4, d5, d6, d7⟩ := obj8 hq4.ob; have df := frz hq4.ob; have hne := hq4.lo; have hno : ¬ w1.heap.size = W.heap.size + 1 := (by omega)))
    have h5 := ((hq4.out 1 (.int .i64 0)).out 2 (.int .i64 0)).out 3 (.int .i64 0)
    refine rrec_bad h5.toRRg HP.out _ ?_ ?_ <;> rfl
  | some ver =>
  obtain ⟨va, vb, vc⟩ := ver
  rw [hv] at HV
  simp only [Vs.PV_some] at HV
  have HP := Lib.hid (show recP x = lastP nm (va, vb, vc) (fieldsM x.fields ⟨none, [], []⟩) by unfold recP headP; rw [if_pos (by omega), hn]; dsimp only; rw [hev]; dsimp only; rw [hv])
  have HNL := Lib.hid hnl
  have HLE := Lib.hid hlen
  clear hn hev hv hbd hnl
  go_enter Tryz.func15, Tryz.ntmps15
  go_wp2_with (first
    | (go_at_call 32; with_reducible refine (HN.out _ (RRg.start W #[.int .i64 k1, .string σ1, .slice sl1 n1 c1, .int .i64 k2, .string σ2, .slice sl2 n2 c2, .slice sl n c]).below).mono ?_; rintro e w1 ⟨he, hb1⟩; subst he; have hq1 := (RRg.start W #[.int .i64 k1, .string σ1, .slice sl1 n1 c1, .int .i64 k2, .string σ2, .slice sl2 n2 c2, .slice sl n c]).keep hb1; have hq2 := RRz.new hq1 #[.string nm, .int .i64 0, .int .i64 0, .int .i64 0, .string ⟨#[]⟩, .slice none 0 0, .slice none 0 0, .slice none 0 0]; obtain ⟨a0, a1, a2, a3, a4, a5, a6⟩ := obj7 hq2.bx)
    | (go_at_call 13; with_reducible refine (HT.out _ hq2.below).mono ?_; rintro e w2 ⟨he, hb2⟩; subst he; have hq3 := hq2.keep hb2; clear a0 a1 a2 a3 a4 a5 a6 hq1)
    | (go_at_call 33; with_reducible refine (HV.out _ hq3.below).mono ?_; rintro e w3 ⟨he, hb3⟩; subst he; have hq4 := hq3.keep hb3; obtain ⟨a0, a1, a2, a3, a4, a5, a6⟩ := obj7 hq4.bx; obtain ⟨b0, b1, b2, b3, b4, b5, b6, b7⟩ := obj8 hq4.b0; have bf := frz hq4.b0; obtain ⟨d0, d1, d2, d3, d4, d5, d6, d7⟩ := obj8 hq4.ob; have df := frz hq4.ob; have hne := hq4.lo; have hno : ¬ w1.heap.size = W.heap.size + 1 := (by omega)))
  have h5 := ((hq4.out 1 (.int .i64 va)).out 2 (.int .i64 vb)).out 3 (.int .i64 vc)
  simp only [List.setIfInBounds_toArray, List.set_cons_succ, List.set_cons_zero] at h5
  clear a0 a1 a2 a3 a4 a5 a6 b0 b1 b2 b3 b4 b5 b6 b7 bf d0 d1 d2 d3 d4 d5 d6 d7 df hq2 hq3 hq4 hb1 hb2 hb3 hne hno
  generalize ((w3.setCell ⟨w1.heap.size, 1, none⟩ (.int .i64 va)).setCell ⟨w1.heap.size, 2, none⟩ (.int .i64 vb)).setCell ⟨w1.heap.size, 3, none⟩ (.int .i64 vc) = w4 at *
  generalize w1.heap.size = og at *
  have H6 := Lib.hid h5
  clear h5 HN HT HV HST
  go_loopw [9, 57] (fun tl i wr => ∃ (k : Nat) (st : RSt) (tm : Int) (ta : Option Addr) (tn tc : Nat) (ba : Option Addr) (bn bc : Nat) (ra : Option Addr) (rn rc : Nat) (qb qr : List DV), k ≤ n ∧ i = .int .i64 (k : Int) ∧ tl = .int .i64 tm ∧ ((tm = 0 ∧ st.tool = none) ∨ (tm = 1 ∧ ∃ d, st.tool = some d)) ∧ RRz W wr #[.int .i64 k1, .string σ1, .slice sl1 n1 c1, .int .i64 k2, .string σ2, .slice sl2 n2 c2, .slice sl n c] og #[.string nm, .int .i64 va, .int .i64 vb, .int .i64 vc, .string (toolD st).name, .slice ta tn tc, .slice ba bn bc, .slice ra rn rc] ∧ RRy W wr st (.slice ta tn tc) (.slice ba bn bc) (.slice ra rn rc) qb qr ∧ fieldsM (x.fields.drop k) st = fieldsM x.fields ⟨none, [], []⟩) (fun _ i _ => n - (RowKit.intOf i).toNat)
  case atStart => exact ⟨0, ⟨none, [], []⟩, 0, none, 0, 0, none, 0, 0, none, 0, 0, [], [], Nat.zero_le _, rfl, rfl, .inl ⟨rfl, rfl⟩, H6.out, RRy.start W w4, rfl⟩
  case round =>
    obtain ⟨k, st, tm, ta, tn, tc, ba, bn, bc, ra, rn, rc, qb, qr, hk, rfl, rfl, htm, hw, hp, hm⟩ := hrel
    have hmx := Lib.hid (show recP x = lastP nm (va, vb, vc) (fieldsM (x.fields.drop k) st) by rw [HP.out, hm])
    have HM := Lib.hid hm
    have HTM := Lib.hid htm
    clear hm HP H6 htm
    by_cases hlt : k < n
    · obtain ⟨t, ht⟩ : ∃ t, x.fields[k]? = some t := ⟨_, List.getElem?_eq_getElem (by rw [← HNL.out]; exact hlt)⟩
      obtain ⟨b, o, k3, σ3, sl3, n3, c3, k4, σ4, sl4, n4, c4, hsl, hfc⟩ := fld_at HFS.out ht
      subst hsl
      have hbW := HS.out b hfc.sb
      have c0 := (hw.below.cell (p := ⟨b, _, none⟩) hbW).trans hfc.d0
      have c1 := (hw.below.cell (p := ⟨b, _, none⟩) hbW).trans hfc.d1
      have c2 := (hw.below.cell (p := ⟨b, _, none⟩) hbW).trans hfc.d2
      have c3' := (hw.below.cell (p := ⟨b, _, none⟩) hbW).trans hfc.d3
      have c4' := (hw.below.cell (p := ⟨b, _, none⟩) hbW).trans hfc.d4
      have c5 := (hw.below.cell (p := ⟨b, _, none⟩) hbW).trans hfc.d5
      have c6 := (hw.below.cell (p := ⟨b, _, none⟩) hbW).trans hfc.d6
      have htm := List.mem_of_getElem? ht
      obtain ⟨-, hsm3, hsm4⟩ := HX.out.1.2.2.2 t htm
      obtain ⟨hw3, hw4⟩ := HX.out.2 t htm
      have HDEP := Lib.hid (fun (w : World) (hb : Below W.heap.size W w) => rdep_any hsm3 hw3 hsm4 hw4 w S (fun k hk => Nat.lt_of_lt_of_le (HS.out k hk) hb.size) k3 σ3 sl3 n3 c3 k4 σ4 sl4 n4 c4 (hfc.rn.move fun k hk => ⟨hk, hb.block k (HS.out k hk)⟩) (hfc.rr.move fun k hk => ⟨hk, hb.block k (HS.out k hk)⟩))
      have hdr : x.fields.drop k = t :: x.fields.drop (k + 1) := by
        obtain ⟨h1, h2⟩ := List.getElem?_eq_some_iff.1 ht
        rw [List.drop_eq_getElem_cons h1, h2]
      have hmy := Lib.hid (show recP x = lastP nm (va, vb, vc) (match stepP st t with | .error e => .error e | .ok st' => fieldsM (x.fields.drop (k + 1)) st') by rw [hmx.out, hdr]; rfl)
      have HZ := Lib.hid (fun st' (h : stepP st t = .ok st') => show fieldsM (x.fields.drop (k + 1)) st' = fieldsM x.fields ⟨none, [], []⟩ by rw [← HM.out, hdr, fieldsM, h])
      have hA1 := (Below.refl wr.heap.size wr).alloc (Nat.le_refl _) (.cells #[.int .i64 t.1, .int .i64 k3, .string σ3, .slice sl3 n3 c3, .int .i64 k4, .string σ4, .slice sl4 n4 c4] 35)
      have hF1 := heap_alloc_new wr (.cells #[.int .i64 t.1, .int .i64 k3, .string σ3, .slice sl3 n3 c3, .int .i64 k4, .string σ4, .slice sl4 n4 c4] 35)
      have hq1 := hw.keep hA1
      have hsz1 : (wr.alloc (.cells #[.int .i64 t.1, .int .i64 k3, .string σ3, .slice sl3 n3 c3, .int .i64 k4, .string σ4, .slice sl4 n4 c4] 35)).heap.size = wr.heap.size + 1 := by simp
      have hWB := hw.below.size
      have HW := Lib.hid (And.intro hw hp)
      have hX3 := hw.sz
      have hogl : og < wr.heap.size := (Array.getElem?_eq_some_iff.1 hw.ob).1
      have hog2 := hw.lo
      clear hw hp hfc ht htm hsm3 hsm4 hw3 hw4 hdr hmx
      cases hdp : depP t with
      | error e9 =>
        have HDP := Lib.hid (fun (w : World) (hb : Below W.heap.size W w) => (HDEP.out w hb).mono fun e W' h => (show Below w.heap.size w W' ∧ e = .returned (.tuple #[.agg #[.string ⟨#[]⟩, .slice none 0 0], .int .i64 e9]) by unfold DA at h; rw [hdp] at h; exact h))
        have HP := Lib.hid (show recP x = .error e9 by rw [hmy.out]; unfold stepP; rw [hdp]; rfl)
        have he9 : (e9 == 0) = false := beq_eq_false_iff_ne.2 (dep_er hdp)
        clear hdp
        go_wp2_with (first
          | (go_at_call 34; with_reducible refine (HDP.out _ hq1.below).mono ?_; rintro e w2 ⟨hb2, he⟩; subst he; have hq2 := (hq1.keep hb2).keep ((Below.refl w2.heap.size w2).alloc (Nat.le_refl _) (.cells #[.string ⟨#[]⟩, .slice none 0 0] 42)); obtain ⟨b0, b1, b2, b3, b4, b5, b6, b7⟩ := obj8 hq2.b0; have bf := frz hq2.b0))
        refine rrec_bad hq2.toRRg HP.out _ ?_ ?_ <;> rfl
      | ok d =>
        have HDP := Lib.hid (fun (w : World) (hb : Below W.heap.size W w) => (HDEP.out w hb).mono fun e W' h => (show Below w.heap.size w W' ∧ ∃ ra rn rc, e = .returned (.tuple #[.agg #[.string d.name, .slice ra rn rc], .int .i64 0]) ∧ Sg.GO W' w.heap.size (.slice ra rn rc) d.rng by unfold DA at h; rw [hdp] at h; exact h))
        have hkd : 1 ≤ t.1 ∧ t.1 ≤ 3 := by
          unfold depP at hdp
          split at hdp
          · assumption
          · cases hdp
        have HSt : stepP st t = if t.1 = 1 then (match st.tool with | some _ => .error 11 | none => .ok ⟨some d, st.build, st.run⟩) else if t.1 = 2 then (match moreP st.build d with | .error e => .error e | .ok l => .ok ⟨st.tool, l, st.run⟩) else (match moreP st.run d with | .error e => .error e | .ok l => .ok ⟨st.tool, st.build, l⟩) := by unfold stepP; rw [hdp]; rfl
        replace HSt := Lib.hid HSt
        clear hdp HDEP
        by_cases h1 : t.1 = 1
        · have g1 : (t.1 == 1) = true := beq_iff_eq.2 h1
          rcases HTM.out with ⟨rfl, htl⟩ | ⟨rfl, d9, htl⟩
          · have HSP := Lib.hid (show stepP st t = .ok ⟨some d, st.build, st.run⟩ by rw [HSt.out, if_pos h1, htl])
            clear h1 htl hkd HTM
            go_wp2_with (first
              | (go_at_call 34; with_reducible refine (HDP.out _ hq1.below).mono ?_; rintro e w2 ⟨hb2, ga, gn, gc, he, hgo⟩; subst he; have hq2 := hq1.keep hb2; have hF2 := (hb2.block wr.heap.size (by rw [hsz1]; omega)).trans hF1; have hl2 : wr.heap.size < w2.heap.size := (by have := hb2.size; omega); have hA2 := (Below.refl w2.heap.size w2).alloc (Nat.le_refl _) (.cells #[.string d.name, .slice ga gn gc] 42); have hq3 := hq2.keep hA2; have hF3 := (hA2.block _ hl2).trans hF2; obtain ⟨f0, f1, f2, f3, f4, f5, f6⟩ := obj7 hF3; have hD3 := heap_alloc_new w2 (.cells #[.string d.name, .slice ga gn gc] 42); obtain ⟨d0, d1⟩ := obj2 hD3; obtain ⟨b0, b1, b2, b3, b4, b5, b6, b7⟩ := obj8 hq3.b0; have bf := frz hq3.b0; obtain ⟨o0, o1, o2, o3, o4, o5, o6, o7⟩ := obj8 hq3.ob; have of := frz hq3.ob; have hgA := GO.mono (go_move hgo (fun g cs hg _ => hA2.block g (Array.getElem?_eq_some_iff.1 hg).1)) (show W.heap.size ≤ (wr.alloc (.cells #[.int .i64 t.1, .int .i64 k3, .string σ3, .slice sl3 n3 c3, .int .i64 k4, .string σ4, .slice sl4 n4 c4] 35)).heap.size by rw [hsz1]; have := hWB; omega); have HGA := Lib.hid hgA; clear hgo hgA))
            have hq8 := (hq3.out 4 (.string d.name)).out 5 (.slice ga gn gc)
            simp only [List.setIfInBounds_toArray, List.set_cons_succ, List.set_cons_zero] at hq8
            have hbb := hA1.trans ((hb2.mono (by rw [hsz1]; omega)).trans (hA2.mono (show wr.heap.size ≤ w2.heap.size by omega)))
            have hst : ∀ g, g ≠ og → (((w2.alloc (.cells #[.string d.name, .slice ga gn gc] 42)).setCell ⟨og, 4, none⟩ (.string d.name)).setCell ⟨og, 5, none⟩ (.slice ga gn gc)).heap[g]? = (w2.alloc (.cells #[.string d.name, .slice ga gn gc] 42)).heap[g]? := fun g hg => (Below.heap_setCell _ _ _ _ hg).trans (Below.heap_setCell _ _ _ _ hg)
            have hp8 := (HW.out.2.keep hbb).store hq3.ob hst
            have ht8 := GO.store HGA.out hq3.ob hst
            refine ⟨⟨k + 1, ⟨some d, st.build, st.run⟩, 1, ga, gn, gc, ba, bn, bc, ra, rn, rc, qb, qr, hlt, by push_cast; rfl, rfl, .inr ⟨rfl, d, rfl⟩, hq8, ⟨ht8, hp8.build, hp8.run, hp8.lb, hp8.lr⟩, HZ.out _ HSP.out⟩, ?_⟩
            simp only [RowKit.intOf]
            omega
          · have HP := Lib.hid (show recP x = .error 11 by rw [hmy.out, HSt.out, if_pos h1, htl]; rfl)
            clear h1 htl hkd HTM
            go_wp2_with (first
              | (go_at_call 34; with_reducible refine (HDP.out _ hq1.below).mono ?_; rintro e w2 ⟨hb2, ga, gn, gc, he, hgo⟩; subst he; have hq2 := hq1.keep hb2; have hF2 := (hb2.block wr.heap.size (by rw [hsz1]; omega)).trans hF1; have hl2 : wr.heap.size < w2.heap.size := (by have := hb2.size; omega); have hA2 := (Below.refl w2.heap.size w2).alloc (Nat.le_refl _) (.cells #[.string d.name, .slice ga gn gc] 42); have hq3 := hq2.keep hA2; have hF3 := (hA2.block _ hl2).trans hF2; obtain ⟨f0, f1, f2, f3, f4, f5, f6⟩ := obj7 hF3; have hD3 := heap_alloc_new w2 (.cells #[.string d.name, .slice ga gn gc] 42); obtain ⟨d0, d1⟩ := obj2 hD3; obtain ⟨b0, b1, b2, b3, b4, b5, b6, b7⟩ := obj8 hq3.b0; have bf := frz hq3.b0; obtain ⟨o0, o1, o2, o3, o4, o5, o6, o7⟩ := obj8 hq3.ob; have of := frz hq3.ob; have hgA := GO.mono (go_move hgo (fun g cs hg _ => hA2.block g (Array.getElem?_eq_some_iff.1 hg).1)) (show W.heap.size ≤ (wr.alloc (.cells #[.int .i64 t.1, .int .i64 k3, .string σ3, .slice sl3 n3 c3, .int .i64 k4, .string σ4, .slice sl4 n4 c4] 35)).heap.size by rw [hsz1]; have := hWB; omega); have HGA := Lib.hid hgA; clear hgo hgA))
            refine rrec_bad hq3.toRRg HP.out _ ?_ ?_ <;> rfl
        · have g1 : (t.1 == 1) = false := beq_eq_false_iff_ne.2 h1
          by_cases h2 : t.1 = 2
          · have g2 : (t.1 == 2) = true := beq_iff_eq.2 h2
            cases hmr : moreP st.build d with
            | error e9 =>
              have HP := Lib.hid (show recP x = .error e9 by rw [hmy.out, HSt.out, if_neg h1, if_pos h2, hmr]; rfl)
              have he9 : (e9 == 0) = false := beq_eq_false_iff_ne.2 (more_er hmr)
              clear h1 h2 hkd HTM
              go_wp2_with (first
                | (go_at_call 34; with_reducible refine (HDP.out _ hq1.below).mono ?_; rintro e w2 ⟨hb2, ga, gn, gc, he, hgo⟩; subst he; have hq2 := hq1.keep hb2; have hF2 := (hb2.block wr.heap.size (by rw [hsz1]; omega)).trans hF1; have hl2 : wr.heap.size < w2.heap.size := (by have := hb2.size; omega); have hA2 := (Below.refl w2.heap.size w2).alloc (Nat.le_refl _) (.cells #[.string d.name, .slice ga gn gc] 42); have hq3 := hq2.keep hA2; have hF3 := (hA2.block _ hl2).trans hF2; obtain ⟨f0, f1, f2, f3, f4, f5, f6⟩ := obj7 hF3; have hD3 := heap_alloc_new w2 (.cells #[.string d.name, .slice ga gn gc] 42); obtain ⟨d0, d1⟩ := obj2 hD3; obtain ⟨b0, b1, b2, b3, b4, b5, b6, b7⟩ := obj8 hq3.b0; have bf := frz hq3.b0; obtain ⟨o0, o1, o2, o3, o4, o5, o6, o7⟩ := obj8 hq3.ob; have of := frz hq3.ob; have hgA := GO.mono (go_move hgo (fun g cs hg _ => hA2.block g (Array.getElem?_eq_some_iff.1 hg).1)) (show W.heap.size ≤ (wr.alloc (.cells #[.int .i64 t.1, .int .i64 k3, .string σ3, .slice sl3 n3 c3, .int .i64 k4, .string σ4, .slice sl4 n4 c4] 35)).heap.size by rw [hsz1]; have := hWB; omega); have HGA := Lib.hid hgA; clear hgo hgA)
                | (go_at_call 35; have hbb := hA1.trans ((hb2.mono (by rw [hsz1]; omega)).trans (hA2.mono (show wr.heap.size ≤ w2.heap.size by omega))); have hp3 := HW.out.2.keep hbb; have hwi := with_any (d := d) hp3.build hq3.below.size hp3.lb ga gn gc HGA.out; unfold WQ at hwi; rw [hmr] at hwi; have HP3 := Lib.hid (And.intro hp3 hbb); clear hp3; with_reducible refine hwi.mono ?_; rintro e w7 ⟨hb7, he⟩; subst he; have hq7 := hq3.keep hb7; clear b0 b1 b2 b3 b4 b5 b6 b7 bf o0 o1 o2 o3 o4 o5 o6 o7 of; obtain ⟨b0, b1, b2, b3, b4, b5, b6, b7⟩ := obj8 hq7.b0; have bf := frz hq7.b0; obtain ⟨o0, o1, o2, o3, o4, o5, o6, o7⟩ := obj8 hq7.ob; have of := frz hq7.ob; clear hwi))
              have hq8 := hq7.out 6 (.slice none 0 0)
              refine rrec_bad hq8.toRRg HP.out _ ?_ ?_ <;> rfl
            | ok l9 =>
              have HSP := Lib.hid (show stepP st t = .ok ⟨st.tool, l9, st.run⟩ by rw [HSt.out, if_neg h1, if_pos h2, hmr])
              have hl9 : l9.length ≤ 8 := more_len hmr HW.out.2.lb
              clear h1 h2 hkd
              go_wp2_with (first
                | (go_at_call 34; with_reducible refine (HDP.out _ hq1.below).mono ?_; rintro e w2 ⟨hb2, ga, gn, gc, he, hgo⟩; subst he; have hq2 := hq1.keep hb2; have hF2 := (hb2.block wr.heap.size (by rw [hsz1]; omega)).trans hF1; have hl2 : wr.heap.size < w2.heap.size := (by have := hb2.size; omega); have hA2 := (Below.refl w2.heap.size w2).alloc (Nat.le_refl _) (.cells #[.string d.name, .slice ga gn gc] 42); have hq3 := hq2.keep hA2; have hF3 := (hA2.block _ hl2).trans hF2; obtain ⟨f0, f1, f2, f3, f4, f5, f6⟩ := obj7 hF3; have hD3 := heap_alloc_new w2 (.cells #[.string d.name, .slice ga gn gc] 42); obtain ⟨d0, d1⟩ := obj2 hD3; obtain ⟨b0, b1, b2, b3, b4, b5, b6, b7⟩ := obj8 hq3.b0; have bf := frz hq3.b0; obtain ⟨o0, o1, o2, o3, o4, o5, o6, o7⟩ := obj8 hq3.ob; have of := frz hq3.ob; have hgA := GO.mono (go_move hgo (fun g cs hg _ => hA2.block g (Array.getElem?_eq_some_iff.1 hg).1)) (show W.heap.size ≤ (wr.alloc (.cells #[.int .i64 t.1, .int .i64 k3, .string σ3, .slice sl3 n3 c3, .int .i64 k4, .string σ4, .slice sl4 n4 c4] 35)).heap.size by rw [hsz1]; have := hWB; omega); have HGA := Lib.hid hgA; clear hgo hgA)
                | (go_at_call 35; have hbb := hA1.trans ((hb2.mono (by rw [hsz1]; omega)).trans (hA2.mono (show wr.heap.size ≤ w2.heap.size by omega))); have hp3 := HW.out.2.keep hbb; have hwi := with_any (d := d) hp3.build hq3.below.size hp3.lb ga gn gc HGA.out; unfold WQ at hwi; rw [hmr] at hwi; have HP3 := Lib.hid (And.intro hp3 hbb); clear hp3; with_reducible refine hwi.mono ?_; rintro e w7 ⟨hb7, ga9, gn9, gc9, he, hd7⟩; subst he; have hq7 := hq3.keep hb7; clear b0 b1 b2 b3 b4 b5 b6 b7 bf o0 o1 o2 o3 o4 o5 o6 o7 of; obtain ⟨b0, b1, b2, b3, b4, b5, b6, b7⟩ := obj8 hq7.b0; have bf := frz hq7.b0; obtain ⟨o0, o1, o2, o3, o4, o5, o6, o7⟩ := obj8 hq7.ob; have of := frz hq7.ob; have HD7 := Lib.hid hd7; clear hwi hd7))
              have hq8 := hq7.out 6 (.slice ga9 gn9 gc9)
              simp only [List.setIfInBounds_toArray, List.set_cons_succ, List.set_cons_zero] at hq8
              have hst : ∀ g, g ≠ og → (w7.setCell ⟨og, 6, none⟩ (.slice ga9 gn9 gc9)).heap[g]? = w7.heap[g]? := fun g hg => Below.heap_setCell _ _ _ _ hg
              have hp8 := (HP3.out.1.keep hb7).store hq7.ob hst
              have hd8 := HD7.out.store hq7.ob hst
              refine ⟨⟨k + 1, ⟨st.tool, l9, st.run⟩, tm, ta, tn, tc, ga9, gn9, gc9, ra, rn, rc, _, qr, hlt, by push_cast; rfl, rfl, HTM.out, hq8, ⟨hp8.tool, hd8, hp8.run, hl9, hp8.lr⟩, HZ.out _ HSP.out⟩, ?_⟩
              simp only [RowKit.intOf]
              omega
          · have g2 : (t.1 == 2) = false := beq_eq_false_iff_ne.2 h2
            have g3 : (t.1 == 3) = true := beq_iff_eq.2 (by omega)
            cases hmr : moreP st.run d with
            | error e9 =>
              have HP := Lib.hid (show recP x = .error e9 by rw [hmy.out, HSt.out, if_neg h1, if_neg h2, hmr]; rfl)
              have he9 : (e9 == 0) = false := beq_eq_false_iff_ne.2 (more_er hmr)
              clear h1 h2 hkd HTM
              go_wp2_with (first
                | (go_at_call 34; with_reducible refine (HDP.out _ hq1.below).mono ?_; rintro e w2 ⟨hb2, ga, gn, gc, he, hgo⟩; subst he; have hq2 := hq1.keep hb2; have hF2 := (hb2.block wr.heap.size (by rw [hsz1]; omega)).trans hF1; have hl2 : wr.heap.size < w2.heap.size := (by have := hb2.size; omega); have hA2 := (Below.refl w2.heap.size w2).alloc (Nat.le_refl _) (.cells #[.string d.name, .slice ga gn gc] 42); have hq3 := hq2.keep hA2; have hF3 := (hA2.block _ hl2).trans hF2; obtain ⟨f0, f1, f2, f3, f4, f5, f6⟩ := obj7 hF3; have hD3 := heap_alloc_new w2 (.cells #[.string d.name, .slice ga gn gc] 42); obtain ⟨d0, d1⟩ := obj2 hD3; obtain ⟨b0, b1, b2, b3, b4, b5, b6, b7⟩ := obj8 hq3.b0; have bf := frz hq3.b0; obtain ⟨o0, o1, o2, o3, o4, o5, o6, o7⟩ := obj8 hq3.ob; have of := frz hq3.ob; have hgA := GO.mono (go_move hgo (fun g cs hg _ => hA2.block g (Array.getElem?_eq_some_iff.1 hg).1)) (show W.heap.size ≤ (wr.alloc (.cells #[.int .i64 t.1, .int .i64 k3, .string σ3, .slice sl3 n3 c3, .int .i64 k4, .string σ4, .slice sl4 n4 c4] 35)).heap.size by rw [hsz1]; have := hWB; omega); have HGA := Lib.hid hgA; clear hgo hgA)
                | (go_at_call 35; have hbb := hA1.trans ((hb2.mono (by rw [hsz1]; omega)).trans (hA2.mono (show wr.heap.size ≤ w2.heap.size by omega))); have hp3 := HW.out.2.keep hbb; have hwi := with_any (d := d) hp3.run hq3.below.size hp3.lr ga gn gc HGA.out; unfold WQ at hwi; rw [hmr] at hwi; have HP3 := Lib.hid (And.intro hp3 hbb); clear hp3; with_reducible refine hwi.mono ?_; rintro e w7 ⟨hb7, he⟩; subst he; have hq7 := hq3.keep hb7; clear b0 b1 b2 b3 b4 b5 b6 b7 bf o0 o1 o2 o3 o4 o5 o6 o7 of; obtain ⟨b0, b1, b2, b3, b4, b5, b6, b7⟩ := obj8 hq7.b0; have bf := frz hq7.b0; obtain ⟨o0, o1, o2, o3, o4, o5, o6, o7⟩ := obj8 hq7.ob; have of := frz hq7.ob; clear hwi))
              have hq8 := hq7.out 7 (.slice none 0 0)
              refine rrec_bad hq8.toRRg HP.out _ ?_ ?_ <;> rfl
            | ok l9 =>
              have HSP := Lib.hid (show stepP st t = .ok ⟨st.tool, st.build, l9⟩ by rw [HSt.out, if_neg h1, if_neg h2, hmr])
              have hl9 : l9.length ≤ 8 := more_len hmr HW.out.2.lr
              clear h1 h2 hkd
              go_wp2_with (first
                | (go_at_call 34; with_reducible refine (HDP.out _ hq1.below).mono ?_; rintro e w2 ⟨hb2, ga, gn, gc, he, hgo⟩; subst he; have hq2 := hq1.keep hb2; have hF2 := (hb2.block wr.heap.size (by rw [hsz1]; omega)).trans hF1; have hl2 : wr.heap.size < w2.heap.size := (by have := hb2.size; omega); have hA2 := (Below.refl w2.heap.size w2).alloc (Nat.le_refl _) (.cells #[.string d.name, .slice ga gn gc] 42); have hq3 := hq2.keep hA2; have hF3 := (hA2.block _ hl2).trans hF2; obtain ⟨f0, f1, f2, f3, f4, f5, f6⟩ := obj7 hF3; have hD3 := heap_alloc_new w2 (.cells #[.string d.name, .slice ga gn gc] 42); obtain ⟨d0, d1⟩ := obj2 hD3; obtain ⟨b0, b1, b2, b3, b4, b5, b6, b7⟩ := obj8 hq3.b0; have bf := frz hq3.b0; obtain ⟨o0, o1, o2, o3, o4, o5, o6, o7⟩ := obj8 hq3.ob; have of := frz hq3.ob; have hgA := GO.mono (go_move hgo (fun g cs hg _ => hA2.block g (Array.getElem?_eq_some_iff.1 hg).1)) (show W.heap.size ≤ (wr.alloc (.cells #[.int .i64 t.1, .int .i64 k3, .string σ3, .slice sl3 n3 c3, .int .i64 k4, .string σ4, .slice sl4 n4 c4] 35)).heap.size by rw [hsz1]; have := hWB; omega); have HGA := Lib.hid hgA; clear hgo hgA)
                | (go_at_call 35; have hbb := hA1.trans ((hb2.mono (by rw [hsz1]; omega)).trans (hA2.mono (show wr.heap.size ≤ w2.heap.size by omega))); have hp3 := HW.out.2.keep hbb; have hwi := with_any (d := d) hp3.run hq3.below.size hp3.lr ga gn gc HGA.out; unfold WQ at hwi; rw [hmr] at hwi; have HP3 := Lib.hid (And.intro hp3 hbb); clear hp3; with_reducible refine hwi.mono ?_; rintro e w7 ⟨hb7, ga9, gn9, gc9, he, hd7⟩; subst he; have hq7 := hq3.keep hb7; clear b0 b1 b2 b3 b4 b5 b6 b7 bf o0 o1 o2 o3 o4 o5 o6 o7 of; obtain ⟨b0, b1, b2, b3, b4, b5, b6, b7⟩ := obj8 hq7.b0; have bf := frz hq7.b0; obtain ⟨o0, o1, o2, o3, o4, o5, o6, o7⟩ := obj8 hq7.ob; have of := frz hq7.ob; have HD7 := Lib.hid hd7; clear hwi hd7))
              have hq8 := hq7.out 7 (.slice ga9 gn9 gc9)
              simp only [List.setIfInBounds_toArray, List.set_cons_succ, List.set_cons_zero] at hq8
              have hst : ∀ g, g ≠ og → (w7.setCell ⟨og, 7, none⟩ (.slice ga9 gn9 gc9)).heap[g]? = w7.heap[g]? := fun g hg => Below.heap_setCell _ _ _ _ hg
              have hp8 := (HP3.out.1.keep hb7).store hq7.ob hst
              have hd8 := HD7.out.store hq7.ob hst
              refine ⟨⟨k + 1, ⟨st.tool, st.build, l9⟩, tm, ta, tn, tc, ba, bn, bc, ga9, gn9, gc9, qb, _, hlt, by push_cast; rfl, rfl, HTM.out, hq8, ⟨hp8.tool, hp8.build, hd8, hp8.lb, hl9⟩, HZ.out _ HSP.out⟩, ?_⟩
              simp only [RowKit.intOf]
              omega
    · have hkn : k = n := by omega
      have hfin : fieldsM (x.fields.drop k) st = .ok st := by rw [List.drop_of_length_le (by rw [← HNL.out]; omega)]; rfl
      have hrc : recP x = lastP nm (va, vb, vc) (.ok st) := by rw [hmx.out, hfin]
      have hogl : og < wr.heap.size := (Array.getElem?_eq_some_iff.1 hw.ob).1
      have hog2 := hw.lo
      obtain ⟨b0, b1, b2, b3, b4, b5, b6, b7⟩ := obj8 hw.b0
      have bf := frz hw.b0
      rcases HTM.out with ⟨rfl, htl⟩ | ⟨rfl, d9, htl⟩
      · have HP := Lib.hid (show recP x = .error 14 by rw [hrc]; unfold lastP; dsimp only; rw [htl])
        have HW9 := Lib.hid hw
        clear hrc hfin htl hw hp hmx HTM
        go_wp2_with fail
        refine rrec_bad HW9.out.toRRg HP.out _ ?_ ?_ <;> rfl
      · have HP := Lib.hid (show recP x = .ok ⟨nm, (va, vb, vc), d9, st.build, st.run⟩ by rw [hrc]; unfold lastP; dsimp only; rw [htl])
        have htd : toolD st = d9 := by unfold toolD; rw [htl]; rfl
        rw [htd] at hw
        obtain ⟨o0, o1, o2, o3, o4, o5, o6, o7⟩ := obj8 hw.ob
        have HW9 := Lib.hid (And.intro hw hp)
        have HTD := Lib.hid htd
        clear hrc hfin htl hw hp htd hmx HTM
        go_wp2_with fail
        have hs := put8_same HW9.out.1.b0 (.string nm) (.int .i64 va) (.int .i64 vb) (.int .i64 vc) (.string d9.name) (.slice ta tn tc) (.slice ba bn bc) (.slice ra rn rc)
        refine bodyPost_ret (rrec_results (z := .int .i64 0) (X := put8 wr (W.heap.size + 1) (.string nm) (.int .i64 va) (.int .i64 vb) (.int .i64 vc) (.string d9.name) (.slice ta tn tc) (.slice ba bn bc) (.slice ra rn rc)) ?_ ?_ hs) ?_ ?_
        · rfl
        · rfl
        · rfl
        refine ⟨put8_below HW9.out.1.below (Nat.le_succ _) _ _ _ _ _ _ _ _, ?_⟩
        rw [HP.out]
        have hp9 := HW9.out.2.store (w' := put8 wr (W.heap.size + 1) (.string nm) (.int .i64 va) (.int .i64 vb) (.int .i64 vc) (.string d9.name) (.slice ta tn tc) (.slice ba bn bc) (.slice ra rn rc)) HW9.out.1.b0 fun g hg => put8_heap _ _ _ _ _ _ _ _ _ _ _ hg
        have ht9 := hp9.tool
        rw [show (toolD st) = d9 from HTD.out] at ht9
        exact ⟨ta, tn, tc, ba, bn, bc, ra, rn, rc, qb, qr, rfl, ht9, hp9.build, hp9.run⟩
end Ev
end Go.Proofs.YtflhmoelenmomaaGreatDoor
