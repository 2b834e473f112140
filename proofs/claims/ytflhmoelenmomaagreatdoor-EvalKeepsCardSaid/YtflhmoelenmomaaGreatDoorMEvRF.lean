/-
  eval's Recipe. (printed by gen_EvRF.py)
-/
import Derived.Test.YtflhmoelenmomaaGreatDoorMEvRP
namespace Go.Proofs.YtflhmoelenmomaaGreatDoor
open Go.RowKit Go.Lib
namespace Ev
open Rc

theorem obj7 {W : World} {g : Nat} {u0 u1 u2 u3 u4 u5 u6 : Value} {T : TypeId} (h : W.heap[g]? = some (.cells #[u0, u1, u2, u3, u4, u5, u6] T (0, 0))) :
    W.cell? ⟨g, 0, none⟩ = some u0 ∧ W.cell? ⟨g, 1, none⟩ = some u1 ∧ W.cell? ⟨g, 2, none⟩ = some u2 ∧ W.cell? ⟨g, 3, none⟩ = some u3 ∧ W.cell? ⟨g, 4, none⟩ = some u4 ∧ W.cell? ⟨g, 5, none⟩ = some u5 ∧ W.cell? ⟨g, 6, none⟩ = some u6 :=
  ⟨by simp [World.cell?, h], by simp [World.cell?, h], by simp [World.cell?, h], by simp [World.cell?, h], by simp [World.cell?, h], by simp [World.cell?, h], by simp [World.cell?, h]⟩
theorem obj2 {W : World} {g : Nat} {u0 u1 : Value} {T : TypeId} (h : W.heap[g]? = some (.cells #[u0, u1] T (0, 0))) : W.cell? ⟨g, 0, none⟩ = some u0 ∧ W.cell? ⟨g, 1, none⟩ = some u1 := ⟨by simp [World.cell?, h], by simp [World.cell?, h]⟩
theorem obj1 {W : World} {g : Nat} {u0 : Value} {T : TypeId} (h : W.heap[g]? = some (.cells #[u0] T (0, 0))) : W.cell? ⟨g, 0, none⟩ = some u0 := by simp [World.cell?, h]
set_option maxHeartbeats 8000000 in
set_option maxRecDepth 100000 in
theorem recipe_any {x : Rc.Src} (hx : SmlS x) (hwn : sizeW x.name ≤ 20000) (hwv : sizeW x.version ≤ 20000) (hwf : ∀ f ∈ x.fields, sizeW f.2.1 ≤ 20000 ∧ sizeW f.2.2 ≤ 20000) (W : World) (S : Nat → Prop) (v : Value) (hS : ∀ b, S b → b < W.heap.size) (hr : RepR W S x v) (hE : Vs.Env W) :
    Calls Tryz.prog 14 #[v] W fun e W' => RAns W (recP x) e W' := by
  have hmf : ∀ (fn : Fn) (first cap : Array Value) (w : World), (Instr.makeFunc fn first cap).run Tryz.prog w = .ok (.func fn first cap) w := fun _ _ _ _ => rfl
  obtain ⟨k1, σ1, sl1, n1, c1, k2, σ2, sl2, n2, c2, sl, n, c, rfl, hrn, hrv, hfs, hnc⟩ := hr
  have hnl : n = x.fields.length := hfs.1
  have HN := Lib.hid (fun (w : World) (hb : Below W.heap.size W w) => name_any hx.1 hwn w S _ (fun k hk => Nat.lt_of_lt_of_le (hS k hk) hb.size) (hrn.move fun k hk => ⟨hk, hb.block k (hS k hk)⟩))
  have HT := Lib.hid (fun (w : World) (hb : Below W.heap.size W w) => text_any hx.2.1 hwv w S _ (fun k hk => Nat.lt_of_lt_of_le (hS k hk) hb.size) (hrv.move fun k hk => ⟨hk, hb.block k (hS k hk)⟩))
  have HE := Lib.hid hE
  have HS := Lib.hid hS
  have HX := Lib.hid (And.intro hx hwf)
  have HFS := Lib.hid hfs
  clear hx hwn hwv hwf hS hrn hrv hE hfs
  have hst := RW.start W #[.int .i64 k1, .string σ1, .slice sl1 n1 c1, .int .i64 k2, .string σ2, .slice sl2 n2 c2, .slice sl n c]
  have HST := Lib.hid hst
  clear hst
  by_cases hlen : n ≤ 20
  rotate_left
  · have HP := Lib.hid (show recP x = .error 13 by unfold recP headP; rw [if_neg (by omega)])
    have i1 : decide ((n : Int) ≤ 20) = false := by simp; omega
    clear hlen hnl
    go_enter_defers Tryz.func14, Tryz.ntmps14
    go_wp2_with (first
      | (go_at_call 26; with_reducible refine (unless_tt _ _).mono ?_; rintro e w9 ⟨he, hw⟩; subst he; subst w9)
      | (go_at_call 26; with_reducible refine (unless_ff _ _).mono ?_; rintro e w9 ⟨he, hw⟩; subst he; subst w9))
    exact rec_gave HST.out HP.out _ rfl rfl
  have i1 : decide ((n : Int) ≤ 20) = true := by simp; omega
  cases hn : nameP x.name with
  | error k =>
    have HP := Lib.hid (show recP x = .error k by unfold recP headP; rw [if_pos (by omega), hn])
    rw [hn] at HN
    simp only [endT] at HN
    clear hn hnl hlen
    go_enter_defers Tryz.func14, Tryz.ntmps14
    go_wp2_with (first
      | (go_at_call 26; with_reducible refine (unless_tt _ _).mono ?_; rintro e w9 ⟨he, hw⟩; subst he; subst w9)
      | (go_at_call 26; with_reducible refine (unless_ff _ _).mono ?_; rintro e w9 ⟨he, hw⟩; subst he; subst w9)
      | (go_at_call 27; with_reducible refine (HN.out _ (RW.start W _).below).mono ?_; rintro e w1 ⟨he, hb1⟩; subst he; have hq1 := (RW.start W #[.int .i64 k1, .string σ1, .slice sl1 n1 c1, .int .i64 k2, .string σ2, .slice sl2 n2 c2, .slice sl n c]).keep hb1))
    exact rec_gave hq1 HP.out _ rfl rfl
  | ok nm =>
  rw [hn] at HN
  simp only [endT] at HN
  cases ht : textP x.version with
  | error k =>
    have HP := Lib.hid (show recP x = .error k by unfold recP headP; rw [if_pos (by omega), hn]; dsimp only; rw [ht])
    rw [ht] at HT
    simp only [endT] at HT
    clear hn ht hnl hlen
    go_enter_defers Tryz.func14, Tryz.ntmps14
    go_wp2_with (first
      | (go_at_call 26; with_reducible refine (unless_tt _ _).mono ?_; rintro e w9 ⟨he, hw⟩; subst he; subst w9)
      | (go_at_call 26; with_reducible refine (unless_ff _ _).mono ?_; rintro e w9 ⟨he, hw⟩; subst he; subst w9)
      | (go_at_call 27; with_reducible refine (HN.out _ (RW.start W _).below).mono ?_; rintro e w1 ⟨he, hb1⟩; subst he; have hq1 := (RW.start W #[.int .i64 k1, .string σ1, .slice sl1 n1 c1, .int .i64 k2, .string σ2, .slice sl2 n2 c2, .slice sl n c]).keep hb1; obtain ⟨a0, a1, a2, a3, a4, a5, a6⟩ := obj7 hq1.bx; obtain ⟨b0, b1, b2, b3, b4, b5, b6, b7⟩ := obj8 hq1.b0; have bf := frz hq1.b0; have hq2 := hq1.out 0 (.string nm); simp only [List.setIfInBounds_toArray, List.set_cons_zero] at hq2)
      | (go_at_call 29; with_reducible refine (HT.out _ hq2.below).mono ?_; rintro e w2 ⟨he, hb2⟩; subst he; have hq3 := hq2.keep hb2; clear a0 a1 a2 a3 a4 a5 a6 b0 b1 b2 b3 b4 b5 b6 b7 bf hq1))
    exact rec_gave hq3 HP.out _ rfl rfl
  | ok tx =>
  rw [ht] at HT
  simp only [endT] at HT
  have hsz := text_small ht
  have HV := Lib.hid (fun (w : World) (hb : Below W.heap.size W w) => Vs.parse_any tx (by omega) w (HE.out.below (Nat.le_refl _) hb))
  cases hv : Vs.parseL tx.data.toList with
  | none =>
    have HP := Lib.hid (show recP x = .error 20 by unfold recP headP; rw [if_pos (by omega), hn]; dsimp only; rw [ht]; dsimp only; rw [hv])
    rw [hv] at HV
    simp only [Vs.PV_none] at HV
    clear hn ht hv hnl hlen hsz
    go_enter_defers Tryz.func14, Tryz.ntmps14
    go_wp2_with (first
      | (go_at_call 26; with_reducible refine (unless_tt _ _).mono ?_; rintro e w9 ⟨he, hw⟩; subst he; subst w9)
      | (go_at_call 26; with_reducible refine (unless_ff _ _).mono ?_; rintro e w9 ⟨he, hw⟩; subst he; subst w9)
      | (go_at_call 27; with_reducible refine (HN.out _ (RW.start W _).below).mono ?_; rintro e w1 ⟨he, hb1⟩; subst he; have hq1 := (RW.start W #[.int .i64 k1, .string σ1, .slice sl1 n1 c1, .int .i64 k2, .string σ2, .slice sl2 n2 c2, .slice sl n c]).keep hb1; obtain ⟨a0, a1, a2, a3, a4, a5, a6⟩ := obj7 hq1.bx; obtain ⟨b0, b1, b2, b3, b4, b5, b6, b7⟩ := obj8 hq1.b0; have bf := frz hq1.b0; have hq2 := hq1.out 0 (.string nm); simp only [List.setIfInBounds_toArray, List.set_cons_zero] at hq2)
      | (go_at_call 29; with_reducible refine (HT.out _ hq2.below).mono ?_; rintro e w2 ⟨he, hb2⟩; subst he; have hq3 := hq2.keep hb2; clear a0 a1 a2 a3 a4 a5 a6 b0 b1 b2 b3 b4 b5 b6 b7 bf hq1)
      | (go_at_call 28; with_reducible refine (HV.out _ hq3.below).mono ?_; rintro e w3 ⟨he, hb3⟩; subst he; have hq4 := hq3.keep hb3; obtain ⟨a0, a1, a2, a3, a4, a5, a6⟩ := obj7 hq4.bx; obtain ⟨b0, b1, b2, b3, b4, b5, b6, b7⟩ := obj8 hq4.b0; have bf := frz hq4.b0; have ef := frz hq4.b1; have e0 := obj1 hq4.b1))
    have h5 := ((hq4.out 1 (.int .i64 0)).out 2 (.int .i64 0)).out 3 (.int .i64 0)
    simp only [List.setIfInBounds_toArray, List.set_cons_succ, List.set_cons_zero] at h5
    exact rec_gave (h5.err 20) HP.out _ rfl rfl
  | some ver =>
  obtain ⟨va, vb, vc⟩ := ver
  rw [hv] at HV
  simp only [Vs.PV_some] at HV
  have HP := Lib.hid (show recP x = lastP nm (va, vb, vc) (fieldsM x.fields ⟨none, [], []⟩) by unfold recP headP; rw [if_pos (by omega), hn]; dsimp only; rw [ht]; dsimp only; rw [hv])
  have HNL := Lib.hid hnl
  have HLE := Lib.hid hlen
  clear hn ht hv hsz hnl hlen
  go_enter_defers Tryz.func14, Tryz.ntmps14
  go_wp2_with (first
    | (go_at_call 26; with_reducible refine (unless_tt _ _).mono ?_; rintro e w9 ⟨he, hw⟩; subst he; subst w9)
    | (go_at_call 26; with_reducible refine (unless_ff _ _).mono ?_; rintro e w9 ⟨he, hw⟩; subst he; subst w9)
    | (go_at_call 27; with_reducible refine (HN.out _ (RW.start W _).below).mono ?_; rintro e w1 ⟨he, hb1⟩; subst he; have hq1 := (RW.start W #[.int .i64 k1, .string σ1, .slice sl1 n1 c1, .int .i64 k2, .string σ2, .slice sl2 n2 c2, .slice sl n c]).keep hb1; obtain ⟨a0, a1, a2, a3, a4, a5, a6⟩ := obj7 hq1.bx; obtain ⟨b0, b1, b2, b3, b4, b5, b6, b7⟩ := obj8 hq1.b0; have bf := frz hq1.b0; have hq2 := hq1.out 0 (.string nm); simp only [List.setIfInBounds_toArray, List.set_cons_zero] at hq2)
    | (go_at_call 29; with_reducible refine (HT.out _ hq2.below).mono ?_; rintro e w2 ⟨he, hb2⟩; subst he; have hq3 := hq2.keep hb2; clear a0 a1 a2 a3 a4 a5 a6 b0 b1 b2 b3 b4 b5 b6 b7 bf hq1)
    | (go_at_call 28; with_reducible refine (HV.out _ hq3.below).mono ?_; rintro e w3 ⟨he, hb3⟩; subst he; have hq4 := hq3.keep hb3; obtain ⟨a0, a1, a2, a3, a4, a5, a6⟩ := obj7 hq4.bx; obtain ⟨b0, b1, b2, b3, b4, b5, b6, b7⟩ := obj8 hq4.b0; have bf := frz hq4.b0; have ef := frz hq4.b1; have e0 := obj1 hq4.b1))
  have h5 := ((hq4.out 1 (.int .i64 va)).out 2 (.int .i64 vb)).out 3 (.int .i64 vc)
  simp only [List.setIfInBounds_toArray, List.set_cons_succ, List.set_cons_zero] at h5
  have h6 := h5.err 0
  clear a0 a1 a2 a3 a4 a5 a6 b0 b1 b2 b3 b4 b5 b6 b7 bf ef e0 hq2 hq3 hq4 h5 hb1 hb2 hb3
  generalize (((w3.setCell ⟨W.heap.size + 1, 1, none⟩ (.int .i64 va)).setCell ⟨W.heap.size + 1, 2, none⟩ (.int .i64 vb)).setCell ⟨W.heap.size + 1, 3, none⟩ (.int .i64 vc)).setCell ⟨W.heap.size + 1 + 1, 0, none⟩ (.int .i64 0) = w4 at *
  have H6 := Lib.hid h6
  clear h6 HN HT HV HST
  have hn20 := HLE.out
  go_loopw [4, 35] (fun hs i wr => ∃ (k : Nat) (st : RSt) (ta : Option Addr) (tn tc : Nat) (ba : Option Addr) (bn bc : Nat) (ra : Option Addr) (rn rc : Nat) (qb qr : List DV), k ≤ n ∧ i = .int .i64 (k : Int) ∧ hs = .bool st.tool.isSome ∧ RW W wr #[.int .i64 k1, .string σ1, .slice sl1 n1 c1, .int .i64 k2, .string σ2, .slice sl2 n2 c2, .slice sl n c] #[.string nm, .int .i64 va, .int .i64 vb, .int .i64 vc, .string (toolD st).name, .slice ta tn tc, .slice ba bn bc, .slice ra rn rc] 0 ∧ RP W wr st (.slice ta tn tc) (.slice ba bn bc) (.slice ra rn rc) qb qr ∧ fieldsM (x.fields.drop k) st = fieldsM x.fields ⟨none, [], []⟩) (fun _ i _ => n - (RowKit.intOf i).toNat)
  case atStart => exact ⟨0, ⟨none, [], []⟩, none, 0, 0, none, 0, 0, none, 0, 0, [], [], Nat.zero_le _, rfl, rfl, H6.out, RP.start W w4, rfl⟩
  case round =>
    obtain ⟨k, st, ta, tn, tc, ba, bn, bc, ra, rn, rc, qb, qr, hk, rfl, rfl, hw, hp, hm⟩ := hrel
    have hmx := Lib.hid (show recP x = lastP nm (va, vb, vc) (fieldsM (x.fields.drop k) st) by rw [HP.out, hm])
    have HM := Lib.hid hm
    clear hm HP H6
    by_cases hlt : k < n
    · obtain ⟨t, ht⟩ : ∃ t, x.fields[k]? = some t := ⟨_, List.getElem?_eq_getElem (by rw [← HNL.out]; exact hlt)⟩
      obtain ⟨b, o, k3, σ3, sl3, n3, c3, k4, σ4, sl4, n4, c4, hsl, hfc⟩ := fld_at HFS.out ht
      subst hsl
      have hbW := HS.out b hfc.sb
      have c0 := (hw.below.cell (p := ⟨b, _, none⟩) hbW).trans hfc.d0
      have c1 := (hw.below.cell (p := ⟨b, _, none⟩) hbW).trans hfc.d1
      have c2 := (hw.below.cell (p := ⟨b, _, none⟩) hbW).trans hfc.d2
      have c3' := (hw.below.cell (p := ⟨b, _, none⟩) hbW).trans hfc.d3
      have c4' := (hw.below.cell (p := ⟨b, _, none⟩) hbW).trans hfc.d4
      have c5 := (hw.below.cell (p := ⟨b, _, none⟩) hbW).trans hfc.d5
      have c6 := (hw.below.cell (p := ⟨b, _, none⟩) hbW).trans hfc.d6
      have htm := List.mem_of_getElem? ht
      obtain ⟨-, hsm3, hsm4⟩ := HX.out.1.2.2.2 t htm
      obtain ⟨hw3, hw4⟩ := HX.out.2 t htm
      have HNf := Lib.hid (fun (w : World) (hb : Below W.heap.size W w) => name_any hsm3 hw3 w S _ (fun k hk => Nat.lt_of_lt_of_le (HS.out k hk) hb.size) (hfc.rn.move fun k hk => ⟨hk, hb.block k (HS.out k hk)⟩))
      have HTf := Lib.hid (fun (w : World) (hb : Below W.heap.size W w) => text_any hsm4 hw4 w S _ (fun k hk => Nat.lt_of_lt_of_le (HS.out k hk) hb.size) (hfc.rr.move fun k hk => ⟨hk, hb.block k (HS.out k hk)⟩))
      have hdr : x.fields.drop k = t :: x.fields.drop (k + 1) := by
        obtain ⟨h1, h2⟩ := List.getElem?_eq_some_iff.1 ht
        rw [List.drop_eq_getElem_cons h1, h2]
      have hmy := Lib.hid (show recP x = lastP nm (va, vb, vc) (match stepP st t with | .error e => .error e | .ok st' => fieldsM (x.fields.drop (k + 1)) st') by rw [hmx.out, hdr]; rfl)
      have HZ := Lib.hid (fun st' (h : stepP st t = .ok st') => show fieldsM (x.fields.drop (k + 1)) st' = fieldsM x.fields ⟨none, [], []⟩ by rw [← HM.out, hdr, fieldsM, h])
      have hA1 := (Below.refl wr.heap.size wr).alloc (Nat.le_refl _) (.cells #[.int .i64 t.1, .int .i64 k3, .string σ3, .slice sl3 n3 c3, .int .i64 k4, .string σ4, .slice sl4 n4 c4] 35)
      have hF1 := heap_alloc_new wr (.cells #[.int .i64 t.1, .int .i64 k3, .string σ3, .slice sl3 n3 c3, .int .i64 k4, .string σ4, .slice sl4 n4 c4] 35)
      have hq1 := hw.keep hA1
      have hsz1 : (wr.alloc (.cells #[.int .i64 t.1, .int .i64 k3, .string σ3, .slice sl3 n3 c3, .int .i64 k4, .string σ4, .slice sl4 n4 c4] 35)).heap.size = wr.heap.size + 1 := by simp
      have HW := Lib.hid (And.intro hw hp)
      have hX3 := hw.sz
      have HKL := Lib.hid hk
      clear hw hp hfc ht htm hsm3 hsm4 hw3 hw4 hdr hmx
      by_cases hkd : 1 ≤ t.1 ∧ t.1 ≤ 3
      rotate_left
      · have HP := Lib.hid (show recP x = .error 1 by rw [hmy.out]; unfold stepP depP; rw [if_neg hkd]; rfl)
        by_cases hk1 : 1 ≤ t.1
        · have j1 : decide (1 ≤ t.1) = true := decide_eq_true hk1
          have j3 : decide (t.1 ≤ 3) = false := decide_eq_false (by omega)
          clear hkd
          go_wp2_with (first
            | (go_at_call 26; with_reducible refine (unless_tt _ _).mono ?_; rintro e w9 ⟨he, hw⟩; subst he; subst w9)
            | (go_at_call 26; with_reducible refine (unless_ff _ _).mono ?_; rintro e w9 ⟨he, hw⟩; subst he; subst w9))
          exact rec_gave hq1 HP.out _ rfl rfl
        · have j1 : decide (1 ≤ t.1) = false := decide_eq_false hk1
          clear hkd
          go_wp2_with (first
            | (go_at_call 26; with_reducible refine (unless_tt _ _).mono ?_; rintro e w9 ⟨he, hw⟩; subst he; subst w9)
            | (go_at_call 26; with_reducible refine (unless_ff _ _).mono ?_; rintro e w9 ⟨he, hw⟩; subst he; subst w9))
          exact rec_gave hq1 HP.out _ rfl rfl
      have j1 : decide (1 ≤ t.1) = true := decide_eq_true hkd.1
      have j3 : decide (t.1 ≤ 3) = true := decide_eq_true hkd.2
      cases hn : nameP t.2.1 with
      | error e9 =>
        have HP := Lib.hid (show recP x = .error e9 by rw [hmy.out]; unfold stepP depP; rw [if_pos hkd, hn]; rfl)
        rw [hn] at HNf
        simp only [endT] at HNf
        clear hn hkd
        go_wp2_with (first
          | (go_at_call 26; with_reducible refine (unless_tt _ _).mono ?_; rintro e w9 ⟨he, hw⟩; subst he; subst w9)
          | (go_at_call 26; with_reducible refine (unless_ff _ _).mono ?_; rintro e w9 ⟨he, hw⟩; subst he; subst w9)
          | (go_at_call 27; with_reducible refine (HNf.out _ hq1.below).mono ?_; rintro e w2 ⟨he, hb2⟩; subst he; have hq2 := hq1.keep hb2))
        exact rec_gave hq2 HP.out _ rfl rfl
      | ok s =>
      rw [hn] at HNf
      simp only [endT] at HNf
      cases ht2 : textP t.2.2 with
      | error e9 =>
        have HP := Lib.hid (show recP x = .error e9 by rw [hmy.out]; unfold stepP depP; rw [if_pos hkd, hn]; dsimp only; rw [ht2]; rfl)
        rw [ht2] at HTf
        simp only [endT] at HTf
        clear hn ht2 hkd
        go_wp2_with (first
          | (go_at_call 26; with_reducible refine (unless_tt _ _).mono ?_; rintro e w9 ⟨he, hw⟩; subst he; subst w9)
          | (go_at_call 26; with_reducible refine (unless_ff _ _).mono ?_; rintro e w9 ⟨he, hw⟩; subst he; subst w9)
          | (go_at_call 27; with_reducible refine (HNf.out _ hq1.below).mono ?_; rintro e w2 ⟨he, hb2⟩; subst he; have hq2 := hq1.keep hb2; have hF2 := (hb2.block wr.heap.size (by rw [hsz1]; omega)).trans hF1; have hl2 : wr.heap.size < w2.heap.size := (by have := hb2.size; omega); have hA2 := (Below.refl w2.heap.size w2).alloc (Nat.le_refl _) (.cells #[.string s, .slice none 0 0] 42); have hF3 := (hA2.block _ hl2).trans hF2; obtain ⟨f0, f1, f2, f3, f4, f5, f6⟩ := obj7 hF3; have hq3 := hq2.keep hA2; have hD3 := heap_alloc_new w2 (.cells #[.string s, .slice none 0 0] 42); have hl3 : w2.heap.size < (w2.alloc (.cells #[.string s, .slice none 0 0] 42)).heap.size := (by simp))
          | (go_at_call 29; with_reducible refine (HTf.out _ hq3.below).mono ?_; rintro e w4 ⟨he, hb4⟩; subst he; have hq4 := hq3.keep hb4; have hF4 := (hb4.block _ (Nat.lt_trans hl2 hl3)).trans hF3; have hD4 := (hb4.block _ hl3).trans hD3; have hl4 : w2.heap.size < w4.heap.size := Nat.lt_of_lt_of_le hl3 hb4.size; clear f0 f1 f2 f3 f4 f5 f6))
        exact rec_gave hq4 HP.out _ rfl rfl
      | ok tx2 =>
      rw [ht2] at HTf
      simp only [endT] at HTf
      have hsz := text_small ht2
      have HRf := Lib.hid (fun (w : World) (hb : Below W.heap.size W w) => (Sg.parse_any tx2 w (by omega) (HE.out.below (Nat.le_refl _) hb)).mono fun e W' h => (show RQ w.heap.size (rngP tx2.data.toList) e W' ∧ Below w.heap.size w W' from ⟨rq_of h.1, h.2⟩))
      cases hrg : rngP tx2.data.toList with
      | error e9 =>
        have HP := Lib.hid (show recP x = .error e9 by rw [hmy.out]; unfold stepP depP; rw [if_pos hkd, hn]; dsimp only; rw [ht2]; dsimp only; rw [hrg]; rfl)
        have hne9 : (e9 == 0) = false := beq_eq_false_iff_ne.2 (rng_er hrg)
        rw [hrg] at HRf
        simp only [RQ] at HRf
        clear hn ht2 hrg hkd hsz
        go_wp2_with (first
          | (go_at_call 26; with_reducible refine (unless_tt _ _).mono ?_; rintro e w9 ⟨he, hw⟩; subst he; subst w9)
          | (go_at_call 26; with_reducible refine (unless_ff _ _).mono ?_; rintro e w9 ⟨he, hw⟩; subst he; subst w9)
          | (go_at_call 27; with_reducible refine (HNf.out _ hq1.below).mono ?_; rintro e w2 ⟨he, hb2⟩; subst he; have hq2 := hq1.keep hb2; have hF2 := (hb2.block wr.heap.size (by rw [hsz1]; omega)).trans hF1; have hl2 : wr.heap.size < w2.heap.size := (by have := hb2.size; omega); have hA2 := (Below.refl w2.heap.size w2).alloc (Nat.le_refl _) (.cells #[.string s, .slice none 0 0] 42); have hF3 := (hA2.block _ hl2).trans hF2; obtain ⟨f0, f1, f2, f3, f4, f5, f6⟩ := obj7 hF3; have hq3 := hq2.keep hA2; have hD3 := heap_alloc_new w2 (.cells #[.string s, .slice none 0 0] 42); have hl3 : w2.heap.size < (w2.alloc (.cells #[.string s, .slice none 0 0] 42)).heap.size := (by simp))
          | (go_at_call 29; with_reducible refine (HTf.out _ hq3.below).mono ?_; rintro e w4 ⟨he, hb4⟩; subst he; have hq4 := hq3.keep hb4; have hF4 := (hb4.block _ (Nat.lt_trans hl2 hl3)).trans hF3; have hD4 := (hb4.block _ hl3).trans hD3; have hl4 : w2.heap.size < w4.heap.size := Nat.lt_of_lt_of_le hl3 hb4.size; clear f0 f1 f2 f3 f4 f5 f6)
          | (go_at_call 30; with_reducible refine (HRf.out _ hq4.below).mono ?_; rintro e w5 ⟨he, hb5⟩; subst he; have hq5 := hq4.keep hb5; have hF5 := (hb5.block _ (Nat.lt_trans hl2 hl4)).trans hF4; have hD5 := (hb5.block _ hl4).trans hD4; obtain ⟨f0, f1, f2, f3, f4, f5, f6⟩ := obj7 hF5; obtain ⟨d0, d1⟩ := obj2 hD5; have df := frz hD5; obtain ⟨b0, b1, b2, b3, b4, b5, b6, b7⟩ := obj8 hq5.b0; have bf := frz hq5.b0; have ef := frz hq5.b1; have e0 := obj1 hq5.b1; have hl5 := Nat.lt_of_lt_of_le hl4 hb5.size; have m1 : ¬ wr.heap.size = w2.heap.size := (by omega); have m2 : ¬ wr.heap.size = W.heap.size + 1 + 1 := (by omega); have m3 : ¬ w2.heap.size = W.heap.size + 1 + 1 := (by omega); have m4 : ¬ W.heap.size + 1 + 1 = w2.heap.size := (by omega); have m5 : ¬ W.heap.size + 1 = w2.heap.size := (by omega); have m6 : ¬ wr.heap.size = W.heap.size + 1 := (by omega); have m7 : ¬ w2.heap.size = W.heap.size + 1 := (by omega)))
        exact rec_gave ((hq5.far (by omega) _).err e9) HP.out _ rfl rfl
      | ok rg =>
      have hdep : depP t = .ok ⟨s, rg⟩ := by unfold depP; rw [if_pos hkd, hn]; dsimp only; rw [ht2]; dsimp only; rw [hrg]
      have HSt := Lib.hid (show stepP st t = if t.1 = 1 then (match st.tool with | some _ => .error 11 | none => .ok ⟨some ⟨s, rg⟩, st.build, st.run⟩) else if t.1 = 2 then (match moreP st.build ⟨s, rg⟩ with | .error e => .error e | .ok l => .ok ⟨st.tool, l, st.run⟩) else (match moreP st.run ⟨s, rg⟩ with | .error e => .error e | .ok l => .ok ⟨st.tool, st.build, l⟩) by unfold stepP; rw [hdep]; rfl)
      rw [hrg] at HRf
      simp only [RQ] at HRf
      clear hn ht2 hrg hsz hdep
      by_cases g1 : t.1 = 1
      · have y1 : (t.1 == 1) = true := by rw [g1]; rfl
        cases htl : st.tool with
        | some d0 =>
          have HP := Lib.hid (show recP x = .error 11 by rw [hmy.out, HSt.out, if_pos g1, htl]; rfl)
          have hso : st.tool.isSome = true := by rw [htl]; rfl
          clear g1 htl hkd
          go_wp2_with (first
            | (go_at_call 26; with_reducible refine (unless_tt _ _).mono ?_; rintro e w9 ⟨he, hw⟩; subst he; subst w9)
            | (go_at_call 26; with_reducible refine (unless_ff _ _).mono ?_; rintro e w9 ⟨he, hw⟩; subst he; subst w9)
            | (go_at_call 27; with_reducible refine (HNf.out _ hq1.below).mono ?_; rintro e w2 ⟨he, hb2⟩; subst he; have hq2 := hq1.keep hb2; have hF2 := (hb2.block wr.heap.size (by rw [hsz1]; omega)).trans hF1; have hl2 : wr.heap.size < w2.heap.size := (by have := hb2.size; omega); have hA2 := (Below.refl w2.heap.size w2).alloc (Nat.le_refl _) (.cells #[.string s, .slice none 0 0] 42); have hF3 := (hA2.block _ hl2).trans hF2; obtain ⟨f0, f1, f2, f3, f4, f5, f6⟩ := obj7 hF3; have hq3 := hq2.keep hA2; have hD3 := heap_alloc_new w2 (.cells #[.string s, .slice none 0 0] 42); have hl3 : w2.heap.size < (w2.alloc (.cells #[.string s, .slice none 0 0] 42)).heap.size := (by simp))
            | (go_at_call 29; with_reducible refine (HTf.out _ hq3.below).mono ?_; rintro e w4 ⟨he, hb4⟩; subst he; have hq4 := hq3.keep hb4; have hF4 := (hb4.block _ (Nat.lt_trans hl2 hl3)).trans hF3; have hD4 := (hb4.block _ hl3).trans hD3; have hl4 : w2.heap.size < w4.heap.size := Nat.lt_of_lt_of_le hl3 hb4.size; clear f0 f1 f2 f3 f4 f5 f6)
            | (go_at_call 30; with_reducible refine (HRf.out _ hq4.below).mono ?_; rintro e w5 ⟨⟨v5, he, hgo⟩, hb5⟩; obtain ⟨ga, gn, gc, hv5⟩ := go_form hgo; subst hv5; subst he; have hq5 := hq4.keep hb5; have hF5 := (hb5.block _ (Nat.lt_trans hl2 hl4)).trans hF4; have hD5 := (hb5.block _ hl4).trans hD4; obtain ⟨f0, f1, f2, f3, f4, f5, f6⟩ := obj7 hF5; obtain ⟨d0, d1⟩ := obj2 hD5; have df := frz hD5; obtain ⟨b0, b1, b2, b3, b4, b5, b6, b7⟩ := obj8 hq5.b0; have bf := frz hq5.b0; have ef := frz hq5.b1; have e0 := obj1 hq5.b1; have hl5 := Nat.lt_of_lt_of_le hl4 hb5.size; have m1 : ¬ wr.heap.size = w2.heap.size := (by omega); have m2 : ¬ wr.heap.size = W.heap.size + 1 + 1 := (by omega); have m3 : ¬ w2.heap.size = W.heap.size + 1 + 1 := (by omega); have m4 : ¬ W.heap.size + 1 + 1 = w2.heap.size := (by omega); have m5 : ¬ W.heap.size + 1 = w2.heap.size := (by omega); have m6 : ¬ wr.heap.size = W.heap.size + 1 := (by omega); have m7 : ¬ w2.heap.size = W.heap.size + 1 := (by omega)))
          exact rec_gave ((hq5.far (by omega) _).err 0) HP.out _ rfl rfl
        | none =>
          have HP := Lib.hid (show recP x = lastP nm (va, vb, vc) (fieldsM (x.fields.drop (k + 1)) ⟨some ⟨s, rg⟩, st.build, st.run⟩) by rw [hmy.out, HSt.out, if_pos g1, htl])
          have hso : st.tool.isSome = false := by rw [htl]; rfl
          have HSP := Lib.hid (show stepP st t = .ok ⟨some ⟨s, rg⟩, st.build, st.run⟩ by rw [HSt.out, if_pos g1, htl])
          clear g1 htl hkd
          go_wp2_with (first
            | (go_at_call 26; with_reducible refine (unless_tt _ _).mono ?_; rintro e w9 ⟨he, hw⟩; subst he; subst w9)
            | (go_at_call 26; with_reducible refine (unless_ff _ _).mono ?_; rintro e w9 ⟨he, hw⟩; subst he; subst w9)
            | (go_at_call 27; with_reducible refine (HNf.out _ hq1.below).mono ?_; rintro e w2 ⟨he, hb2⟩; subst he; have hq2 := hq1.keep hb2; have hF2 := (hb2.block wr.heap.size (by rw [hsz1]; omega)).trans hF1; have hl2 : wr.heap.size < w2.heap.size := (by have := hb2.size; omega); have hA2 := (Below.refl w2.heap.size w2).alloc (Nat.le_refl _) (.cells #[.string s, .slice none 0 0] 42); have hF3 := (hA2.block _ hl2).trans hF2; obtain ⟨f0, f1, f2, f3, f4, f5, f6⟩ := obj7 hF3; have hq3 := hq2.keep hA2; have hD3 := heap_alloc_new w2 (.cells #[.string s, .slice none 0 0] 42); have hl3 : w2.heap.size < (w2.alloc (.cells #[.string s, .slice none 0 0] 42)).heap.size := (by simp))
            | (go_at_call 29; with_reducible refine (HTf.out _ hq3.below).mono ?_; rintro e w4 ⟨he, hb4⟩; subst he; have hq4 := hq3.keep hb4; have hF4 := (hb4.block _ (Nat.lt_trans hl2 hl3)).trans hF3; have hD4 := (hb4.block _ hl3).trans hD3; have hl4 : w2.heap.size < w4.heap.size := Nat.lt_of_lt_of_le hl3 hb4.size; clear f0 f1 f2 f3 f4 f5 f6)
            | (go_at_call 30; with_reducible refine (HRf.out _ hq4.below).mono ?_; rintro e w5 ⟨⟨v5, he, hgo⟩, hb5⟩; obtain ⟨ga, gn, gc, hv5⟩ := go_form hgo; subst hv5; subst he; have hq5 := hq4.keep hb5; have hF5 := (hb5.block _ (Nat.lt_trans hl2 hl4)).trans hF4; have hD5 := (hb5.block _ hl4).trans hD4; obtain ⟨f0, f1, f2, f3, f4, f5, f6⟩ := obj7 hF5; obtain ⟨d0, d1⟩ := obj2 hD5; have df := frz hD5; obtain ⟨b0, b1, b2, b3, b4, b5, b6, b7⟩ := obj8 hq5.b0; have bf := frz hq5.b0; have ef := frz hq5.b1; have e0 := obj1 hq5.b1; have hl5 := Nat.lt_of_lt_of_le hl4 hb5.size; have m1 : ¬ wr.heap.size = w2.heap.size := (by omega); have m2 : ¬ wr.heap.size = W.heap.size + 1 + 1 := (by omega); have m3 : ¬ w2.heap.size = W.heap.size + 1 + 1 := (by omega); have m4 : ¬ W.heap.size + 1 + 1 = w2.heap.size := (by omega); have m5 : ¬ W.heap.size + 1 = w2.heap.size := (by omega); have m6 : ¬ wr.heap.size = W.heap.size + 1 := (by omega); have m7 : ¬ w2.heap.size = W.heap.size + 1 := (by omega)))
          have hs2 : (w2.alloc (.cells #[.string s, .slice none 0 0] 42)).heap.size = w2.heap.size + 1 := by simp
          have hq7 := (((hq5.far (g := w2.heap.size) (o := 1) (by omega) (.slice ga gn gc)).err 0).out 4 (.string s)).out 5 (.slice ga gn gc)
          simp only [List.setIfInBounds_toArray, List.set_cons_succ, List.set_cons_zero] at hq7
          have hset : ∀ j, j ≠ w2.heap.size → j ≠ W.heap.size + 1 → j ≠ W.heap.size + 1 + 1 → ((((w5.setCell ⟨w2.heap.size, 1, none⟩ (.slice ga gn gc)).setCell ⟨W.heap.size + 1 + 1, 0, none⟩ (.int .i64 0)).setCell ⟨W.heap.size + 1, 4, none⟩ (.string s)).setCell ⟨W.heap.size + 1, 5, none⟩ (.slice ga gn gc)).heap[j]? = w5.heap[j]? := fun j h1 h2 h3 =>
            (Below.heap_setCell _ _ _ _ h2).trans ((Below.heap_setCell _ _ _ _ h2).trans ((Below.heap_setCell _ _ _ _ h3).trans (Below.heap_setCell _ _ _ _ h1)))
          have hp7 := HW.out.2.same fun j h1 h2 => (hset j (by omega) (by omega) (by omega)).trans ((hb5.block j (by omega)).trans ((hb4.block j (by rw [hs2]; omega)).trans ((hA2.block j (by omega)).trans ((hb2.block j (by rw [hsz1]; omega)).trans (hA1.block j h2)))))
          have hg7 := GO.mono (GO.same hgo fun j h1 h2 => hset j (by omega) (by omega) (by omega)) (show W.heap.size + 3 ≤ w4.heap.size by omega)
          refine ⟨⟨k + 1, ⟨some ⟨s, rg⟩, st.build, st.run⟩, ga, gn, gc, ba, bn, bc, ra, rn, rc, qb, qr, hlt, by push_cast; rfl, rfl, hq7, hp7.setTool (d := ⟨s, rg⟩) hg7, HZ.out _ HSP.out⟩, ?_⟩
          simp only [RowKit.intOf]
          omega
      have y1 : (t.1 == 1) = false := beq_eq_false_iff_ne.2 g1
      by_cases g2 : t.1 = 2
      · have y2 : (t.1 == 2) = true := by rw [g2]; rfl
        cases hmr : moreP st.build ⟨s, rg⟩ with
        | error e9 =>
          have HP := Lib.hid (show recP x = .error e9 by rw [hmy.out, HSt.out, if_neg (by omega), if_pos g2, hmr]; rfl)
          clear hkd g1 g2
          go_wp2_with (first
            | (go_at_call 26; with_reducible refine (unless_tt _ _).mono ?_; rintro e w9 ⟨he, hw⟩; subst he; subst w9)
            | (go_at_call 26; with_reducible refine (unless_ff _ _).mono ?_; rintro e w9 ⟨he, hw⟩; subst he; subst w9)
            | (go_at_call 27; with_reducible refine (HNf.out _ hq1.below).mono ?_; rintro e w2 ⟨he, hb2⟩; subst he; have hq2 := hq1.keep hb2; have hF2 := (hb2.block wr.heap.size (by rw [hsz1]; omega)).trans hF1; have hl2 : wr.heap.size < w2.heap.size := (by have := hb2.size; omega); have hA2 := (Below.refl w2.heap.size w2).alloc (Nat.le_refl _) (.cells #[.string s, .slice none 0 0] 42); have hF3 := (hA2.block _ hl2).trans hF2; obtain ⟨f0, f1, f2, f3, f4, f5, f6⟩ := obj7 hF3; have hq3 := hq2.keep hA2; have hD3 := heap_alloc_new w2 (.cells #[.string s, .slice none 0 0] 42); have hl3 : w2.heap.size < (w2.alloc (.cells #[.string s, .slice none 0 0] 42)).heap.size := (by simp))
            | (go_at_call 29; with_reducible refine (HTf.out _ hq3.below).mono ?_; rintro e w4 ⟨he, hb4⟩; subst he; have hq4 := hq3.keep hb4; have hF4 := (hb4.block _ (Nat.lt_trans hl2 hl3)).trans hF3; have hD4 := (hb4.block _ hl3).trans hD3; have hl4 : w2.heap.size < w4.heap.size := Nat.lt_of_lt_of_le hl3 hb4.size; clear f0 f1 f2 f3 f4 f5 f6)
            | (go_at_call 30; with_reducible refine (HRf.out _ hq4.below).mono ?_; rintro e w5 ⟨⟨v5, he, hgo⟩, hb5⟩; obtain ⟨ga, gn, gc, hv5⟩ := go_form hgo; subst hv5; subst he; have hq5 := hq4.keep hb5; have hF5 := (hb5.block _ (Nat.lt_trans hl2 hl4)).trans hF4; have hD5 := (hb5.block _ hl4).trans hD4; obtain ⟨f0, f1, f2, f3, f4, f5, f6⟩ := obj7 hF5; obtain ⟨d0, d1⟩ := obj2 hD5; have df := frz hD5; obtain ⟨b0, b1, b2, b3, b4, b5, b6, b7⟩ := obj8 hq5.b0; have bf := frz hq5.b0; have ef := frz hq5.b1; have e0 := obj1 hq5.b1; have hl5 := Nat.lt_of_lt_of_le hl4 hb5.size; have m1 : ¬ wr.heap.size = w2.heap.size := (by omega); have m2 : ¬ wr.heap.size = W.heap.size + 1 + 1 := (by omega); have m3 : ¬ w2.heap.size = W.heap.size + 1 + 1 := (by omega); have m4 : ¬ W.heap.size + 1 + 1 = w2.heap.size := (by omega); have m5 : ¬ W.heap.size + 1 = w2.heap.size := (by omega); have m6 : ¬ wr.heap.size = W.heap.size + 1 := (by omega); have m7 : ¬ w2.heap.size = W.heap.size + 1 := (by omega))
            | (go_at_call 31; have hs2 : (w2.alloc (.cells #[.string s, .slice none 0 0] 42)).heap.size = w2.heap.size + 1 := (by simp); have hq6 := (hq5.far (g := w2.heap.size) (o := 1) (by omega) (.slice ga gn gc)).err 0; have hset : ∀ j, j ≠ w2.heap.size → j ≠ W.heap.size + 1 + 1 → (((w5.setCell ⟨w2.heap.size, 1, none⟩ (.slice ga gn gc)).setCell ⟨W.heap.size + 1 + 1, 0, none⟩ (.int .i64 0))).heap[j]? = w5.heap[j]? := (fun j h1 h3 => (Below.heap_setCell _ _ _ _ h3).trans (Below.heap_setCell _ _ _ _ h1)); have hp6 := HW.out.2.same (w' := ((w5.setCell ⟨w2.heap.size, 1, none⟩ (.slice ga gn gc)).setCell ⟨W.heap.size + 1 + 1, 0, none⟩ (.int .i64 0))) (fun j h1 h2 => (hset j (by omega) (by omega)).trans ((hb5.block j (by omega)).trans ((hb4.block j (by rw [hs2]; omega)).trans ((hA2.block j (by omega)).trans ((hb2.block j (by rw [hsz1]; omega)).trans (hA1.block j h2)))))); have hg6 : Sg.GO ((w5.setCell ⟨w2.heap.size, 1, none⟩ (.slice ga gn gc)).setCell ⟨W.heap.size + 1 + 1, 0, none⟩ (.int .i64 0)) (W.heap.size + 3) (.slice ga gn gc) rg := GO.mono (GO.same hgo (fun j h1 h2 => hset j (by omega) (by omega))) (show W.heap.size + 3 ≤ w4.heap.size by omega); have hz6 : W.heap.size + 3 ≤ (((w5.setCell ⟨w2.heap.size, 1, none⟩ (.slice ga gn gc)).setCell ⟨W.heap.size + 1 + 1, 0, none⟩ (.int .i64 0))).heap.size := hq6.sz; have hmo := more_any (W := ((w5.setCell ⟨w2.heap.size, 1, none⟩ (.slice ga gn gc)).setCell ⟨W.heap.size + 1 + 1, 0, none⟩ (.int .i64 0))) (q := ⟨s, ga, gn, gc⟩) (d := ⟨s, rg⟩) hp6.build hz6 hp6.lb ⟨rfl, hg6⟩; rw [hmr] at hmo; simp only [MQ] at hmo; have HP6 := Lib.hid hp6; with_reducible refine hmo.mono ?_; rintro e w7 ⟨he, hgr⟩; subst he; have hq7 := hq6.grown HP6.out.build.row (Nat.le_refl _) hgr))
          exact rec_gave hq7 HP.out _ rfl rfl
        | ok l9 =>
          have HSP := Lib.hid (show stepP st t = .ok ⟨st.tool, l9, st.run⟩ by rw [HSt.out, if_neg (by omega), if_pos g2, hmr])
          have hl9 : l9.length ≤ 8 := more_len hmr HW.out.2.lb
          clear hkd g1 g2
          go_wp2_with (first
            | (go_at_call 26; with_reducible refine (unless_tt _ _).mono ?_; rintro e w9 ⟨he, hw⟩; subst he; subst w9)
            | (go_at_call 26; with_reducible refine (unless_ff _ _).mono ?_; rintro e w9 ⟨he, hw⟩; subst he; subst w9)
            | (go_at_call 27; with_reducible refine (HNf.out _ hq1.below).mono ?_; rintro e w2 ⟨he, hb2⟩; subst he; have hq2 := hq1.keep hb2; have hF2 := (hb2.block wr.heap.size (by rw [hsz1]; omega)).trans hF1; have hl2 : wr.heap.size < w2.heap.size := (by have := hb2.size; omega); have hA2 := (Below.refl w2.heap.size w2).alloc (Nat.le_refl _) (.cells #[.string s, .slice none 0 0] 42); have hF3 := (hA2.block _ hl2).trans hF2; obtain ⟨f0, f1, f2, f3, f4, f5, f6⟩ := obj7 hF3; have hq3 := hq2.keep hA2; have hD3 := heap_alloc_new w2 (.cells #[.string s, .slice none 0 0] 42); have hl3 : w2.heap.size < (w2.alloc (.cells #[.string s, .slice none 0 0] 42)).heap.size := (by simp))
            | (go_at_call 29; with_reducible refine (HTf.out _ hq3.below).mono ?_; rintro e w4 ⟨he, hb4⟩; subst he; have hq4 := hq3.keep hb4; have hF4 := (hb4.block _ (Nat.lt_trans hl2 hl3)).trans hF3; have hD4 := (hb4.block _ hl3).trans hD3; have hl4 : w2.heap.size < w4.heap.size := Nat.lt_of_lt_of_le hl3 hb4.size; clear f0 f1 f2 f3 f4 f5 f6)
            | (go_at_call 30; with_reducible refine (HRf.out _ hq4.below).mono ?_; rintro e w5 ⟨⟨v5, he, hgo⟩, hb5⟩; obtain ⟨ga, gn, gc, hv5⟩ := go_form hgo; subst hv5; subst he; have hq5 := hq4.keep hb5; have hF5 := (hb5.block _ (Nat.lt_trans hl2 hl4)).trans hF4; have hD5 := (hb5.block _ hl4).trans hD4; obtain ⟨f0, f1, f2, f3, f4, f5, f6⟩ := obj7 hF5; obtain ⟨d0, d1⟩ := obj2 hD5; have df := frz hD5; obtain ⟨b0, b1, b2, b3, b4, b5, b6, b7⟩ := obj8 hq5.b0; have bf := frz hq5.b0; have ef := frz hq5.b1; have e0 := obj1 hq5.b1; have hl5 := Nat.lt_of_lt_of_le hl4 hb5.size; have m1 : ¬ wr.heap.size = w2.heap.size := (by omega); have m2 : ¬ wr.heap.size = W.heap.size + 1 + 1 := (by omega); have m3 : ¬ w2.heap.size = W.heap.size + 1 + 1 := (by omega); have m4 : ¬ W.heap.size + 1 + 1 = w2.heap.size := (by omega); have m5 : ¬ W.heap.size + 1 = w2.heap.size := (by omega); have m6 : ¬ wr.heap.size = W.heap.size + 1 := (by omega); have m7 : ¬ w2.heap.size = W.heap.size + 1 := (by omega))
            | (go_at_call 31; have hs2 : (w2.alloc (.cells #[.string s, .slice none 0 0] 42)).heap.size = w2.heap.size + 1 := (by simp); have hq6 := (hq5.far (g := w2.heap.size) (o := 1) (by omega) (.slice ga gn gc)).err 0; have hset : ∀ j, j ≠ w2.heap.size → j ≠ W.heap.size + 1 + 1 → (((w5.setCell ⟨w2.heap.size, 1, none⟩ (.slice ga gn gc)).setCell ⟨W.heap.size + 1 + 1, 0, none⟩ (.int .i64 0))).heap[j]? = w5.heap[j]? := (fun j h1 h3 => (Below.heap_setCell _ _ _ _ h3).trans (Below.heap_setCell _ _ _ _ h1)); have hp6 := HW.out.2.same (w' := ((w5.setCell ⟨w2.heap.size, 1, none⟩ (.slice ga gn gc)).setCell ⟨W.heap.size + 1 + 1, 0, none⟩ (.int .i64 0))) (fun j h1 h2 => (hset j (by omega) (by omega)).trans ((hb5.block j (by omega)).trans ((hb4.block j (by rw [hs2]; omega)).trans ((hA2.block j (by omega)).trans ((hb2.block j (by rw [hsz1]; omega)).trans (hA1.block j h2)))))); have hg6 : Sg.GO ((w5.setCell ⟨w2.heap.size, 1, none⟩ (.slice ga gn gc)).setCell ⟨W.heap.size + 1 + 1, 0, none⟩ (.int .i64 0)) (W.heap.size + 3) (.slice ga gn gc) rg := GO.mono (GO.same hgo (fun j h1 h2 => hset j (by omega) (by omega))) (show W.heap.size + 3 ≤ w4.heap.size by omega); have hz6 : W.heap.size + 3 ≤ (((w5.setCell ⟨w2.heap.size, 1, none⟩ (.slice ga gn gc)).setCell ⟨W.heap.size + 1 + 1, 0, none⟩ (.int .i64 0))).heap.size := hq6.sz; have hmo := more_any (W := ((w5.setCell ⟨w2.heap.size, 1, none⟩ (.slice ga gn gc)).setCell ⟨W.heap.size + 1 + 1, 0, none⟩ (.int .i64 0))) (q := ⟨s, ga, gn, gc⟩) (d := ⟨s, rg⟩) hp6.build hz6 hp6.lb ⟨rfl, hg6⟩; rw [hmr] at hmo; simp only [MQ] at hmo; have HP6 := Lib.hid hp6; with_reducible refine hmo.mono ?_; rintro e w7 ⟨hgr, ga9, gn9, gc9, he, hd7, hat⟩; subst he; have hq7 := hq6.grown HP6.out.build.row (Nat.le_refl _) hgr; have hp7 := HP6.out.setBuild hgr hd7 hl9 hat; clear b0 b1 b2 b3 b4 b5 b6 b7 bf; obtain ⟨b0, b1, b2, b3, b4, b5, b6, b7⟩ := obj8 hq7.b0; have bf := frz hq7.b0; have HP7 := Lib.hid hp7; clear hp7 hd7 hat hgr hmo hp6 hg6 hset hmr))
          have hq8 := hq7.out 6 (.slice ga9 gn9 gc9)
          simp only [List.setIfInBounds_toArray, List.set_cons_succ, List.set_cons_zero] at hq8
          have hp8 := HP7.out.same fun j h1 h2 => Below.heap_setCell w7 ⟨W.heap.size + 1, 6, none⟩ (.slice ga9 gn9 gc9) j (by show j ≠ W.heap.size + 1; omega)
          refine ⟨⟨k + 1, ⟨st.tool, l9, st.run⟩, ta, tn, tc, ga9, gn9, gc9, ra, rn, rc, _, qr, hlt, by push_cast; rfl, rfl, hq8, hp8, HZ.out _ HSP.out⟩, ?_⟩
          simp only [RowKit.intOf]
          omega
      · have y2 : (t.1 == 2) = false := beq_eq_false_iff_ne.2 g2
        have g3 : t.1 = 3 := by omega
        have y3 : (t.1 == 3) = true := by rw [g3]; rfl
        cases hmr : moreP st.run ⟨s, rg⟩ with
        | error e9 =>
          have HP := Lib.hid (show recP x = .error e9 by rw [hmy.out, HSt.out, if_neg (by omega), if_neg (by omega), hmr]; rfl)
          clear hkd g1 g2 g3
          go_wp2_with (first
            | (go_at_call 26; with_reducible refine (unless_tt _ _).mono ?_; rintro e w9 ⟨he, hw⟩; subst he; subst w9)
            | (go_at_call 26; with_reducible refine (unless_ff _ _).mono ?_; rintro e w9 ⟨he, hw⟩; subst he; subst w9)
            | (go_at_call 27; with_reducible refine (HNf.out _ hq1.below).mono ?_; rintro e w2 ⟨he, hb2⟩; subst he; have hq2 := hq1.keep hb2; have hF2 := (hb2.block wr.heap.size (by rw [hsz1]; omega)).trans hF1; have hl2 : wr.heap.size < w2.heap.size := (by have := hb2.size; omega); have hA2 := (Below.refl w2.heap.size w2).alloc (Nat.le_refl _) (.cells #[.string s, .slice none 0 0] 42); have hF3 := (hA2.block _ hl2).trans hF2; obtain ⟨f0, f1, f2, f3, f4, f5, f6⟩ := obj7 hF3; have hq3 := hq2.keep hA2; have hD3 := heap_alloc_new w2 (.cells #[.string s, .slice none 0 0] 42); have hl3 : w2.heap.size < (w2.alloc (.cells #[.string s, .slice none 0 0] 42)).heap.size := (by simp))
            | (go_at_call 29; with_reducible refine (HTf.out _ hq3.below).mono ?_; rintro e w4 ⟨he, hb4⟩; subst he; have hq4 := hq3.keep hb4; have hF4 := (hb4.block _ (Nat.lt_trans hl2 hl3)).trans hF3; have hD4 := (hb4.block _ hl3).trans hD3; have hl4 : w2.heap.size < w4.heap.size := Nat.lt_of_lt_of_le hl3 hb4.size; clear f0 f1 f2 f3 f4 f5 f6)
            | (go_at_call 30; with_reducible refine (HRf.out _ hq4.below).mono ?_; rintro e w5 ⟨⟨v5, he, hgo⟩, hb5⟩; obtain ⟨ga, gn, gc, hv5⟩ := go_form hgo; subst hv5; subst he; have hq5 := hq4.keep hb5; have hF5 := (hb5.block _ (Nat.lt_trans hl2 hl4)).trans hF4; have hD5 := (hb5.block _ hl4).trans hD4; obtain ⟨f0, f1, f2, f3, f4, f5, f6⟩ := obj7 hF5; obtain ⟨d0, d1⟩ := obj2 hD5; have df := frz hD5; obtain ⟨b0, b1, b2, b3, b4, b5, b6, b7⟩ := obj8 hq5.b0; have bf := frz hq5.b0; have ef := frz hq5.b1; have e0 := obj1 hq5.b1; have hl5 := Nat.lt_of_lt_of_le hl4 hb5.size; have m1 : ¬ wr.heap.size = w2.heap.size := (by omega); have m2 : ¬ wr.heap.size = W.heap.size + 1 + 1 := (by omega); have m3 : ¬ w2.heap.size = W.heap.size + 1 + 1 := (by omega); have m4 : ¬ W.heap.size + 1 + 1 = w2.heap.size := (by omega); have m5 : ¬ W.heap.size + 1 = w2.heap.size := (by omega); have m6 : ¬ wr.heap.size = W.heap.size + 1 := (by omega); have m7 : ¬ w2.heap.size = W.heap.size + 1 := (by omega))
            | (go_at_call 31; have hs2 : (w2.alloc (.cells #[.string s, .slice none 0 0] 42)).heap.size = w2.heap.size + 1 := (by simp); have hq6 := (hq5.far (g := w2.heap.size) (o := 1) (by omega) (.slice ga gn gc)).err 0; have hset : ∀ j, j ≠ w2.heap.size → j ≠ W.heap.size + 1 + 1 → (((w5.setCell ⟨w2.heap.size, 1, none⟩ (.slice ga gn gc)).setCell ⟨W.heap.size + 1 + 1, 0, none⟩ (.int .i64 0))).heap[j]? = w5.heap[j]? := (fun j h1 h3 => (Below.heap_setCell _ _ _ _ h3).trans (Below.heap_setCell _ _ _ _ h1)); have hp6 := HW.out.2.same (w' := ((w5.setCell ⟨w2.heap.size, 1, none⟩ (.slice ga gn gc)).setCell ⟨W.heap.size + 1 + 1, 0, none⟩ (.int .i64 0))) (fun j h1 h2 => (hset j (by omega) (by omega)).trans ((hb5.block j (by omega)).trans ((hb4.block j (by rw [hs2]; omega)).trans ((hA2.block j (by omega)).trans ((hb2.block j (by rw [hsz1]; omega)).trans (hA1.block j h2)))))); have hg6 : Sg.GO ((w5.setCell ⟨w2.heap.size, 1, none⟩ (.slice ga gn gc)).setCell ⟨W.heap.size + 1 + 1, 0, none⟩ (.int .i64 0)) (W.heap.size + 3) (.slice ga gn gc) rg := GO.mono (GO.same hgo (fun j h1 h2 => hset j (by omega) (by omega))) (show W.heap.size + 3 ≤ w4.heap.size by omega); have hz6 : W.heap.size + 3 ≤ (((w5.setCell ⟨w2.heap.size, 1, none⟩ (.slice ga gn gc)).setCell ⟨W.heap.size + 1 + 1, 0, none⟩ (.int .i64 0))).heap.size := hq6.sz; have hmo := more_any (W := ((w5.setCell ⟨w2.heap.size, 1, none⟩ (.slice ga gn gc)).setCell ⟨W.heap.size + 1 + 1, 0, none⟩ (.int .i64 0))) (q := ⟨s, ga, gn, gc⟩) (d := ⟨s, rg⟩) hp6.run hz6 hp6.lr ⟨rfl, hg6⟩; rw [hmr] at hmo; simp only [MQ] at hmo; have HP6 := Lib.hid hp6; with_reducible refine hmo.mono ?_; rintro e w7 ⟨he, hgr⟩; subst he; have hq7 := hq6.grown HP6.out.run.row (Nat.le_refl _) hgr))
          exact rec_gave hq7 HP.out _ rfl rfl
        | ok l9 =>
          have HSP := Lib.hid (show stepP st t = .ok ⟨st.tool, st.build, l9⟩ by rw [HSt.out, if_neg (by omega), if_neg (by omega), hmr])
          have hl9 : l9.length ≤ 8 := more_len hmr HW.out.2.lr
          clear hkd g1 g2 g3
          go_wp2_with (first
            | (go_at_call 26; with_reducible refine (unless_tt _ _).mono ?_; rintro e w9 ⟨he, hw⟩; subst he; subst w9)
            | (go_at_call 26; with_reducible refine (unless_ff _ _).mono ?_; rintro e w9 ⟨he, hw⟩; subst he; subst w9)
            | (go_at_call 27; with_reducible refine (HNf.out _ hq1.below).mono ?_; rintro e w2 ⟨he, hb2⟩; subst he; have hq2 := hq1.keep hb2; have hF2 := (hb2.block wr.heap.size (by rw [hsz1]; omega)).trans hF1; have hl2 : wr.heap.size < w2.heap.size := (by have := hb2.size; omega); have hA2 := (Below.refl w2.heap.size w2).alloc (Nat.le_refl _) (.cells #[.string s, .slice none 0 0] 42); have hF3 := (hA2.block _ hl2).trans hF2; obtain ⟨f0, f1, f2, f3, f4, f5, f6⟩ := obj7 hF3; have hq3 := hq2.keep hA2; have hD3 := heap_alloc_new w2 (.cells #[.string s, .slice none 0 0] 42); have hl3 : w2.heap.size < (w2.alloc (.cells #[.string s, .slice none 0 0] 42)).heap.size := (by simp))
            | (go_at_call 29; with_reducible refine (HTf.out _ hq3.below).mono ?_; rintro e w4 ⟨he, hb4⟩; subst he; have hq4 := hq3.keep hb4; have hF4 := (hb4.block _ (Nat.lt_trans hl2 hl3)).trans hF3; have hD4 := (hb4.block _ hl3).trans hD3; have hl4 : w2.heap.size < w4.heap.size := Nat.lt_of_lt_of_le hl3 hb4.size; clear f0 f1 f2 f3 f4 f5 f6)
            | (go_at_call 30; with_reducible refine (HRf.out _ hq4.below).mono ?_; rintro e w5 ⟨⟨v5, he, hgo⟩, hb5⟩; obtain ⟨ga, gn, gc, hv5⟩ := go_form hgo; subst hv5; subst he; have hq5 := hq4.keep hb5; have hF5 := (hb5.block _ (Nat.lt_trans hl2 hl4)).trans hF4; have hD5 := (hb5.block _ hl4).trans hD4; obtain ⟨f0, f1, f2, f3, f4, f5, f6⟩ := obj7 hF5; obtain ⟨d0, d1⟩ := obj2 hD5; have df := frz hD5; obtain ⟨b0, b1, b2, b3, b4, b5, b6, b7⟩ := obj8 hq5.b0; have bf := frz hq5.b0; have ef := frz hq5.b1; have e0 := obj1 hq5.b1; have hl5 := Nat.lt_of_lt_of_le hl4 hb5.size; have m1 : ¬ wr.heap.size = w2.heap.size := (by omega); have m2 : ¬ wr.heap.size = W.heap.size + 1 + 1 := (by omega); have m3 : ¬ w2.heap.size = W.heap.size + 1 + 1 := (by omega); have m4 : ¬ W.heap.size + 1 + 1 = w2.heap.size := (by omega); have m5 : ¬ W.heap.size + 1 = w2.heap.size := (by omega); have m6 : ¬ wr.heap.size = W.heap.size + 1 := (by omega); have m7 : ¬ w2.heap.size = W.heap.size + 1 := (by omega))
            | (go_at_call 31; have hs2 : (w2.alloc (.cells #[.string s, .slice none 0 0] 42)).heap.size = w2.heap.size + 1 := (by simp); have hq6 := (hq5.far (g := w2.heap.size) (o := 1) (by omega) (.slice ga gn gc)).err 0; have hset : ∀ j, j ≠ w2.heap.size → j ≠ W.heap.size + 1 + 1 → (((w5.setCell ⟨w2.heap.size, 1, none⟩ (.slice ga gn gc)).setCell ⟨W.heap.size + 1 + 1, 0, none⟩ (.int .i64 0))).heap[j]? = w5.heap[j]? := (fun j h1 h3 => (Below.heap_setCell _ _ _ _ h3).trans (Below.heap_setCell _ _ _ _ h1)); have hp6 := HW.out.2.same (w' := ((w5.setCell ⟨w2.heap.size, 1, none⟩ (.slice ga gn gc)).setCell ⟨W.heap.size + 1 + 1, 0, none⟩ (.int .i64 0))) (fun j h1 h2 => (hset j (by omega) (by omega)).trans ((hb5.block j (by omega)).trans ((hb4.block j (by rw [hs2]; omega)).trans ((hA2.block j (by omega)).trans ((hb2.block j (by rw [hsz1]; omega)).trans (hA1.block j h2)))))); have hg6 : Sg.GO ((w5.setCell ⟨w2.heap.size, 1, none⟩ (.slice ga gn gc)).setCell ⟨W.heap.size + 1 + 1, 0, none⟩ (.int .i64 0)) (W.heap.size + 3) (.slice ga gn gc) rg := GO.mono (GO.same hgo (fun j h1 h2 => hset j (by omega) (by omega))) (show W.heap.size + 3 ≤ w4.heap.size by omega); have hz6 : W.heap.size + 3 ≤ (((w5.setCell ⟨w2.heap.size, 1, none⟩ (.slice ga gn gc)).setCell ⟨W.heap.size + 1 + 1, 0, none⟩ (.int .i64 0))).heap.size := hq6.sz; have hmo := more_any (W := ((w5.setCell ⟨w2.heap.size, 1, none⟩ (.slice ga gn gc)).setCell ⟨W.heap.size + 1 + 1, 0, none⟩ (.int .i64 0))) (q := ⟨s, ga, gn, gc⟩) (d := ⟨s, rg⟩) hp6.run hz6 hp6.lr ⟨rfl, hg6⟩; rw [hmr] at hmo; simp only [MQ] at hmo; have HP6 := Lib.hid hp6; with_reducible refine hmo.mono ?_; rintro e w7 ⟨hgr, ga9, gn9, gc9, he, hd7, hat⟩; subst he; have hq7 := hq6.grown HP6.out.run.row (Nat.le_refl _) hgr; have hp7 := HP6.out.setRun hgr hd7 hl9 hat; clear b0 b1 b2 b3 b4 b5 b6 b7 bf; obtain ⟨b0, b1, b2, b3, b4, b5, b6, b7⟩ := obj8 hq7.b0; have bf := frz hq7.b0; have HP7 := Lib.hid hp7; clear hp7 hd7 hat hgr hmo hp6 hg6 hset hmr))
          have hq8 := hq7.out 7 (.slice ga9 gn9 gc9)
          simp only [List.setIfInBounds_toArray, List.set_cons_succ, List.set_cons_zero] at hq8
          have hp8 := HP7.out.same fun j h1 h2 => Below.heap_setCell w7 ⟨W.heap.size + 1, 7, none⟩ (.slice ga9 gn9 gc9) j (by show j ≠ W.heap.size + 1; omega)
          refine ⟨⟨k + 1, ⟨st.tool, st.build, l9⟩, ta, tn, tc, ba, bn, bc, ga9, gn9, gc9, qb, _, hlt, by push_cast; rfl, rfl, hq8, hp8, HZ.out _ HSP.out⟩, ?_⟩
          simp only [RowKit.intOf]
          omega
    · have hkn : k = n := by omega
      have hfin : fieldsM (x.fields.drop k) st = .ok st := by rw [List.drop_of_length_le (by rw [← HNL.out]; omega)]; rfl
      have hrc : recP x = lastP nm (va, vb, vc) (.ok st) := by rw [hmx.out, hfin]
      cases htl : st.tool with
      | none =>
        have HP := Lib.hid (show recP x = .error 14 by rw [hrc]; unfold lastP; dsimp only; rw [htl])
        have hso : st.tool.isSome = false := by rw [htl]; rfl
        clear hrc hfin htl
        go_wp2_with (first
          | (go_at_call 26; with_reducible refine (unless_tt _ _).mono ?_; rintro e w9 ⟨he, hw⟩; subst he; subst w9)
          | (go_at_call 26; with_reducible refine (unless_ff _ _).mono ?_; rintro e w9 ⟨he, hw⟩; subst he; subst w9))
        exact rec_gave hw HP.out _ rfl rfl
      | some d9 =>
        have HP := Lib.hid (show recP x = .ok ⟨nm, (va, vb, vc), d9, st.build, st.run⟩ by rw [hrc]; unfold lastP; dsimp only; rw [htl])
        have hso : st.tool.isSome = true := by rw [htl]; rfl
        have htd : toolD st = d9 := by unfold toolD; rw [htl]; rfl
        rw [htd] at hw
        obtain ⟨b0, b1, b2, b3, b4, b5, b6, b7⟩ := obj8 hw.b0
        have bf := frz hw.b0
        have ef := frz hw.b1
        have e0 := obj1 hw.b1
        have HW9 := Lib.hid (And.intro hw hp)
        have HTD := Lib.hid htd
        clear hrc hfin htl hw hp htd
        go_wp2_with (first
          | (go_at_call 26; with_reducible refine (unless_tt _ _).mono ?_; rintro e w9 ⟨he, hw⟩; subst he; subst w9)
          | (go_at_call 26; with_reducible refine (unless_ff _ _).mono ?_; rintro e w9 ⟨he, hw⟩; subst he; subst w9))
        have hq9 := (HW9.out.1.put (.string nm) (.int .i64 va) (.int .i64 vb) (.int .i64 vc) (.string d9.name) (.slice ta tn tc) (.slice ba bn bc) (.slice ra rn rc)).err 0
        have hsm : ∀ j, W.heap.size + 3 ≤ j → ((put8 wr (W.heap.size + 1) (.string nm) (.int .i64 va) (.int .i64 vb) (.int .i64 vc) (.string d9.name) (.slice ta tn tc) (.slice ba bn bc) (.slice ra rn rc)).setCell ⟨W.heap.size + 1 + 1, 0, none⟩ (.int .i64 0)).heap[j]? = wr.heap[j]? := fun j hj =>
          (Below.heap_setCell _ _ _ _ (by show j ≠ W.heap.size + 1 + 1; omega)).trans (put8_heap _ _ _ _ _ _ _ _ _ _ _ (by omega))
        have hp9 := HW9.out.2.same fun j h1 _ => hsm j h1
        have ht9 := hp9.tool
        rw [show (toolD st) = d9 from HTD.out] at ht9
        exact rec_done hq9 (GO.mono ht9 (by omega)) (DO.mono hp9.build (by omega)) (DO.mono hp9.run (by omega)) HP.out _ rfl rfl
end Ev
end Go.Proofs.YtflhmoelenmomaaGreatDoor
