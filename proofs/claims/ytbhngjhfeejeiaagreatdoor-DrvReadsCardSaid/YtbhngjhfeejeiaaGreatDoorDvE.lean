/-
  Walk: the reference's Node of a build, and its Encode.
-/
import Derived.Test.YtbhngjhfeejeiaaGreatDoorDvC
import Derived.Deep.AppendLies
namespace Go.Proofs.YtbhngjhfeejeiaaGreatDoor
open Go.RowKit Sx
namespace Dv

set_option maxHeartbeats 400000 in
theorem atomr_any (s : ByteArray) (W : World) : Calls Tryz.prog 38 #[.string s] W fun e W' => e = .returned (AV s) ∧ Below W.heap.size W W' := by
  go_enter Tryz.func38, Tryz.ntmps38
  go_wp2
  refine bodyPost_ret (v := AV s) (by simp [results, Tryz.results38, go_sem]) rfl ⟨rfl, ?_⟩
  first
    | exact (Below.refl _ _).alloc (Nat.le_refl _) _
    | exact ((((Below.refl _ _).alloc (Nat.le_refl _) _).setCell (Nat.le_refl _) _).setCell (Nat.le_refl _) _).setCell (Nat.le_refl _) _
theorem KB.off {W : World} {ts : List ByteArray} {z : Value} {o : Nat} (h : KB W ts z) (ho : W.cell? ⟨o, 0, none⟩ = some (.bool false)) : ∀ g cap, z = .slice (some ⟨g, 0, none⟩) ts.length cap → g ≠ o := by
  intro g cap e hg
  obtain ⟨g', cap', rfl, hlt, hl, hc⟩ := h
  cases e
  subst hg
  obtain ⟨s, hs⟩ : ∃ s, ts[0]? = some s := ⟨ts[0], List.getElem?_eq_getElem hl⟩
  have h1 := (hc 0 s hs).1
  simp at h1
  rw [h1] at ho
  simp at ho
theorem KS.setO {W : World} {B : Nat} {p : List (List ByteArray)} {k : Nat} {v : Value} {zs : List Value} {o : Nat} (h : KS W B p k v zs) (ho : W.cell? ⟨o, 0, none⟩ = some (.bool false)) (hB : o < B) (W' : World) (hs : W.heap.size ≤ W'.heap.size) (hh : ∀ g, g ≠ o → W'.heap[g]? = W.heap[g]?) : KS W' B p k v zs :=
  ⟨h.len, own_block h.own (fun k hk => hh k (by have := (h.own.lt k hk).1; omega)), h.nil, fun i z x hz hx => (h.kb i z x hz hx).keep hs (fun g cap e => hh g (KB.off (h.kb i z x hz hx) ho g cap e))⟩
theorem with_rep {d : D} {W : World} {B : Nat} {kv : Value} {zs : List Value} (hK : KS W B (kids d) (kids d).length kv zs) : Rep W W.heap.size 2 (withT d) (.agg #[.bool false, .string ⟨#[]⟩, kv]) := by
  by_cases h0 : (kids d).length = 0
  · have e := hK.nil h0
    subst e
    have hn : kids d = [] := List.length_eq_zero_iff.1 h0
    unfold withT
    rw [hn]
    exact .list 1 [] none 0 (fun _ => .nilIface) (fun _ => .nilIface) (fun _ => .nilIface) (fun i k hk => by simp at hk) (fun i k hk => by simp at hk)
  · exact KS.rep (p := kids d) hK.kb hK.len hK.own (by omega)
open Classical in
/-- a world of which p holds -/
noncomputable def kp (p : World → Prop) (X Y : World) : World := if p Y then Y else X
theorem kp_of {p : World → Prop} {X Y : World} (h : p Y) : Y = kp p X Y := by unfold kp; rw [if_pos h]
theorem kp_spec {p : World → Prop} {X : World} (h : p X) (Y : World) : p (kp p X Y) := by unfold kp; split <;> assumption
/-- what a round's statement reads: the list under way, the input -/
def rd (o q : Nat) (kv : Value) (x : ByteArray × ByteArray) (W : World) : Prop := NB W o kv ∧ CI W q x

set_option maxHeartbeats 8000000 in
set_option maxRecDepth 100000 in
theorem noder_any (d : D) (v : Value) (W : World) (hS : SI W v d.ins) (h40 : d.ins.length ≤ 40) (hE0 : Vs.Env0 W) :
    Calls Tryz.prog 17 #[DV d v] W fun e W' => ∃ u, e = .returned u ∧ Rep W' W'.heap.size 3 (drvT d) u ∧ Below W.heap.size W W' := by
  obtain ⟨i0, hi0, hz0, hz1, hz2⟩ := info_parts info_node
  have hC := ((DC.new W d v).below ((Below.refl _ _).alloc (Nat.le_refl _) (.cells #[.bool false, .string ⟨#[]⟩, .slice none 0 0] 39))).below ((Below.refl _ _).alloc (Nat.le_refl _) (.cells #[.bool false, .string ⟨#[]⟩, .slice none 0 0] 39))
  have hB := (((Below.refl W.heap.size W).alloc (Nat.le_refl _) (DO d v)).alloc (by simp) (.cells #[.bool false, .string ⟨#[]⟩, .slice none 0 0] 39)).alloc (by simp; omega) (.cells #[.bool false, .string ⟨#[]⟩, .slice none 0 0] 39)
  have hR := (NB.new (W.alloc (DO d v)) (.slice none 0 0)).below ((Below.refl _ _).alloc (Nat.le_refl _) (.cells #[.bool false, .string ⟨#[]⟩, .slice none 0 0] 39))
  have hO := NB.new ((W.alloc (DO d v)).alloc (.cells #[.bool false, .string ⟨#[]⟩, .slice none 0 0] 39)) (.slice none 0 0)
  rw [show (W.alloc (DO d v)).heap.size = W.heap.size + 1 by simp] at hR
  rw [show ((W.alloc (DO d v)).alloc (.cells #[.bool false, .string ⟨#[]⟩, .slice none 0 0] 39)).heap.size = W.heap.size + 2 by simp] at hO
  obtain ⟨sl, cap, rfl, hlen, hf⟩ := hS
  have HF := Lib.hid hf
  clear hf
  have hK0 : KS (((W.alloc (DO d (.slice sl d.ins.length cap))).alloc (.cells #[.bool false, .string ⟨#[]⟩, .slice none 0 0] 39)).alloc (.cells #[.bool false, .string ⟨#[]⟩, .slice none 0 0] 39)) (W.heap.size + 3) (kids d) 0 (.slice none 0 0) [] := ⟨rfl, World.ownsRow_nil _ _ _ _, fun _ => rfl, fun i z x hz => by simp at hz⟩
  have c5 := hC.c5
  go_enter Tryz.func17, Tryz.ntmps17
  go_wp2_with fail
  go_loopw [5, 10] (fun _ i wr => ∃ (k : Nat) (zs : List Value) (kv : Value), k ≤ d.ins.length ∧ i = .int .i64 k ∧ KS wr (W.heap.size + 3) (kids d) k kv zs ∧ NB wr (W.heap.size + 2) kv ∧ NB wr (W.heap.size + 1) (.slice none 0 0) ∧ DC wr W.heap.size d (.slice sl d.ins.length cap) ∧ Below W.heap.size W wr) (fun _ i _ => d.ins.length - (intOf i).toNat)
  case atStart => exact ⟨0, [], _, Nat.zero_le _, rfl, hK0, hO, hR, hC, hB⟩
  case round =>
    obtain ⟨k, zs, kv, hk, rfl, hKr, hOr, hRr, hCr, hbr⟩ := hrel
    clear hK0 hC hB hR hO c5
    by_cases hlt : k < d.ins.length
    · obtain ⟨x, hx0⟩ : ∃ x, d.ins[k]? = some x := ⟨d.ins[k], List.getElem?_eq_getElem hlt⟩
      obtain ⟨b, o, rfl, hbl, g1, g2⟩ := HF.out k x hx0
      have k1 : wr.cell? ⟨b, o + k * 2, none⟩ = some (.string x.1) := (hbr.cell (p := ⟨b, _, none⟩) hbl).trans g1
      have k2 : wr.cell? ⟨b, o + k * 2 + 1, none⟩ = some (.string x.2) := (hbr.cell (p := ⟨b, _, none⟩) hbl).trans g2
      have HKX := Lib.hid (kids_at hx0)
      have HK := Lib.hid hKr
      obtain ⟨ks, kc, rfl⟩ := own_form hKr.own
      clear g1 g2 hx0 hKr
      have hrd : rd (W.heap.size + 2) wr.heap.size (.slice ks k kc) x (wr.alloc (.cells #[.string x.1, .string x.2] 48)) := ⟨hOr.below ((Below.refl _ _).alloc (Nat.le_refl _) _), CI.new wr x⟩
      have hBX := (Below.refl wr.heap.size wr).alloc (Nat.le_refl _) (.cells #[.string x.1, .string x.2] 48)
      have e0 := fun Y => (kp_spec hrd Y).2.c0
      have e1 := fun Y => (kp_spec hrd Y).2.c1
      have e2 := fun Y => (kp_spec hrd Y).1.c2
      go_wp2_with fail
      refine Mix.region (fun w' => ∃ Y, w' = kp (rd (W.heap.size + 2) wr.heap.size (.slice ks k kc) x) (wr.alloc (.cells #[.string x.1, .string x.2] 48)) Y) 11 [0, 0, 0, 0, 1, 0, 0, 1, 1, 1, 1, 9, 9, 9] [true, false] (by kernel_rfl) (fun _ _ d _ _ h => by cases d <;> exact h) (by rfl) (by kernel_rfl) ⟨_, kp_of ⟨hrd.1.below (Below.refl _ _).drew, hrd.2.below (Below.refl _ _).drew⟩⟩ ?_
      simp only [Mix.selP_cons, Mix.selP_nil, Mix.sel_cons, Mix.sel_nil, Nat.reduceBEq, Nat.reduceAdd, cond_true, cond_false, List.drop_succ_cons, List.drop_zero]
      refine Mix.parts_q ?_
      repeat (go_big_quiet_step (fail))
      refine wpQuiet_nil ?_
      refine Mix.parts_e ?_
      have hXd := hBX.drew
      have hRd : rd (W.heap.size + 2) wr.heap.size (.slice ks k kc) x (wr.alloc (.cells #[.string x.1, .string x.2] 48)).drew := ⟨hrd.1.below (Below.refl _ _).drew, hrd.2.below (Below.refl _ _).drew⟩
      clear e0 e1 e2 hrd
      refine Mix.eff_step (fun K hK => ?_)
      go_simp
      refine (atomr_any x.1 _).mono ?_
      rintro e w2 ⟨rfl, hb2⟩
      have hB2 := trans' hXd hb2
      have hR2 : rd _ _ _ _ w2 := ⟨hRd.1.below hb2, hRd.2.below hb2⟩
      refine hK _ _ ⟨w2, kp_of hR2⟩ ?_
      clear hK K
      refine Mix.eff_step (fun K hK => ?_)
      go_simp
      refine (atomr_any x.2 _).mono ?_
      rintro e w3 ⟨rfl, hb3⟩
      have hB3 := trans' hB2 hb3
      have hR3 : rd _ _ _ _ w3 := ⟨hR2.1.below hb3, hR2.2.below hb3⟩
      refine hK _ _ ⟨w3, kp_of hR3⟩ ?_
      clear hK K
      refine Mix.eff_step (fun K hK => ?_)
      go_simp
      have hown4 := nodes_own2 w3 x.1 x.2
      have hal4 := (Below.refl w3.heap.size w3).alloc (Nat.le_refl _) (.cells #[.bool true, .string x.1, .slice none 0 0, .bool true, .string x.2, .slice none 0 0] 39)
      have hB4 := trans' hB3 hal4
      have hR4 : rd _ _ _ _ (w3.alloc (.cells #[.bool true, .string x.1, .slice none 0 0, .bool true, .string x.2, .slice none 0 0] 39)) := ⟨hR3.1.below hal4, hR3.2.below hal4⟩
      refine hK _ _ ⟨_, kp_of hR4⟩ ?_
      clear hK K
      refine Mix.eff_step (fun K hK => ?_)
      go_simp
      refine hK _ _ ⟨_, kp_of hR4⟩ ?_
      clear hK K
      refine Mix.eff_step (fun K hK => ?_)
      go_simp
      have hkb4 : KB (w3.alloc (.cells #[.bool true, .string x.1, .slice none 0 0, .bool true, .string x.2, .slice none 0 0] 39)) [x.1, x.2] (.slice (some ⟨w3.heap.size, 0, none⟩) 2 2) := KB.of_own (ts := [x.1, x.2]) hown4 (by simp)
      have hal5 := (Below.refl _ (w3.alloc (.cells #[.bool true, .string x.1, .slice none 0 0, .bool true, .string x.2, .slice none 0 0] 39))).alloc (Nat.le_refl _) (.cells #[.bool false, .string ⟨#[]⟩, .slice (some ⟨w3.heap.size, 0, none⟩) 2 2] 39)
      have hB5 := trans' hB4 hal5
      have hR5 : rd _ _ _ _ _ := ⟨hR4.1.below hal5, hR4.2.below hal5⟩
      have hkb5 := hkb4.below hal5
      have hK5 := HK.out.below hB5
      have hC5 := hCr.below hB5
      have hN5 := hRr.below hB5
      have hs3 := hB3.size
      refine hK _ _ ⟨_, kp_of hR5⟩ ?_
      clear hK K hown4 hkb4 hal4 hal5 hR2 hR3 hR4 hRd hb2 hb3 hB2 hB4 hXd
      refine Mix.eff_nil (Mix.parts_n ?_)
      have hOl := hOr.lt
      go_wp2_with (first
        | (at_builtin; refine wpList_append_lies _ rfl _ _ 37 rfl (W.heap.size + 3) 39 i0 _ 3 48 Tryz.underlying37 hi0 hz0 hz1 hz2 rfl (by decide) (.slice ks k kc) k _ rfl hK5.own ⟨w3.heap.size + 1, 0, none⟩ 1 1 [.bool false, .string ⟨#[]⟩, .slice (some ⟨w3.heap.size, 0, none⟩) 2 2] rfl rfl ?d1 ?d2 (by decide) ?d3 ?d4 ?d5 (w3.heap.size + 2) (by simp) ?_))
      case d1 =>
        intro j q hj
        match j, hj with
        | 0, hj => simp at hj; subst hj; simp [Addr.add]
        | 1, hj => simp at hj; subst hj; simp [Addr.add]
        | 2, hj => simp at hj; subst hj; simp [Addr.add]
      case d2 => intro q hq; simp at hq; rcases hq with rfl | rfl | rfl <;> rfl
      case d3 => unfold maxLen; omega
      case d4 => omega
      case d5 => simp; omega
      intro g6 c6 w6 hown6 hg6 hat6 hlt6
      have hne : ∀ q, q < W.heap.size + 3 → some q ≠ (Value.slice ks k kc).ownBlock := fun q hq e => by have := (hK5.own.lt _ e.symm).1; omega
      have hO6 := hR5.1.grown hg6 (hne _ (by omega))
      have hK6 := hK5.snoc HKX.out hkb5 hg6 hown6
      have hN6 := hN5.grown hg6 (hne _ (by omega))
      have hC6 := hC5.block hg6.size (hg6.block _ hC5.lt (hne _ (by omega)))
      have hB6 : Below W.heap.size W w6 := (hbr.trans (hB5.mono hbr.size)).grown hg6 (by have := hbr.size; simp; omega) (fun g hg => by have := (hK5.own.lt g hg).1; omega)
      have hsame : ∀ g, g ≠ W.heap.size + 2 → (w6.setCell ⟨W.heap.size + 2, 2, none⟩ (.slice (some ⟨g6, 0, none⟩) (k + 1) c6)).heap[g]? = w6.heap[g]? := fun g hg => Below.heap_setCell _ _ _ _ hg
      have HKn := Lib.hid (hK6.setO hO6.c0 (by omega) (w6.setCell ⟨W.heap.size + 2, 2, none⟩ (.slice (some ⟨g6, 0, none⟩) (k + 1) c6)) (by simp [World.setCell]) hsame)
      have HOn := Lib.hid (hO6.set (.slice (some ⟨g6, 0, none⟩) (k + 1) c6))
      have HNn := Lib.hid (hN6.far (q := W.heap.size + 2) (by omega) (.slice (some ⟨g6, 0, none⟩) (k + 1) c6))
      have HCn := Lib.hid (hC6.block (W' := (w6.setCell ⟨W.heap.size + 2, 2, none⟩ (.slice (some ⟨g6, 0, none⟩) (k + 1) c6))) (by simp [World.setCell]) (hsame _ (by omega)))
      have HBn := Lib.hid (hB6.setCell (p := ⟨W.heap.size + 2, 2, none⟩) (by show W.heap.size ≤ W.heap.size + 2; omega) (.slice (some ⟨g6, 0, none⟩) (k + 1) c6))
      have p2 := hO6.c2
      have pf := hO6.fz
      have pl := hO6.lt
      clear hsame hK6 hN6 hC6 hB6 hO6 hown6 hg6 hat6 hlt6 hK5 hC5 hN5 hR5 hkb5 hB5 hB3 hs3 hne hBX k1 k2
      go_wp2_with fail
      go_roundw
      case rel => exact ⟨k + 1, _, _, by omega, by go_num, HKn.out, HOn.out, HNn.out, HCn.out, HBn.out⟩
      case measure => simp [intOf]; omega
    · obtain rfl : k = d.ins.length := by omega
      have hkl : (kids d).length = d.ins.length := by simp [kids]
      rw [← hkl] at hKr
      have HK := Lib.hid hKr
      obtain ⟨ks, kc, rfl⟩ := own_form hKr.own
      have e0 := ext_cell hCr.c0
      have e1 := ext_cell hCr.c1
      have e2 := ext_cell hCr.c2
      have e3 := ext_cell hCr.c3
      have e4 := ext_cell hCr.c4
      have e5 := ext_cell hOr.c0
      have e6 := ext_cell hOr.c1
      have e7 := ext_cell hOr.c2
      clear hKr hkl
      go_wp2_with fail
      refine Mix.region (fun w' => ∃ Y, w' = ext wr Y) 16 [1, 0, 0, 0, 1, 0, 0, 0, 1, 1, 0, 0, 1, 0, 1, 1, 9] [true, false] (by kernel_rfl) (fun _ _ d _ _ h => by cases d <;> exact h) (by rfl) (by kernel_rfl) (ext_drew _) ?_
      simp only [Mix.selP_cons, Mix.selP_nil, Mix.sel_cons, Mix.sel_nil, Nat.reduceBEq, Nat.reduceAdd, cond_true, cond_false, List.drop_succ_cons, List.drop_zero]
      refine Mix.parts_q ?_
      repeat (go_big_quiet_step (fail))
      refine wpQuiet_nil ?_
      refine Mix.parts_e ?_
      have hd := (Below.refl wr.heap.size wr).drew
      clear e0 e1 e2 e3 e4 e5 e6 e7
      refine Mix.eff_step (fun K hK => ?_)
      go_simp
      refine (atomr_any ⟨#[100, 114, 118]⟩ _).mono ?_
      rintro e wa ⟨rfl, hba⟩
      have hA := trans' hd hba
      refine hK _ _ ⟨wa, ext_of hA⟩ ?_
      clear hK K
      refine Mix.eff_step (fun K hK => ?_)
      go_simp
      refine (atomr_any d.name _).mono ?_
      rintro e wb ⟨rfl, hbb⟩
      have hBb := trans' hA hbb
      refine hK _ _ ⟨wb, ext_of hBb⟩ ?_
      clear hK K
      refine Mix.eff_step (fun K hK => ?_)
      go_simp
      refine (Vs.textr_any d.a d.b d.c _ (hE0.below (Nat.le_refl _) (hbr.trans (hBb.mono hbr.size)))).mono ?_
      rintro e wc ⟨rfl, hbc⟩
      have hCc := trans' hBb hbc
      refine hK _ _ ⟨wc, ext_of hCc⟩ ?_
      clear hK K
      refine Mix.eff_step (fun K hK => ?_)
      go_simp
      refine (atomr_any (textB d) _).mono ?_
      rintro e wd ⟨rfl, hbd⟩
      have hDd := trans' hCc hbd
      refine hK _ _ ⟨wd, ext_of hDd⟩ ?_
      clear hK K
      refine Mix.eff_step (fun K hK => ?_)
      go_simp
      refine (atomr_any d.tool _).mono ?_
      rintro e we ⟨rfl, hbe⟩
      have hEe := trans' hDd hbe
      refine hK _ _ ⟨we, ext_of hEe⟩ ?_
      clear hK K
      refine Mix.eff_step (fun K hK => ?_)
      go_simp
      have hGg := hEe.alloc hEe.size (.cells #[.bool true, .string ⟨#[100, 114, 118]⟩, .slice none 0 0, .bool true, .string d.name, .slice none 0 0, .bool true, .string (textB d), .slice none 0 0, .bool true, .string d.tool, .slice none 0 0, .bool false, .string ⟨#[]⟩, .slice ks (kids d).length kc] 39)
      refine hK _ _ ⟨_, ext_of hGg⟩ ?_
      clear hK K
      refine Mix.eff_step (fun K hK => ?_)
      go_simp
      refine hK _ _ ⟨_, ext_of hGg⟩ ?_
      clear hK K
      refine Mix.eff_nil (Mix.parts_n ?_)
      have hKq := HK.out.below hGg
      have hNq := hRr.below hGg
      have hes := hEe.size
      have hws := hRr.lt
      have hE : ∀ u1 u2 u3, Rep ((((we.alloc (.cells #[.bool true, .string ⟨#[100, 114, 118]⟩, .slice none 0 0, .bool true, .string d.name, .slice none 0 0, .bool true, .string (textB d), .slice none 0 0, .bool true, .string d.tool, .slice none 0 0, .bool false, .string ⟨#[]⟩, .slice ks (kids d).length kc] 39)).setCell ⟨W.heap.size + 1, 0, none⟩ u1).setCell ⟨W.heap.size + 1, 1, none⟩ u2).setCell ⟨W.heap.size + 1, 2, none⟩ u3) ((((we.alloc (.cells #[.bool true, .string ⟨#[100, 114, 118]⟩, .slice none 0 0, .bool true, .string d.name, .slice none 0 0, .bool true, .string (textB d), .slice none 0 0, .bool true, .string d.tool, .slice none 0 0, .bool false, .string ⟨#[]⟩, .slice ks (kids d).length kc] 39)).setCell ⟨W.heap.size + 1, 0, none⟩ u1).setCell ⟨W.heap.size + 1, 1, none⟩ u2).setCell ⟨W.heap.size + 1, 2, none⟩ u3).heap.size 3 (drvT d) (.agg #[.bool false, .string ⟨#[]⟩, .slice (some ⟨we.heap.size, 0, none⟩) 5 5]) := fun u1 u2 u3 => by
        have hsame : ∀ g, g ≠ W.heap.size + 1 → ((((we.alloc (.cells #[.bool true, .string ⟨#[100, 114, 118]⟩, .slice none 0 0, .bool true, .string d.name, .slice none 0 0, .bool true, .string (textB d), .slice none 0 0, .bool true, .string d.tool, .slice none 0 0, .bool false, .string ⟨#[]⟩, .slice ks (kids d).length kc] 39)).setCell ⟨W.heap.size + 1, 0, none⟩ u1).setCell ⟨W.heap.size + 1, 1, none⟩ u2).setCell ⟨W.heap.size + 1, 2, none⟩ u3).heap[g]? = (we.alloc (.cells #[.bool true, .string ⟨#[100, 114, 118]⟩, .slice none 0 0, .bool true, .string d.name, .slice none 0 0, .bool true, .string (textB d), .slice none 0 0, .bool true, .string d.tool, .slice none 0 0, .bool false, .string ⟨#[]⟩, .slice ks (kids d).length kc] 39)).heap[g]? := fun g hg => by
          rw [Below.heap_setCell _ _ _ _ hg, Below.heap_setCell _ _ _ _ hg, Below.heap_setCell _ _ _ _ hg]
        have hKF := hKq.setO hNq.c0 (by omega) _ (by simp [World.setCell]) hsame
        refine drv_rep (B := we.heap.size) (own_block (drv_own we d _) (fun g hg => hsame g (by simp [Value.ownBlock] at hg; omega))) (with_rep hKF)
      have HE := Lib.hid hE
      obtain ⟨r0, r1, r2⟩ := (⟨hNq.c0, hNq.c1, hNq.c2⟩ : _ ∧ _ ∧ _)
      have rf := hNq.fz
      have hrl := hNq.lt
      have hB9 := hbr.trans (hGg.mono hbr.size)
      clear hE hKq hNq hGg hes hws
      go_wp2
      refine bodyPost_ret (v := .agg #[.bool false, .string ⟨#[]⟩, .slice (some ⟨we.heap.size, 0, none⟩) 5 5]) (by simp [results, Tryz.results17, go_sem, r0, r1, r2]) rfl ⟨_, rfl, HE.out _ _ _, ?_⟩
      exact ((hB9.setCell (by show W.heap.size ≤ W.heap.size + 1; omega) _).setCell (by show W.heap.size ≤ W.heap.size + 1; omega) _).setCell (by show W.heap.size ≤ W.heap.size + 1; omega) _
end Dv
end Go.Proofs.YtbhngjhfeejeiaaGreatDoor
