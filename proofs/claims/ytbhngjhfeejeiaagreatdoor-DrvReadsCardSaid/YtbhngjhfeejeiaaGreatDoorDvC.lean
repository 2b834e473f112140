/-
  Walk: drv.Encode.
-/
import Derived.Test.YtbhngjhfeejeiaaGreatDoorDvK
import Derived.Test.YtbhngjhfeejeiaaGreatDoorSxI
namespace Go.Proofs.YtbhngjhfeejeiaaGreatDoor
open Go.RowKit Sx
namespace Dv

/-- block o holds an input -/
structure CI (W : World) (o : Nat) (x : ByteArray × ByteArray) : Prop where
  lt : o < W.heap.size
  c0 : W.cell? ⟨o, 0, none⟩ = some (.string x.1)
  c1 : W.cell? ⟨o, 1, none⟩ = some (.string x.2)
theorem CI.new (W : World) (x : ByteArray × ByteArray) : CI (W.alloc (.cells #[.string x.1, .string x.2] 48)) W.heap.size x := by
  refine ⟨by simp, ?_, ?_⟩
  all_goals go_simp
theorem CI.below {W W' : World} {o : Nat} {x : ByteArray × ByteArray} (h : CI W o x) (hb : Below W.heap.size W W') : CI W' o x := by
  obtain ⟨hc, -⟩ := Sx.bcell hb
  exact ⟨Nat.lt_of_lt_of_le h.lt hb.size, (hc _ _ h.lt).trans h.c0, (hc _ _ h.lt).trans h.c1⟩
theorem below_of_drew {W W' : World} (hb : Below W.drew.heap.size W.drew W') : Below W.heap.size W W' := ⟨hb.os, hb.tape, hb.output, hb.size, hb.block⟩
theorem ext_drew (W : World) : ∃ Y, W.drew = ext W Y := ⟨W.drew, ext_of (Below.refl _ _).drew⟩
theorem kids_at {d : D} {k : Nat} {x : ByteArray × ByteArray} (h : d.ins[k]? = some x) : (kids d)[k]? = some [x.1, x.2] := by simp [kids, h]

theorem DC.block {W W' : World} {o : Nat} {d : D} {v : Value} (h : DC W o d v) (hs : W.heap.size ≤ W'.heap.size) (hb : W'.heap[o]? = W.heap[o]?) : DC W' o d v :=
  ⟨Nat.lt_of_lt_of_le h.lt hs, (World.cell?_of_block hb).trans h.c0, (World.cell?_of_block hb).trans h.c1, (World.cell?_of_block hb).trans h.c2, (World.cell?_of_block hb).trans h.c3, (World.cell?_of_block hb).trans h.c4, (World.cell?_of_block hb).trans h.c5⟩
theorem Rep.after {W W' : World} {B h : Nat} {t : T} {v : Value} (hr : Rep W B h t v) (hB : B ≤ W.heap.size) (hb : Below W.heap.size W W') : Rep W' W'.heap.size h t v :=
  (hr.same (fun b o hlt => hb.cell (p := ⟨b, o, none⟩) (show b < W.heap.size by omega))).lift (Nat.le_trans hB hb.size)
theorem with_any (d : D) (W : World) (B : Nat) (kv : Value) (zs : List Value) (hK : KS W B (kids d) (kids d).length kv zs) (hl : (kids d).length ≤ 40) :
    Calls Tryz.prog 18 #[kv] W fun e W' => ∃ z, e = .returned (.agg #[.bool false, .string ⟨#[]⟩, z]) ∧ Rep W' W'.heap.size 2 (withT d) (.agg #[.bool false, .string ⟨#[]⟩, z]) ∧ z.oneCell' = true ∧ Below W.heap.size W W' := by
  by_cases h0 : (kids d).length = 0
  · have e := hK.nil h0
    subst e
    refine (list_nil W).mono ?_
    rintro e W' ⟨v, rfl, ⟨sl, cap, rfl⟩, hb⟩
    refine ⟨_, rfl, ?_, rfl, hb⟩
    have hn : kids d = [] := List.length_eq_zero_iff.1 h0
    unfold withT
    rw [hn]
    exact .list 1 [] sl cap (fun _ => .nilIface) (fun _ => .nilIface) (fun _ => .nilIface) (fun i k hk => by simp at hk) (fun i k hk => by simp at hk)
  · have hp0 : 0 < (kids d).length := by omega
    have hown := hK.own
    obtain ⟨g, c9, rfl, _, hlt9⟩ := hown.form hp0
    refine (list_any (kids d).length ⟨g, 0, none⟩ c9 (row3 (zs.map listQ)) W (by omega) (by rw [row3_len, List.length_map, hK.len]) hlt9 (row_cells hown) (lists_one zs hK.one)).mono ?_
    rintro e W' ⟨v, rfl, hown', hb⟩
    obtain ⟨s8, c8, rfl⟩ := own_form hown'
    exact ⟨_, rfl, KS.rep (p := kids d) (hK.below hb).kb hK.len hown' hp0, rfl, hb⟩
def drvL (d : D) (z : Value) : List (Value × Value × Value) := [leafQ ⟨#[100, 114, 118]⟩, leafQ d.name, leafQ (textB d), leafQ d.tool, listQ z]
theorem drv_own (wf : World) (d : D) (z : Value) : (wf.alloc (.cells #[.bool true, .string ⟨#[100, 114, 118]⟩, .slice none 0 0, .bool true, .string d.name, .slice none 0 0, .bool true, .string (textB d), .slice none 0 0, .bool true, .string d.tool, .slice none 0 0, .bool false, .string ⟨#[]⟩, z] 39)).ownsRow wf.heap.size 39 3 (.slice (some ⟨wf.heap.size, 0, none⟩) 5 5) 5 (row3 (drvL d z)) :=
  World.ownsRow_lit wf #[.bool true, .string ⟨#[100, 114, 118]⟩, .slice none 0 0, .bool true, .string d.name, .slice none 0 0, .bool true, .string (textB d), .slice none 0 0, .bool true, .string d.tool, .slice none 0 0, .bool false, .string ⟨#[]⟩, z] 5 (Nat.le_refl _) (by decide) rfl
theorem drv_one (d : D) (z : Value) (h : z.oneCell' = true) : ∀ u ∈ row3 (drvL d z), u.oneCell' = true := row3_one _ (fun q hq => by
  simp only [drvL, List.mem_cons, List.not_mem_nil, or_false] at hq
  rcases hq with rfl | rfl | rfl | rfl | rfl
  · exact ⟨rfl, rfl, rfl⟩
  · exact ⟨rfl, rfl, rfl⟩
  · exact ⟨rfl, rfl, rfl⟩
  · exact ⟨rfl, rfl, rfl⟩
  · exact ⟨rfl, rfl, h⟩)
theorem drv_rep {W : World} {B : Nat} {d : D} {z v : Value} (hown : W.ownsRow B 39 3 v 5 (row3 (drvL d z))) (hz : Rep W W.heap.size 2 (withT d) (.agg #[.bool false, .string ⟨#[]⟩, z])) :
    Rep W W.heap.size 3 (drvT d) (.agg #[.bool false, .string ⟨#[]⟩, v]) := by
  obtain ⟨g, cap, rfl, _, hlt, hc⟩ := own_row3 (l := drvL d z) hown (by show 0 < 5; omega)
  refine .list 2 [.leaf ⟨#[100, 114, 118]⟩, .leaf d.name, .leaf (textB d), .leaf d.tool, withT d] _ _ (fun i => ((drvL d z)[i]?.getD (listQ z)).1) (fun i => ((drvL d z)[i]?.getD (listQ z)).2.1) (fun i => ((drvL d z)[i]?.getD (listQ z)).2.2) (fun i k hk => ?_) (fun i k hk => ?_)
  · have hi : i < 5 := by have := (List.getElem?_eq_some_iff.1 hk).1; simpa using this
    have hq : (drvL d z)[i]? = some ((drvL d z)[i]'hi) := List.getElem?_eq_getElem hi
    obtain ⟨h1, h2, h3⟩ := hc i _ hq
    exact ⟨g, 0, rfl, hlt, by rw [hq]; exact h1, by rw [hq]; exact h2, by rw [hq]; exact h3⟩
  · match i, hk with
    | 0, hk => simp at hk; subst hk; exact .leaf 2 _
    | 1, hk => simp at hk; subst hk; exact .leaf 2 _
    | 2, hk => simp at hk; subst hk; exact .leaf 2 _
    | 3, hk => simp at hk; subst hk; exact .leaf 2 _
    | 4, hk => simp at hk; subst hk; exact hz

set_option maxHeartbeats 4000000 in
set_option maxRecDepth 100000 in
theorem encode_any (d : D) (v : Value) (W : World) (hS : SI W v d.ins) (hE : Env W) (hE0 : Vs.Env0 W) :
    Calls Tryz.prog 8 #[DV d v] W fun e W' => e = .returned (ENV d) ∧ Below W.heap.size W W' := by
  obtain ⟨i0, hi0, hz0, hz1, hz2⟩ := info_parts info_node
  have hC := DC.new W d v
  have hB := (Below.refl W.heap.size W).alloc (Nat.le_refl _) (DO d v)
  have hgd := good_any d v (W.alloc (DO d v)) (hS.below ((Below.refl _ _).alloc (Nat.le_refl _) _))
  obtain ⟨sl, cap, rfl, hlen, hf⟩ := hS
  have HF := Lib.hid hf
  clear hf
  cases hg : goodD d
  · have hx := Lib.hid (ENV_bad hg)
    rw [hg] at hgd
    clear hg
    go_enter Tryz.func8, Tryz.ntmps8
    go_wp2_with fail
    refine hgd.mono ?_
    rintro e w1 ⟨rfl, hb1⟩
    clear hgd
    go_wp2_with fail
    go_ret2
    exact ⟨congrArg Ending.returned hx.out.symm, trans' hB hb1⟩
  · have hx := Lib.hid (ENV_ok hg)
    have h40 := good_len hg
    rw [hg] at hgd
    clear hg
    go_enter Tryz.func8, Tryz.ntmps8
    go_wp2_with fail
    refine hgd.mono ?_
    rintro e w1 ⟨rfl, hb1⟩
    clear hgd
    have hC1 := hC.below hb1
    have hB1 := trans' hB hb1
    have c5 := hC1.c5
    have hK0 : KS w1 (W.heap.size + 1) (kids d) 0 (.slice none 0 0) [] := ⟨rfl, World.ownsRow_nil _ _ _ _, fun _ => rfl, fun i z x hz => by simp at hz⟩
    clear hC hB hb1
    go_wp2_with fail
    go_loopw [4, 6, 13] (fun kv _ i wr => ∃ (k : Nat) (zs : List Value), k ≤ d.ins.length ∧ i = .int .i64 k ∧ KS wr (W.heap.size + 1) (kids d) k kv zs ∧ DC wr W.heap.size d (.slice sl d.ins.length cap) ∧ Below W.heap.size W wr) (fun _ _ i _ => d.ins.length - (intOf i).toNat)
    case atStart => exact ⟨0, [], Nat.zero_le _, rfl, hK0, hC1, hB1⟩
    case round =>
      obtain ⟨k, zs, hk, rfl, hKr, hCr, hbr⟩ := hrel
      clear hK0 hC1 hB1 c5
      by_cases hlt : k < d.ins.length
      · obtain ⟨x, hx0⟩ : ∃ x, d.ins[k]? = some x := ⟨d.ins[k], List.getElem?_eq_getElem hlt⟩
        obtain ⟨b, o, rfl, hbl, g1, g2⟩ := HF.out k x hx0
        have k1 : wr.cell? ⟨b, o + k * 2, none⟩ = some (.string x.1) := (hbr.cell (p := ⟨b, _, none⟩) hbl).trans g1
        have k2 : wr.cell? ⟨b, o + k * 2 + 1, none⟩ = some (.string x.2) := (hbr.cell (p := ⟨b, _, none⟩) hbl).trans g2
        have HKX := Lib.hid (kids_at hx0)
        have HK := Lib.hid hKr
        have hlr := hCr.lt
        clear g1 g2 hx0 hKr
        have hCX := CI.new wr x
        have e0 := ext_cell hCX.c0
        have e1 := ext_cell hCX.c1
        have hBX := (Below.refl wr.heap.size wr).alloc (Nat.le_refl _) (.cells #[.string x.1, .string x.2] 48)
        go_wp2_with fail
        refine Mix.region (fun w' => ∃ Y, w' = ext (wr.alloc (.cells #[.string x.1, .string x.2] 48)) Y) 10 [0, 0, 0, 1, 0, 0, 1, 1, 1, 1, 9, 9] [true, false] (by kernel_rfl) (fun _ _ d _ _ h => by cases d <;> exact h) (by rfl) (by kernel_rfl) (ext_drew _) ?_
        simp only [Mix.selP_cons, Mix.selP_nil, Mix.sel_cons, Mix.sel_nil, Nat.reduceBEq, Nat.reduceAdd, cond_true, cond_false, List.drop_succ_cons, List.drop_zero]
        refine Mix.parts_q ?_
        repeat (go_big_quiet_step (fail))
        refine wpQuiet_nil ?_
        refine Mix.parts_e ?_
        have hXd := hBX.drew
        refine Mix.eff_step (fun K hK => ?_)
        go_simp
        refine (atom_any x.1 _).mono ?_
        rintro e w2 ⟨rfl, hb2⟩
        have hB2 := trans' hXd hb2
        have hT2 := Sx.below_drewN (below_of_drew hb2) 0
        refine hK _ _ ⟨w2, ext_of hT2⟩ ?_
        clear hK K
        refine Mix.eff_step (fun K hK => ?_)
        go_simp
        refine (atom_any x.2 _).mono ?_
        rintro e w3 ⟨rfl, hb3⟩
        have hB3 := trans' hB2 hb3
        have hT3 := trans' hT2 hb3
        refine hK _ _ ⟨w3, ext_of hT3⟩ ?_
        clear hK K
        refine Mix.eff_step (fun K hK => ?_)
        go_simp
        have hown4 := nodes_own2 w3 x.1 x.2
        have hB4 := hB3.alloc hB3.size (.cells #[.bool true, .string x.1, .slice none 0 0, .bool true, .string x.2, .slice none 0 0] 39)
        have hT4 := hT3.alloc hT3.size (.cells #[.bool true, .string x.1, .slice none 0 0, .bool true, .string x.2, .slice none 0 0] 39)
        have hsrc := row_cells hown4
        refine hK _ _ ⟨_, ext_of hT4⟩ ?_
        clear hK K hown4
        refine Mix.eff_step (fun K hK => ?_)
        go_simp
        refine (list_any 2 ⟨w3.heap.size, 0, none⟩ 2 (row3 ([x.1, x.2].map leafQ)) (w3.alloc (.cells #[.bool true, .string x.1, .slice none 0 0, .bool true, .string x.2, .slice none 0 0] 39)) (by omega) rfl (by simp) hsrc (leafs_one _)).mono ?_
        rintro e w8 ⟨v8, rfl, hown8, hb8⟩
        have hB8 := trans' hB4 hb8
        have hT8 := trans' hT4 hb8
        have hkb8 : KB w8 [x.1, x.2] v8 := KB.of_own (ts := [x.1, x.2]) hown8 (by simp)
        obtain ⟨s8, c8, rfl⟩ := own_form hown8
        refine hK _ _ ⟨w8, ext_of hT8⟩ ?_
        clear hK K hsrc hown8
        refine Mix.eff_step (fun K hK => ?_)
        go_simp
        have hB9 := hB8.alloc hB8.size (.cells #[.bool false, .string ⟨#[]⟩, .slice s8 2 c8] 39)
        have hT9 := hT8.alloc hT8.size (.cells #[.bool false, .string ⟨#[]⟩, .slice s8 2 c8] 39)
        refine hK _ _ ⟨_, ext_of hT9⟩ ?_
        clear hK K
        refine Mix.eff_nil (Mix.parts_n ?_)
        have hK9 := HK.out.below hB9
        have hkb9 := hkb8.below ((Below.refl _ _).alloc (Nat.le_refl _) (.cells #[.bool false, .string ⟨#[]⟩, .slice s8 2 c8] 39))
        have hC9 := hCr.below hB9
        have h8s := hB8.size
        clear e0 e1 hXd hb2 hb3 hb8 hT2 hT3 hT4 hT8 hT9 hB2 hB3 hB4 hkb8 hCX hBX k1 k2
        go_wp2_with (first
          | (at_builtin; refine wpList_append_own _ rfl _ _ 37 rfl (W.heap.size + 1) 39 i0 _ 3 48 Tryz.underlying37 hi0 hz0 hz1 hz2 rfl (by decide) _ k _ rfl hK9.own ⟨w8.heap.size, 0, none⟩ 1 1 [.bool false, .string ⟨#[]⟩, .slice s8 2 c8] rfl rfl ?d1 ?d2 ?d3 ?d4 ?d5 ?_))
        case d1 =>
          intro j q hj
          match j, hj with
          | 0, hj => simp at hj; subst hj; simp [Addr.add]
          | 1, hj => simp at hj; subst hj; simp [Addr.add]
          | 2, hj => simp at hj; subst hj; simp [Addr.add]
        case d2 => intro q hq; simp at hq; rcases hq with rfl | rfl | rfl <;> rfl
        case d3 => unfold maxLen; omega
        case d4 => omega
        case d5 => simp; omega
        intro v' w9 hown9 hg9 _
        have hKn := hK9.snoc HKX.out hkb9 hg9 hown9
        have hbs := hbr.size
        have hBn : Below W.heap.size W w9 := (hbr.trans (hB9.mono hbs)).grown hg9 (by simp; omega) (fun g hg => by have := (hK9.own.lt g hg).1; omega)
        have hCn := hC9.block hg9.size (hg9.block W.heap.size hC9.lt (fun e => by have := (hK9.own.lt _ e.symm).1; omega))
        clear hown9 hg9 hK9 hkb9 hC9 hB9 hB8
        go_wp2
        go_roundw
        case rel => exact ⟨k + 1, _, by omega, by go_num, hKn, hCn, hBn⟩
        case measure => simp [intOf]; omega
      · obtain rfl : k = d.ins.length := by omega
        have hkl : (kids d).length = d.ins.length := by simp [kids]
        rw [← hkl] at hKr
        have HK := Lib.hid hKr
        have HKL := Lib.hid (show (kids d).length ≤ 40 by omega)
        have c0 := hCr.c0
        have c1 := hCr.c1
        have c2 := hCr.c2
        have c3 := hCr.c3
        have c4 := hCr.c4
        have e0 := ext_cell c0
        have e1 := ext_cell c1
        have e2 := ext_cell c2
        have e3 := ext_cell c3
        have e4 := ext_cell c4
        obtain ⟨ks, kc, rfl⟩ := own_form hKr.own
        clear hKr hkl c0 c1 c2 c3 c4
        go_wp2_with fail
        refine Mix.region (fun w' => ∃ Y, w' = ext wr Y) 22 [1, 0, 0, 0, 1, 0, 0, 0, 1, 1, 0, 0, 1, 0, 1, 1, 1, 1, 2, 2, 2, 2] [true, false, true] (by kernel_rfl) (fun _ _ d _ _ h => by cases d <;> exact h) (by rfl) (by kernel_rfl) (ext_drew _) ?_
        simp only [Mix.selP_cons, Mix.selP_nil, Mix.sel_cons, Mix.sel_nil, Nat.reduceBEq, Nat.reduceAdd, cond_true, cond_false, List.drop_succ_cons, List.drop_zero]
        refine Mix.parts_q ?_
        repeat (go_big_quiet_step (fail))
        refine wpQuiet_nil ?_
        refine Mix.parts_e ?_
        have hd := (Below.refl wr.heap.size wr).drew
        clear e0 e1 e2 e3 e4
        refine Mix.eff_step (fun K hK => ?_)
        go_simp
        refine (atom_any ⟨#[100, 114, 118]⟩ _).mono ?_
        rintro e wa ⟨rfl, hba⟩
        have hA := trans' hd hba
        refine hK _ _ ⟨wa, ext_of hA⟩ ?_
        clear hK K
        refine Mix.eff_step (fun K hK => ?_)
        go_simp
        refine (atom_any d.name _).mono ?_
        rintro e wb ⟨rfl, hbb⟩
        have hBb := trans' hA hbb
        refine hK _ _ ⟨wb, ext_of hBb⟩ ?_
        clear hK K
        refine Mix.eff_step (fun K hK => ?_)
        go_simp
        refine (Vs.text_any d.a d.b d.c _ (hE0.below (Nat.le_refl _) (hbr.trans (hBb.mono hbr.size)))).mono ?_
        rintro e wc ⟨rfl, hbc⟩
        have hCc := trans' hBb hbc
        refine hK _ _ ⟨wc, ext_of hCc⟩ ?_
        clear hK K
        refine Mix.eff_step (fun K hK => ?_)
        go_simp
        refine (atom_any (textB d) _).mono ?_
        rintro e wd ⟨rfl, hbd⟩
        have hDd := trans' hCc hbd
        refine hK _ _ ⟨wd, ext_of hDd⟩ ?_
        clear hK K
        refine Mix.eff_step (fun K hK => ?_)
        go_simp
        refine (atom_any d.tool _).mono ?_
        rintro e we ⟨rfl, hbe⟩
        have hEe := trans' hDd hbe
        refine hK _ _ ⟨we, ext_of hEe⟩ ?_
        clear hK K
        refine Mix.eff_step (fun K hK => ?_)
        go_simp
        refine (with_any d we (W.heap.size + 1) _ zs (by have := HK.out.below hEe; exact this) HKL.out).mono ?_
        rintro e wf ⟨z, rfl, hrep, hz1c, hbf⟩
        have hFf := trans' hEe hbf
        refine hK _ _ ⟨wf, ext_of hFf⟩ ?_
        clear hK K
        refine Mix.eff_step (fun K hK => ?_)
        go_simp
        have hownG := drv_own wf d z
        have hGg := hFf.alloc hFf.size (.cells #[.bool true, .string ⟨#[100, 114, 118]⟩, .slice none 0 0, .bool true, .string d.name, .slice none 0 0, .bool true, .string (textB d), .slice none 0 0, .bool true, .string d.tool, .slice none 0 0, .bool false, .string ⟨#[]⟩, z] 39)
        have hsrc := row_cells hownG
        refine hK _ _ ⟨_, ext_of hGg⟩ ?_
        clear hK K hownG
        refine Mix.eff_step (fun K hK => ?_)
        go_simp
        refine (list_any 5 ⟨wf.heap.size, 0, none⟩ 5 (row3 (drvL d z)) (wf.alloc (.cells #[.bool true, .string ⟨#[100, 114, 118]⟩, .slice none 0 0, .bool true, .string d.name, .slice none 0 0, .bool true, .string (textB d), .slice none 0 0, .bool true, .string d.tool, .slice none 0 0, .bool false, .string ⟨#[]⟩, z] 39)) (by omega) rfl (by simp) hsrc (drv_one d z hz1c)).mono ?_
        rintro e wg ⟨vg, rfl, howng, hbg⟩
        have hHh := trans' hGg hbg
        have hfg : Below wf.heap.size wf wg := trans' ((Below.refl _ _).alloc (Nat.le_refl _) _) hbg
        have hEV := sexp_any 3 (drvT d) _ wg (drv_rep howng (Rep.after hrep (Nat.le_refl _) hfg)) (hE.below (hbr.trans (hHh.mono hbr.size))) (by omega)
        rw [EV_eq] at hEV hx
        obtain ⟨sg, cg, rfl⟩ := own_form howng
        refine hK _ _ ⟨wg, ext_of hHh⟩ ?_
        clear hK K hsrc howng hrep
        refine Mix.eff_step (fun K hK => ?_)
        go_simp
        refine hEV.mono ?_
        rintro e wh ⟨rfl, hbh⟩
        have hIi := trans' hHh hbh
        refine hK _ _ ⟨wh, ext_of hIi⟩ ?_
        clear hK K hEV
        refine Mix.eff_nil (Mix.parts_q ?_)
        repeat (go_big_quiet_step (fail))
        refine wpQuiet_nil ?_
        refine Mix.parts_n ?_
        go_wp2_with fail
        go_ret2
        exact ⟨congrArg Ending.returned hx.out.symm, hbr.trans (hIi.mono hbr.size)⟩
end Dv
end Go.Proofs.YtbhngjhfeejeiaaGreatDoor
