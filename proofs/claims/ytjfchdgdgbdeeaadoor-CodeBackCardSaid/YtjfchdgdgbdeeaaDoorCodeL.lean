/-
  Walk: code.Encode.
-/
import Derived.Test.YtjfchdgdgbdeeaaDoorCodeK
namespace Go.Proofs.YtjfchdgdgbdeeaaDoor
open Go.RowKit
namespace Cd

def ENV (p : List I) : Value := if (check p).2 = 0 then EV (enc (progT p)) else .tuple #[.string ⟨#[]⟩, .int .i64 (check p).2]
theorem ENV_bad {p : List I} (h : (check p).2 ≠ 0) : ENV p = .tuple #[.string ⟨#[]⟩, .int .i64 (check p).2] := by unfold ENV; rw [if_neg h]
theorem ENV_ok {p : List I} (h : (check p).2 = 0) : ENV p = EV (enc (progT p)) := by unfold ENV; rw [if_pos h]
theorem check_len {p : List I} (h : (check p).2 = 0) : 0 < p.length ∧ p.length ≤ 256 := by
  unfold check at h
  split at h
  · simp at h
  · omega
def ES (l : List UInt8) : ByteArray := if 65536 < l.length then ⟨#[]⟩ else ⟨l.toArray⟩
def EE (l : List UInt8) : Int := if 65536 < l.length then 3 else 0
theorem EV_eq (l : List UInt8) : EV l = .tuple #[.string (ES l), .int .i64 (EE l)] := by
  unfold EV ES EE
  split <;> rfl
theorem nodes_own (W : World) (s : ByteArray) : (W.alloc (.cells #[.bool true, .string s, .slice none 0 0] 46)).ownsRow W.heap.size 46 3 (.slice (some ⟨W.heap.size, 0, none⟩) 1 1) 1 (row3 ([s].map leafQ)) :=
  World.ownsRow_lit W #[.bool true, .string s, .slice none 0 0] 1 (Nat.le_refl _) (by decide) rfl
theorem row_cells {W : World} {B g n cap : Nat} {xs : List Value} (h : W.ownsRow B 46 3 (.slice (some ⟨g, 0, none⟩) n cap) n xs) : ∀ j u, xs[j]? = some u → W.cell? ((⟨g, 0, none⟩ : Addr).add j) = some u := h.cells (g := g) rfl
theorem leafs_one (ts : List ByteArray) : ∀ u ∈ row3 (ts.map leafQ), u.oneCell' = true := row3_one _ (fun q hq => by
  obtain ⟨s, _, rfl⟩ := List.mem_map.1 hq
  exact ⟨rfl, rfl, rfl⟩)
theorem lists_one (zs : List Value) (h : ∀ z ∈ zs, z.oneCell' = true) : ∀ u ∈ row3 (zs.map listQ), u.oneCell' = true := row3_one _ (fun q hq => by
  obtain ⟨s, hs, rfl⟩ := List.mem_map.1 hq
  exact ⟨rfl, rfl, h s hs⟩)
theorem KS.one {W : World} {B : Nat} {p : List I} {v : Value} {zs : List Value} (h : KS W B p p.length v zs) : ∀ z ∈ zs, z.oneCell' = true := fun z hz => by
  obtain ⟨i, hi⟩ := List.mem_iff_getElem?.1 hz
  have hl : i < p.length := by rw [← h.len]; exact (List.getElem?_eq_some_iff.1 hi).1
  obtain ⟨g, cap, rfl, _⟩ := h.kb i z p[i] hi (List.getElem?_eq_getElem hl)
  rfl

set_option maxHeartbeats 4000000 in
set_option maxRecDepth 100000 in
theorem encode_any (p : List I) (v : Value) (W : World) (hP : PS W v p) (hE : Env W) :
    Calls Tryd.prog 12 #[v] W fun e W' => e = .returned (ENV p) ∧ Below W.heap.size W W' := by
  obtain ⟨i0, hi0, hz0, hz1, hz2⟩ := info_parts info_node
  have hck := check_any p v W hP hE.tab
  unfold CKV at hck
  by_cases hc0 : (check p).2 = 0
  · have hx := Lib.hid (ENV_ok hc0)
    obtain ⟨hp0, hp1⟩ := check_len hc0
    rw [hc0] at hck
    have hP0 := hP
    have hnb := Lib.hid hP.nb
    obtain ⟨sl, cap, rfl, hf⟩ := hP.form
    have HF := Lib.hid hf
    clear hf
    go_enter Tryd.func12, Tryd.ntmps12
    go_wp2_with fail
    refine hck.mono ?_
    rintro e w0 ⟨rfl, hb0⟩
    have hK0 : KS w0 W.heap.size p 0 (.slice none 0 0) [] := ⟨rfl, World.ownsRow_nil _ _ _ _, fun _ => rfl, fun i z x hz => by simp at hz⟩
    clear hck
    go_wp2_with fail
    go_loopw [6, 20] (fun kv i wr => ∃ (k : Nat) (zs : List Value), k ≤ p.length ∧ i = .int .i64 k ∧ KS wr W.heap.size p k kv zs ∧ Below W.heap.size W wr) (fun _ i _ => p.length - (intOf i).toNat)
    case atStart => exact ⟨0, [], Nat.zero_le _, rfl, hK0, hb0⟩
    case round =>
      obtain ⟨k, zs, hk, rfl, hKr, hbr⟩ := hrel
      clear hK0 hb0
      by_cases hlt : k < p.length
      · obtain ⟨x, hpx⟩ : ∃ x, p[k]? = some x := ⟨p[k], List.getElem?_eq_getElem hlt⟩
        obtain ⟨b, o, rfl, ha, h3⟩ := HF.out k x hpx
        obtain ⟨c0, c1, c2⟩ := h3.below ha hbr
        obtain ⟨n0, n1⟩ := hnb.out x (List.mem_of_getElem? hpx)
        have HX := Lib.hid hpx
        have HK := Lib.hid hKr
        clear hpx h3 hKr
        have hE0 := hE.below hbr
        have hC := CI.new wr x
        have hB0 := (Below.refl wr.heap.size wr).alloc (Nat.le_refl _) (.cells #[.int .i64 x.op, .int .i64 x.n, .string x.s] 31)
        go_wp2_with fail
        refine (word_any _ _ (hE0.below hB0).tab).mono ?_
        rintro e w1 ⟨rfl, hb1⟩
        have hB1 := hB0.trans (hb1.mono hB0.size)
        have hC1 := hC.below hb1
        clear c0 c1 c2
        go_wp2_with fail
        refine (atom_any _ _).mono ?_
        rintro e w2 ⟨rfl, hb2⟩
        have hB2 := hB1.trans (hb2.mono hB1.size)
        have hC2 := hC1.below hb2
        have hown3 := nodes_own w2 (wordB x.op)
        have hB3 := hB2.alloc hB2.size (.cells #[.bool true, .string (wordB x.op), .slice none 0 0] 46)
        have hC3 := hC2.below ((Below.refl _ _).alloc (Nat.le_refl _) (.cells #[.bool true, .string (wordB x.op), .slice none 0 0] 46))
        have hd0 := hC3.c0
        go_wp2_with fail
        refine (takes_any _ _).mono ?_
        rintro e w4 ⟨rfl, hb4⟩
        have hB4 := hB3.trans (hb4.mono hB3.size)
        have hC4 := hC3.below hb4
        have hown4 := own_block hown3 (fun g hg => hb4.block g (hown3.lt g hg).2)
        have h1B := hB2.size
        have h2B : w2.heap.size < w4.heap.size := Nat.lt_of_lt_of_le (by simp) hb4.size
        clear hB0 hB1 hB2 hB3 hb1 hb2 hb4 hC hC1 hC2 hC3 hd0 hown3
        by_cases ht0 : takes x.op = 0
        · have hat := Lib.hid (atoms_0 ht0)
          rw [ht0]
          have hsrc := row_cells hown4
          clear hown4 hC4
          go_wp2_with fail
          refine (list_any 1 ⟨w2.heap.size, 0, none⟩ 1 (row3 ([wordB x.op].map leafQ)) w4 (by omega) rfl h2B hsrc (leafs_one _)).mono ?_
          rintro e w8 ⟨v8, rfl, hown8, hb8⟩
          have hB8 := hB4.trans (hb8.mono hB4.size)
          have hkb8 : KB w8 (atoms x) v8 := by rw [hat.out]; exact KB.of_own (ts := [wordB x.op]) hown8 (by simp)
          obtain ⟨s8, c8, rfl⟩ := own_form hown8
          have hK9 := HK.out.below (hB8.alloc hB8.size (.cells #[.bool false, .string ⟨#[]⟩, .slice s8 1 c8] 46))
          have hkb9 := hkb8.below ((Below.refl _ _).alloc (Nat.le_refl _) (.cells #[.bool false, .string ⟨#[]⟩, .slice s8 1 c8] 46))
          have hbs := hbr.size
          have h8s := hB8.size
          clear hown8 hb8
          go_wp2_with (first
            | (at_builtin; refine wpList_append_own _ rfl _ _ 44 rfl W.heap.size 46 i0 _ 3 48 Tryd.underlying44 hi0 hz0 hz1 hz2 rfl (by decide) _ k _ rfl hK9.own ⟨w8.heap.size, 0, none⟩ 1 1 [.bool false, .string ⟨#[]⟩, .slice s8 1 c8] rfl rfl ?d1 ?d2 ?d3 ?d4 ?d5 ?_))
          case d1 =>
            intro j q hj
            match j, hj with
            | 0, hj => simp at hj; subst hj; simp [Addr.add]
            | 1, hj => simp at hj; subst hj; simp [Addr.add]
            | 2, hj => simp at hj; subst hj; simp [Addr.add]
          case d2 => intro q hq; simp at hq; rcases hq with rfl | rfl | rfl <;> rfl
          case d3 => unfold maxLen; omega
          case d4 => omega
          case d5 => simp; omega
          intro v' w9 hown9 hg9 _
          have hKn := hK9.snoc HX.out hkb9 hg9 hown9
          have hBn : Below W.heap.size W w9 := ((hbr.trans (hB8.mono hbs)).alloc (by omega) _).grown hg9 (by simp; omega) (fun g hg => (hK9.own.lt g hg).1)
          clear hown9 hg9 hK9 hkb8 hkb9
          go_wp2
          go_roundw
          case rel => exact ⟨k + 1, _, by omega, by go_num, hKn, hBn⟩
          case measure => simp [intOf]; omega
        · by_cases ht2 : takes x.op = 2
          · have hat := Lib.hid (atoms_2 ht2)
            rw [ht2]
            have he2 := hC4.c2
            have hownk := hown4
            clear hown4
            go_wp2_with fail
            refine (atom_any x.s _).mono ?_
            rintro e w5 ⟨rfl, hb5⟩
            have hB5 := hB4.trans (hb5.mono hB4.size)
            have hown6 := (own_block hownk (fun g hg => hb5.block g (hownk.lt g hg).2)).alloc (.cells #[.bool true, .string x.s, .slice none 0 0] 46)
            have h5s := hb5.size
            clear hownk
            go_wp2_with (first
              | (at_builtin; refine wpList_append_own _ rfl _ _ 44 rfl w2.heap.size 46 i0 _ 3 48 Tryd.underlying44 hi0 hz0 hz1 hz2 rfl (by decide) _ 1 _ rfl hown6 ⟨w5.heap.size, 0, none⟩ 1 1 [.bool true, .string x.s, .slice none 0 0] rfl rfl ?e1 ?e2 ?e3 ?e4 ?e5 ?_))
            case e1 =>
              intro j q hj
              match j, hj with
              | 0, hj => simp at hj; subst hj; simp [Addr.add]
              | 1, hj => simp at hj; subst hj; simp [Addr.add]
              | 2, hj => simp at hj; subst hj; simp [Addr.add]
            case e2 => intro q hq; simp at hq; rcases hq with rfl | rfl | rfl <;> rfl
            case e3 => unfold maxLen; omega
            case e4 => omega
            case e5 => simp; omega
            intro v6 w6 hown7 hg6 _
            have hB6 := (hB5.alloc hB5.size (.cells #[.bool true, .string x.s, .slice none 0 0] 46)).grown hg6 (by have := hB5.size; simp; omega) (fun g hg => by simp [Value.ownBlock] at hg; omega)
            obtain ⟨g6, c6, rfl, _, hlt6⟩ := hown7.form (by omega)
            have hsrc := row_cells hown7
            clear hown6 hown7 hg6 hb5
            go_wp2_with fail
            refine (list_any 2 ⟨g6, 0, none⟩ c6 (row3 ([wordB x.op, x.s].map leafQ)) w6 (by omega) rfl hlt6 hsrc (leafs_one _)).mono ?_
            rintro e w8 ⟨v8, rfl, hown8, hb8⟩
            have hB8 := hB6.trans (hb8.mono hB6.size)
            have hkb8 : KB w8 (atoms x) v8 := by rw [hat.out]; exact KB.of_own (ts := [wordB x.op, x.s]) hown8 (by simp)
            obtain ⟨s8, c8, rfl⟩ := own_form hown8
            have hK9 := HK.out.below (hB8.alloc hB8.size (.cells #[.bool false, .string ⟨#[]⟩, .slice s8 2 c8] 46))
            have hkb9 := hkb8.below ((Below.refl _ _).alloc (Nat.le_refl _) (.cells #[.bool false, .string ⟨#[]⟩, .slice s8 2 c8] 46))
            have hbs := hbr.size
            have h8s := hB8.size
            clear hown8 hb8
            go_wp2_with (first
              | (at_builtin; refine wpList_append_own _ rfl _ _ 44 rfl W.heap.size 46 i0 _ 3 48 Tryd.underlying44 hi0 hz0 hz1 hz2 rfl (by decide) _ k _ rfl hK9.own ⟨w8.heap.size, 0, none⟩ 1 1 [.bool false, .string ⟨#[]⟩, .slice s8 2 c8] rfl rfl ?d1 ?d2 ?d3 ?d4 ?d5 ?_))
            case d1 =>
              intro j q hj
              match j, hj with
              | 0, hj => simp at hj; subst hj; simp [Addr.add]
              | 1, hj => simp at hj; subst hj; simp [Addr.add]
              | 2, hj => simp at hj; subst hj; simp [Addr.add]
            case d2 => intro q hq; simp at hq; rcases hq with rfl | rfl | rfl <;> rfl
            case d3 => unfold maxLen; omega
            case d4 => omega
            case d5 => simp; omega
            intro v' w9 hown9 hg9 _
            have hKn := hK9.snoc HX.out hkb9 hg9 hown9
            have hBn : Below W.heap.size W w9 := ((hbr.trans (hB8.mono hbs)).alloc (by omega) _).grown hg9 (by simp; omega) (fun g hg => (hK9.own.lt g hg).1)
            clear hown9 hg9 hK9 hkb8 hkb9
            go_wp2
            go_roundw
            case rel => exact ⟨k + 1, _, by omega, by go_num, hKn, hBn⟩
            case measure => simp [intOf]; omega
          · have hat := Lib.hid (atoms_n ht0 ht2)
            have q0 : (takes x.op == 0) = false := by simpa using ht0
            have q2 : (takes x.op == 2) = false := by simpa using ht2
            have he1 := hC4.c1
            go_wp2_with fail
            refine (itoa_any x.n n0 n1 _ (hE0.below hB4)).mono ?_
            rintro e wi ⟨rfl, hbi⟩
            have hBi := hB4.trans (hbi.mono hB4.size)
            have hownk := own_block hown4 (fun g hg => hbi.block g (hown4.lt g hg).2)
            have his := hbi.size
            clear hown4 hbi
            go_wp2_with fail
            refine (atom_any ⟨(Lib.itoa x.n).toArray⟩ _).mono ?_
            rintro e w5 ⟨rfl, hb5⟩
            have hB5 := hBi.trans (hb5.mono hBi.size)
            have hown6 := (own_block hownk (fun g hg => hb5.block g (hownk.lt g hg).2)).alloc (.cells #[.bool true, .string ⟨(Lib.itoa x.n).toArray⟩, .slice none 0 0] 46)
            have h5s := hb5.size
            clear hownk
            go_wp2_with (first
              | (at_builtin; refine wpList_append_own _ rfl _ _ 44 rfl w2.heap.size 46 i0 _ 3 48 Tryd.underlying44 hi0 hz0 hz1 hz2 rfl (by decide) _ 1 _ rfl hown6 ⟨w5.heap.size, 0, none⟩ 1 1 [.bool true, .string ⟨(Lib.itoa x.n).toArray⟩, .slice none 0 0] rfl rfl ?e1 ?e2 ?e3 ?e4 ?e5 ?_))
            case e1 =>
              intro j q hj
              match j, hj with
              | 0, hj => simp at hj; subst hj; simp [Addr.add]
              | 1, hj => simp at hj; subst hj; simp [Addr.add]
              | 2, hj => simp at hj; subst hj; simp [Addr.add]
            case e2 => intro q hq; simp at hq; rcases hq with rfl | rfl | rfl <;> rfl
            case e3 => unfold maxLen; omega
            case e4 => omega
            case e5 => simp; omega
            intro v6 w6 hown7 hg6 _
            have hB6 := (hB5.alloc hB5.size (.cells #[.bool true, .string ⟨(Lib.itoa x.n).toArray⟩, .slice none 0 0] 46)).grown hg6 (by have := hB5.size; simp; omega) (fun g hg => by simp [Value.ownBlock] at hg; omega)
            obtain ⟨g6, c6, rfl, _, hlt6⟩ := hown7.form (by omega)
            have hsrc := row_cells hown7
            clear hown6 hown7 hg6 hb5
            go_wp2_with fail
            refine (list_any 2 ⟨g6, 0, none⟩ c6 (row3 ([wordB x.op, ⟨(Lib.itoa x.n).toArray⟩].map leafQ)) w6 (by omega) rfl hlt6 hsrc (leafs_one _)).mono ?_
            rintro e w8 ⟨v8, rfl, hown8, hb8⟩
            have hB8 := hB6.trans (hb8.mono hB6.size)
            have hkb8 : KB w8 (atoms x) v8 := by rw [hat.out]; exact KB.of_own (ts := [wordB x.op, ⟨(Lib.itoa x.n).toArray⟩]) hown8 (by simp)
            obtain ⟨s8, c8, rfl⟩ := own_form hown8
            have hK9 := HK.out.below (hB8.alloc hB8.size (.cells #[.bool false, .string ⟨#[]⟩, .slice s8 2 c8] 46))
            have hkb9 := hkb8.below ((Below.refl _ _).alloc (Nat.le_refl _) (.cells #[.bool false, .string ⟨#[]⟩, .slice s8 2 c8] 46))
            have hbs := hbr.size
            have h8s := hB8.size
            clear hown8 hb8
            go_wp2_with (first
              | (at_builtin; refine wpList_append_own _ rfl _ _ 44 rfl W.heap.size 46 i0 _ 3 48 Tryd.underlying44 hi0 hz0 hz1 hz2 rfl (by decide) _ k _ rfl hK9.own ⟨w8.heap.size, 0, none⟩ 1 1 [.bool false, .string ⟨#[]⟩, .slice s8 2 c8] rfl rfl ?d1 ?d2 ?d3 ?d4 ?d5 ?_))
            case d1 =>
              intro j q hj
              match j, hj with
              | 0, hj => simp at hj; subst hj; simp [Addr.add]
              | 1, hj => simp at hj; subst hj; simp [Addr.add]
              | 2, hj => simp at hj; subst hj; simp [Addr.add]
            case d2 => intro q hq; simp at hq; rcases hq with rfl | rfl | rfl <;> rfl
            case d3 => unfold maxLen; omega
            case d4 => omega
            case d5 => simp; omega
            intro v' w9 hown9 hg9 _
            have hKn := hK9.snoc HX.out hkb9 hg9 hown9
            have hBn : Below W.heap.size W w9 := ((hbr.trans (hB8.mono hbs)).alloc (by omega) _).grown hg9 (by simp; omega) (fun g hg => (hK9.own.lt g hg).1)
            clear hown9 hg9 hK9 hkb8 hkb9
            go_wp2
            go_roundw
            case rel => exact ⟨k + 1, _, by omega, by go_num, hKn, hBn⟩
            case measure => simp [intOf]; omega
      · obtain rfl : k = p.length := by omega
        have hown := hKr.own
        obtain ⟨g, c9, rfl, _, hlt9⟩ := hown.form hp0
        have hsrc := row_cells hown
        have hone := lists_one zs hKr.one
        have hlen := hKr.len
        have HK := Lib.hid hKr
        have hrl : (row3 (zs.map listQ)).length = p.length * 3 := by rw [row3_len, List.length_map, hlen]
        clear hKr hown
        go_wp2_with fail
        refine (list_any p.length ⟨g, 0, none⟩ c9 (row3 (zs.map listQ)) wr (by omega) hrl hlt9 hsrc hone).mono ?_
        rintro e w8 ⟨v8, rfl, hown8, hb8⟩
        have hKE := HK.out.below hb8
        have hrep := KS.rep (p := p) hKE.kb hlen hown8 hp0
        have hB8 := hbr.trans (hb8.mono hbr.size)
        have hEV := sexp_any 2 (progT p) _ w8 hrep (hE.below hB8) (by omega)
        rw [EV_eq] at hEV hx
        clear hKE hrep hown8 hb8 hsrc hone hrl
        go_wp2_with fail
        refine hEV.mono ?_
        rintro e w9 ⟨rfl, hb9⟩
        clear hEV
        go_wp2
        refine bodyPost_ret (v := .tuple #[.string (ES (enc (progT p))), .int .i64 (EE (enc (progT p)))]) (by simp [results, Tryd.results12, go_sem]) rfl ⟨by rw [hx.out], hB8.trans (hb9.mono hB8.size)⟩
  · have hx := Lib.hid (ENV_bad hc0)
    have hq : ((check p).2 == 0) = false := by simpa using hc0
    obtain ⟨sl, cap, rfl, -⟩ := hP.form
    clear hP
    go_enter Tryd.func12, Tryd.ntmps12
    go_wp2_with fail
    refine hck.mono ?_
    rintro e w0 ⟨rfl, hb0⟩
    clear hck
    go_wp2
    refine bodyPost_ret (v := .tuple #[.string ⟨#[]⟩, .int .i64 (check p).2]) (by simp [results, Tryd.results12, go_sem]) rfl ⟨by rw [hx.out], hb0⟩
end Cd
end Go.Proofs.YtjfchdgdgbdeeaaDoor
