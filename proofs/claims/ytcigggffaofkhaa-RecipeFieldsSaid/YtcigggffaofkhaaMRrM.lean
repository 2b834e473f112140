/-
  The reference's Parse.
-/
import Derived.Test.YtcigggffaofkhaaMRrI
namespace Go.Proofs.Ytcigggffaofkhaa
open Go.RowKit
namespace Rc

abbrev zeroQ (s : ByteArray) : Array Value := #[.string s, .int .i64 0, .string ⟨#[]⟩, .int .i64 0, .int .i64 0, .int .i64 0, .int .i64 0]
abbrev R2 (W : World) (s : ByteArray) : World := (W.alloc (.cells zeroS 29)).alloc (.cells (zeroQ s) 65)
theorem rs_start (W : World) (s : ByteArray) : RS (R2 W s) (W.heap.size + 1) s (.ok () t00) := by
  have hn := heap_alloc_new (W.alloc (.cells zeroS 29)) (.cells (zeroQ s) 65)
  rw [show (W.alloc (.cells zeroS 29)).heap.size = W.heap.size + 1 by simp] at hn
  refine ⟨⟨0, ⟨by simp, ?_, ?_, ?_, ?_, ?_, ?_, ?_, fun j => ?_⟩⟩, tv00 s, Nat.zero_le _⟩
  all_goals (first | simp only [World.cell?, hn] | simp only [World.frozen?, hn])
  all_goals rfl
theorem res_block {W w : World} {s : ByteArray} (h : Fq (R2 W s) w (W.heap.size + 1)) : w.heap[W.heap.size]? = some (.cells zeroS 29 (0, 0)) := by
  rw [h.block _ (by simp; omega) (by omega), heap_alloc_old _ _ (by simp)]
  exact heap_alloc_new W _
theorem ZV.first {W w : World} {b : Nat} {s : ByteArray} {st : Res Unit} {p : Nat × List Value} {l : List (Nat × List Value)} (h : ZV W w b s st (p :: l)) : ZV W w b s st [p] :=
  ⟨h.hlt, h.fq, h.rs, fun i g vs hi => by
    match i, hi with
    | 0, hi => exact h.vc 0 g vs hi
    | i + 1, hi => simp at hi⟩
abbrev w3 : List (List UInt8) := [[116, 111, 111, 108], [98, 117, 105, 108, 100], [114, 117, 110]]
abbrev wds3 : List Value := [.string ⟨#[116, 111, 111, 108]⟩, .string ⟨#[98, 117, 105, 108, 100]⟩, .string ⟨#[114, 117, 110]⟩]
def kindAt (t : Tk) : Nat → Nat
  | 0 => 0
  | k + 1 => if isW t (w3.getD k []) = true then k + 1 else kindAt t k
theorem kind_field (t : Tk) : kindAt t 3 = fieldK t := by
  show (if isW t [114, 117, 110] = true then 3 else if isW t [98, 117, 105, 108, 100] = true then 2 else if isW t [116, 111, 111, 108] = true then 1 else 0) = _
  unfold fieldK
  cases h1 : isW t [116, 111, 111, 108] with
  | true =>
    rw [isW_two (w := [98, 117, 105, 108, 100]) h1 (by decide), isW_two (w := [114, 117, 110]) h1 (by decide)]
    rfl
  | false =>
    cases h2 : isW t [98, 117, 105, 108, 100] with
    | true => rw [isW_two (w := [114, 117, 110]) h2 (by decide)]; rfl
    | false => rfl
theorem word3_at : ∀ k, k < 3 → ∃ w : ByteArray, wds3[k]? = some (.string w) ∧ w3.getD k [] = w.data.toList
  | 0, _ => ⟨⟨#[116, 111, 111, 108]⟩, rfl, rfl⟩
  | 1, _ => ⟨⟨#[98, 117, 105, 108, 100]⟩, rfl, rfl⟩
  | 2, _ => ⟨⟨#[114, 117, 110]⟩, rfl, rfl⟩
  | k + 3, h => by omega
theorem YX.start {W w4 : World} {b : Nat} {s : ByteArray} {f : Tk → Res E} {g : Nat} {a1 a2 : XV} {st0 : Res Unit} {A B : Res E} {R : Res Src} (hZ : ZV W w4 b s (unitR B) [(g, out7 a1 a2 (.slice none 0 0))])
    (hA : A = (st0.bind fun _ t => wantT s.data.toList [112, 97, 99, 107, 97, 103, 101] t).bind fun _ t => f t) (hB : B = ((unitR A).bind fun _ t => wantT s.data.toList [118, 101, 114, 115, 105, 111, 110] t).bind fun _ t => f t)
    (hR : R = st0.bind fun _ t0 => (wantT s.data.toList [112, 97, 99, 107, 97, 103, 101] t0).bind fun _ t1 => (f t1).bind fun a t2 => (wantT s.data.toList [118, 101, 114, 115, 105, 111, 110] t2).bind fun _ t3 => (f t3).bind fun b t4 =>
      (fieldsP s.data.toList f (s.data.toList.length + 1) t4 []).bind fun l t5 => .ok ⟨a, b, l⟩ t5)
    (h1 : ∀ x t, A = .ok x t → RepX w4 (fun k => g + 1 ≤ k ∧ k < w4.heap.size) x a1.val) (h2 : ∀ x t, B = .ok x t → RepX w4 (fun k => g + 1 ≤ k ∧ k < w4.heap.size) x a2.val) : YX W w4 b s f g a1 a2 (.slice none 0 0) 0 (unitR B) R := by
  have hR' : R = A.bind fun a t2 => (wantT s.data.toList [118, 101, 114, 115, 105, 111, 110] t2).bind fun _ t3 => (f t3).bind fun b t4 => (fieldsP s.data.toList f (s.data.toList.length + 1) t4 []).bind fun l t5 => .ok ⟨a, b, l⟩ t5 := by
    rw [hR, hA]
    simp only [bind_assoc]
  refine ⟨hZ, ⟨_, _, _, rfl⟩, by omega, ⟨[], KJ.start _ _, fun u t e => ?_⟩, fun p e h => ?_⟩
  · obtain ⟨y, hy⟩ := unit_ok e
    have hB' := hB
    rw [hy] at hB'
    obtain ⟨u1, t1, h3, h4⟩ := bind_ok hB'.symm
    obtain ⟨u2, t2, h5, h6⟩ := bind_ok h3
    obtain ⟨x, hx⟩ := unit_ok h5
    have hno : (Value.slice none 0 0).ownBlock = none := rfl
    refine ⟨x, y, [], s.data.toList.length + 1, (h1 x _ hx).sub fun k hk => ⟨hk.1, hk.2, by rw [hno]; simp⟩, (h2 y _ hy).sub fun k hk => ⟨hk.1, hk.2, by rw [hno]; simp⟩, ⟨rfl, fun i q t hq => by simp at hq⟩, by omega, by have := Lib.size_eq s; omega, ?_⟩
    rw [hR', hx]
    show _ = (wantT s.data.toList _ t2).bind _
    rw [h6]
    show _ = (f t1).bind _
    rw [h4]
    rfl
  · have hb := unit_bad h
    rw [hR']
    cases hA2 : A with
    | bad p2 e2 =>
      rw [hB, hA2] at hb
      cases hb
      rfl
    | ok x t2 =>
      rw [hB, hA2] at hb
      change (wantT s.data.toList _ t2).bind _ = _ at hb
      show (wantT s.data.toList _ t2).bind _ = _
      cases hw : wantT s.data.toList [118, 101, 114, 115, 105, 111, 110] t2 with
      | bad p3 e3 =>
        rw [hw] at hb
        cases hb
        rfl
      | ok u3 t3 =>
        rw [hw] at hb
        change f t3 = _ at hb
        show (f t3).bind _ = _
        rw [hb]
        rfl
theorem below_R2 {W w : World} {s : ByteArray} (h : Fq (R2 W s) w (W.heap.size + 1)) : Below W.heap.size W w :=
  (((Below.refl _ _).alloc (Nat.le_refl _) _).alloc (by simp) _).trans (h.below.mono (by omega))
theorem YX.done {W wr : World} {s : ByteArray} {f : Tk → Res E} {g : Nat} {a1 a2 : XV} {sl : Option Addr} {n c : Nat} {u : Unit} {t : Tk} {R : Res Src} (L : YX (R2 W s) wr (W.heap.size + 1) s f g a1 a2 (.slice sl n c) n (.ok u t) R) (hk : t.kind = 0) (hR : sourceP s.data.toList = R) (hs : s.size ≤ 4096) :
    PA W (parseP s.data.toList) (.returned (.tuple #[.agg #[.int .i64 a1.k, .string a1.σ, .slice a1.sl a1.n a1.c, .int .i64 a2.k, .string a2.σ, .slice a2.sl a2.n a2.c, .slice sl n c], .int .i64 0, .int .i64 0])) (put7 wr W.heap.size a1 a2 (.slice sl n c)) := by
  have hlo := L.zv.lo 0 rfl
  have hlo : W.heap.size + 2 ≤ g := by simpa using hlo
  obtain ⟨qs, hj, hgood⟩ := L.kids
  obtain ⟨x1, x2, ts, m, r1, r2, hq, -, hm, he⟩ := hgood u t rfl
  obtain ⟨m', rfl⟩ : ∃ m', m = m' + 1 := ⟨m - 1, by omega⟩
  rw [fields_end hk] at he
  have hP : parseP s.data.toList = .ok ⟨x1, x2, ts⟩ := by
    unfold parseP
    rw [if_neg (by have := Lib.size_eq s; omega), hR, ← he]
    rfl
  rw [hP]
  have hbel := below_R2 L.zv.fq
  have hst : ∀ k, (g + 1 ≤ k ∧ k < wr.heap.size) → (W.heap.size ≤ k ∧ k < (put7 wr W.heap.size a1 a2 (.slice sl n c)).heap.size) ∧ (put7 wr W.heap.size a1 a2 (.slice sl n c)).heap[k]? = wr.heap[k]? := fun k hk =>
    ⟨⟨by omega, by rw [put7_size]; exact hk.2⟩, put7_heap _ _ _ _ _ (by omega)⟩
  obtain ⟨h1, h2⟩ := (hq.kf hj).fs
  refine ⟨?_, _, rfl, ⟨_, _, _, _, _, _, _, _, _, _, _, _, _, rfl, r1.move fun k hk => hst k ⟨hk.1, hk.2.1⟩, r2.move fun k hk => hst k ⟨hk.1, hk.2.1⟩, h1.move hst, h2⟩⟩
  exact ((((((hbel.setCell (p := ⟨W.heap.size, 0, none⟩) (Nat.le_refl _) _).setCell (p := ⟨W.heap.size, 1, none⟩) (Nat.le_refl _) _).setCell (p := ⟨W.heap.size, 2, none⟩) (Nat.le_refl _) _).setCell (p := ⟨W.heap.size, 3, none⟩) (Nat.le_refl _) _).setCell (p := ⟨W.heap.size, 4, none⟩) (Nat.le_refl _) _).setCell (p := ⟨W.heap.size, 5, none⟩) (Nat.le_refl _) _).setCell (p := ⟨W.heap.size, 6, none⟩) (Nat.le_refl _) _
theorem new_at {w : World} {n : Nat} (h : n = w.heap.size) (o : Obj) : (w.alloc o).heap[n]? = some o := by
  subst h
  exact heap_alloc_new w o
theorem far3 (w : World) (g i j k : Nat) (v1 v2 v3 : Value) {n : Nat} (h : n ≠ g) : (((w.setCell ⟨g, i, none⟩ v1).setCell ⟨g, j, none⟩ v2).setCell ⟨g, k, none⟩ v3).heap[n]? = w.heap[n]? := by
  rw [Below.heap_setCell _ _ _ _ h, Below.heap_setCell _ _ _ _ h, Below.heap_setCell _ _ _ _ h]
theorem rep_one {wo w3 w4 w5 : World} {b : Nat} {A : Res E} {v1 v2 v3 v4 v5 v6 : Value} {p : XV} (hb : b < wo.heap.size) (h3 : wo.heap.size < w3.heap.size)
    (hF : Fq (((w4.setCell ⟨wo.heap.size, 1, none⟩ v1).setCell ⟨wo.heap.size, 2, none⟩ v2).setCell ⟨wo.heap.size, 3, none⟩ v3) w5 b) (hr : ∀ x t, A = .ok x t → RepX w4 (fun j => w3.heap.size ≤ j ∧ j < w4.heap.size) x p.val) :
    ∀ x t, A = .ok x t → RepX (((w5.setCell ⟨wo.heap.size, 4, none⟩ v4).setCell ⟨wo.heap.size, 5, none⟩ v5).setCell ⟨wo.heap.size, 6, none⟩ v6) (fun j => wo.heap.size ≤ j ∧ j < (((w5.setCell ⟨wo.heap.size, 4, none⟩ v4).setCell ⟨wo.heap.size, 5, none⟩ v5).setCell ⟨wo.heap.size, 6, none⟩ v6).heap.size) x p.val := by
  have h5 := hF.below.size
  simp only [World.size_setCell] at h5
  refine fun x t hx => (hr x t hx).move fun j hj => ⟨⟨by omega, by simp only [World.size_setCell]; omega⟩, ?_⟩
  rw [far3 _ _ _ _ _ _ _ _ (by omega), hF.block j (by simp only [World.size_setCell]; omega) (by omega), far3 _ _ _ _ _ _ _ _ (by omega)]
theorem rep_two {wo w3 w4 w5 : World} {A : Res E} {v1 v2 v3 v4 v5 v6 : Value} {p : XV} (h3 : wo.heap.size < w3.heap.size) (h4 : w3.heap.size ≤ w4.heap.size)
    (hr : ∀ x t, A = .ok x t → RepX w5 (fun j => (((w4.setCell ⟨wo.heap.size, 1, none⟩ v1).setCell ⟨wo.heap.size, 2, none⟩ v2).setCell ⟨wo.heap.size, 3, none⟩ v3).heap.size ≤ j ∧ j < w5.heap.size) x p.val) :
    ∀ x t, A = .ok x t → RepX (((w5.setCell ⟨wo.heap.size, 4, none⟩ v4).setCell ⟨wo.heap.size, 5, none⟩ v5).setCell ⟨wo.heap.size, 6, none⟩ v6) (fun j => wo.heap.size ≤ j ∧ j < (((w5.setCell ⟨wo.heap.size, 4, none⟩ v4).setCell ⟨wo.heap.size, 5, none⟩ v5).setCell ⟨wo.heap.size, 6, none⟩ v6).heap.size) x p.val := by
  simp only [World.size_setCell] at hr
  refine fun x t hx => (hr x t hx).move fun j hj => ⟨⟨by omega, by simp only [World.size_setCell]; omega⟩, ?_⟩
  exact far3 _ _ _ _ _ _ _ _ (by omega)
abbrev zeroF : List Value := [.int .i64 0, .int .i64 0, .string ⟨#[]⟩, .slice none 0 0, .int .i64 0, .string ⟨#[]⟩, .slice none 0 0]
abbrev restF : List Value := [.int .i64 0, .string ⟨#[]⟩, .slice none 0 0, .int .i64 0, .string ⟨#[]⟩, .slice none 0 0]
theorem below7 {W w : World} (h : Below W.heap.size W w) (v0 v1 v2 v3 v4 v5 v6 : Value) : Below W.heap.size W (((((((w.setCell ⟨W.heap.size, 0, none⟩ v0).setCell ⟨W.heap.size, 1, none⟩ v1).setCell ⟨W.heap.size, 2, none⟩ v2).setCell ⟨W.heap.size, 3, none⟩ v3).setCell ⟨W.heap.size, 4, none⟩ v4).setCell ⟨W.heap.size, 5, none⟩ v5).setCell ⟨W.heap.size, 6, none⟩ v6) :=
  ((((((h.setCell (p := ⟨W.heap.size, 0, none⟩) (Nat.le_refl _) _).setCell (p := ⟨W.heap.size, 1, none⟩) (Nat.le_refl _) _).setCell (p := ⟨W.heap.size, 2, none⟩) (Nat.le_refl _) _).setCell (p := ⟨W.heap.size, 3, none⟩) (Nat.le_refl _) _).setCell (p := ⟨W.heap.size, 4, none⟩) (Nat.le_refl _) _).setCell (p := ⟨W.heap.size, 5, none⟩) (Nat.le_refl _) _).setCell (p := ⟨W.heap.size, 6, none⟩) (Nat.le_refl _) _
set_option maxHeartbeats 1000000 in
set_option maxRecDepth 100000 in
theorem rparse_any (s : ByteArray) (W : World) : Calls Try.prog 13 #[.string s] W fun e W' => PA W (parseP s.data.toList) e W' := by
  have hz := Lib.size_eq s
  by_cases hs : s.size ≤ 4096
  rotate_left
  · have k1 : decide ((4096 : Int) < s.size) = true := by simp; omega
    have HP := Lib.hid (show parseP s.data.toList = .bad 0 3 by unfold parseP; rw [if_pos (by omega)])
    clear hz hs
    go_enter Try.func13, Try.ntmps13
    go_wp2_with fail
    refine bodyPost_ret (v := .tuple #[.agg zeroS, .int .i64 0, .int .i64 3]) (by simp [results, Try.results13, go_sem]) rfl ?_
    rw [HP.out]
    refine ⟨?_, rfl⟩
    exact (Below.refl _ _).alloc (Nat.le_refl _) _
  have k1 : decide ((4096 : Int) < s.size) = false := by simp; omega
  have HSRC := Lib.hid (source_eq s.data.toList)
  have hZ0 := ZV.start (rs_start W s)
  have hc := rstep_any (R2 W s) _ s _ hs hZ0.rs
  have HZ := Lib.hid hZ0
  clear hz hZ0
  go_enter Try.func13, Try.ntmps13
  go_wp2_with fail
  refine hc.mono ?_
  rintro e w1 ⟨rfl, hF⟩
  have hZ := (HZ.out.call hF).push zeroS.toList 29 rfl
  change ZV (R2 W s) (w1.alloc (.cells zeroS 29)) (W.heap.size + 1) s (stepT s.data.toList t00) [(w1.heap.size, zeroS.toList)] at hZ
  have hf := rtop_any s hs
  have hp : Pg (exprP s.data.toList (termP s.data.toList 32)) := expr_prog (term_prog _ 32)
  clear hc hF HZ
  generalize hg : w1.heap.size = g at *
  generalize stepT s.data.toList t00 = st0 at *
  generalize exprP s.data.toList (termP s.data.toList 32) = f at *
  have hc := rwant_any _ _ s _ ⟨#[112, 97, 99, 107, 97, 103, 101]⟩ hs hZ.rs
  have HZ := Lib.hid hZ
  clear hZ
  go_wp2_with fail
  refine hc.mono ?_
  rintro e w2 ⟨rfl, hF⟩
  have HZ := Lib.hid (HZ.out.call hF)
  clear hc hF
  have hc := hf w2 _ _ HZ.out.rs
  go_wp2_with fail
  refine hc.mono ?_
  rintro e w3 ⟨k1, σ1, sl1, n1, c1, rfl, hF, hrep⟩
  have hZ := HZ.out.call hF
  have z0 := hZ.at 0 0 rfl rfl
  have z1 := hZ.at 0 1 rfl rfl
  have z2 := hZ.at 0 2 rfl rfl
  have zf := hZ.fz 0 rfl
  have hZ := ((hZ.set1 0 (by simp) (.int .i64 k1)).set1 1 (by simp) (.string σ1)).set1 2 (by simp) (.slice sl1 n1 c1)
  have HR1 := Lib.hid hrep
  have HL2 := Lib.hid (HZ.out.lt 0 rfl)
  change ZV (R2 W s) (((w3.setCell ⟨g, 0, none⟩ (.int .i64 k1)).setCell ⟨g, 1, none⟩ (.string σ1)).setCell ⟨g, 2, none⟩ (.slice sl1 n1 c1)) (W.heap.size + 1) s _ [(g, [.int .i64 k1, .string σ1, .slice sl1 n1 c1, .int .i64 0, .string ⟨#[]⟩, .slice none 0 0, .slice none 0 0])] at hZ
  clear hc hF hrep
  have hc := rwant_any _ _ s _ ⟨#[118, 101, 114, 115, 105, 111, 110]⟩ hs hZ.rs
  have HZ := Lib.hid hZ
  clear hZ
  go_wp2_with fail
  refine hc.mono ?_
  rintro e w4 ⟨rfl, hF⟩
  have HZ := Lib.hid (HZ.out.call hF)
  have HF4 := Lib.hid hF.fq
  clear hc hF z0 z1 z2 zf
  have hc := hf w4 _ _ HZ.out.rs
  go_wp2_with fail
  refine hc.mono ?_
  rintro e w5 ⟨k2, σ2, sl2, n2, c2, rfl, hF, hrep⟩
  have hZ := HZ.out.call hF
  have z3 := hZ.at 0 3 rfl rfl
  have z4 := hZ.at 0 4 rfl rfl
  have z5 := hZ.at 0 5 rfl rfl
  have zf := hZ.fz 0 rfl
  have hZ := ((hZ.set1 3 (by simp) (.int .i64 k2)).set1 4 (by simp) (.string σ2)).set1 5 (by simp) (.slice sl2 n2 c2)
  have HR2 := Lib.hid hrep
  have HL4 := Lib.hid (HZ.out.lt 0 rfl)
  have HF5 := Lib.hid hF.fq
  obtain ⟨B, HB⟩ : ∃ B, Hid (B = ((unitR ((st0.bind fun _ t => wantT s.data.toList [112, 97, 99, 107, 97, 103, 101] t).bind fun _ t => f t)).bind (fun _ t => wantT s.data.toList [118, 101, 114, 115, 105, 111, 110] t)).bind fun _ t => f t) := ⟨_, Lib.hid rfl⟩
  have hZ : ZV (R2 W s) (((w5.setCell ⟨g, 3, none⟩ (.int .i64 k2)).setCell ⟨g, 4, none⟩ (.string σ2)).setCell ⟨g, 5, none⟩ (.slice sl2 n2 c2)) (W.heap.size + 1) s (unitR B) [(g, out7 ⟨k1, σ1, sl1, n1, c1⟩ ⟨k2, σ2, sl2, n2, c2⟩ (.slice none 0 0))] := by rw [HB.out]; exact hZ
  have hL := YX.start hZ rfl HB.out rfl (fun x t hx => by
    have h4 := HF4.out.below.size
    have h5 := HF5.out.below.size
    have hgs : (((w3.setCell ⟨g, 0, none⟩ (.int .i64 k1)).setCell ⟨g, 1, none⟩ (.string σ1)).setCell ⟨g, 2, none⟩ (.slice sl1 n1 c1)).heap.size = w3.heap.size := by simp [World.setCell]
    have hg2 := HL2.out
    have hlo := hZ.lo 0 rfl
    have hlo : W.heap.size + 2 ≤ g := by simpa using hlo
    refine (HR1.out x t hx).move fun j hj => ⟨⟨by omega, by simp [World.setCell]; omega⟩, ?_⟩
    rw [show (((w5.setCell ⟨g, 3, none⟩ (.int .i64 k2)).setCell ⟨g, 4, none⟩ (.string σ2)).setCell ⟨g, 5, none⟩ (.slice sl2 n2 c2)).heap[j]? = w5.heap[j]? by rw [Below.heap_setCell _ _ _ _ (show j ≠ g by omega), Below.heap_setCell _ _ _ _ (show j ≠ g by omega), Below.heap_setCell _ _ _ _ (show j ≠ g by omega)], HF5.out.block j (by omega) (by omega), HF4.out.block j (by omega) (by omega)]
    exact put3_heap w3 g _ _ _ (show j ≠ g by omega)) (fun x t hx => by
    have hg4 := HL4.out
    refine (HR2.out x t (by rw [← hx, HB.out])).move fun j hj => ⟨⟨by omega, by simp [World.setCell]; omega⟩, ?_⟩
    rw [Below.heap_setCell _ _ _ _ (show j ≠ g by omega), Below.heap_setCell _ _ _ _ (show j ≠ g by omega), Below.heap_setCell _ _ _ _ (show j ≠ g by omega)])
  rw [← HSRC.out] at hL
  have HL := Lib.hid hL
  clear hc hF hrep hL hZ HZ HR1 HR2 HF4 HF5 HL2 HL4 HB
  go_wp2_with fail
  generalize (((w5.setCell ⟨g, 3, none⟩ (.int .i64 k2)).setCell ⟨g, 4, none⟩ (.string σ2)).setCell ⟨g, 5, none⟩ (.slice sl2 n2 c2)) = w9 at *
  clear z3 z4 z5 zf hg
  obtain ⟨i0, hi0, hz0, hz1, hz2⟩ := info_parts info_f
  go_loopw [] (fun wr => ∃ v n st, YX (R2 W s) wr (W.heap.size + 1) s f g ⟨k1, σ1, sl1, n1, c1⟩ ⟨k2, σ2, sl2, n2, c2⟩ v n st (sourceP s.data.toList)) (fun wr => mr s (W.heap.size + 1) wr)
  case atStart => exact ⟨_, _, _, HL.out⟩
  case round =>
    obtain ⟨v, n, st, L⟩ := hrel
    clear HL
    obtain ⟨slv, nv, cv, rfl⟩ := L.form
    obtain rfl : nv = n := by
      obtain ⟨qs, hk, -⟩ := L.kids
      obtain ⟨sl', cap', he⟩ := own_form hk.own
      simp only [Value.slice.injEq] at he
      exact he.2.1
    have hrb := res_block L.zv.fq
    cases st with
    | bad p e =>
      obtain ⟨⟨k', σ', p', f', hX, -⟩, h2⟩ := L.zv.rs
      have e1 : (e == 0) = false := by simp [h2]
      have e2 : (e != 0) = true := by simp [h2]
      have HP := Lib.hid (show parseP s.data.toList = .bad p e by
        unfold parseP
        rw [if_neg (by have := Lib.size_eq s; omega), L.bad p e rfl])
      have HB := Lib.hid (below_R2 L.zv.fq)
      obtain ⟨lt, c0, c1', c2', c3, c4, c5, c6, fz⟩ := hX
      have r0 : wr.cell? ⟨W.heap.size, 0, none⟩ = some (.int .i64 0) := by simp [World.cell?, hrb]
      have r1 : wr.cell? ⟨W.heap.size, 1, none⟩ = some (.string ⟨#[]⟩) := by simp [World.cell?, hrb]
      have r2 : wr.cell? ⟨W.heap.size, 2, none⟩ = some (.slice none 0 0) := by simp [World.cell?, hrb]
      have r3 : wr.cell? ⟨W.heap.size, 3, none⟩ = some (.int .i64 0) := by simp [World.cell?, hrb]
      have r4 : wr.cell? ⟨W.heap.size, 4, none⟩ = some (.string ⟨#[]⟩) := by simp [World.cell?, hrb]
      have r5 : wr.cell? ⟨W.heap.size, 5, none⟩ = some (.slice none 0 0) := by simp [World.cell?, hrb]
      have r6 : wr.cell? ⟨W.heap.size, 6, none⟩ = some (.slice none 0 0) := by simp [World.cell?, hrb]
      have rf : ∀ j, wr.frozen? ⟨W.heap.size, j, none⟩ = false := fun j => by simp [World.frozen?, hrb]
      clear L h2 hrb HSRC hf hp
      go_wp2_with fail
      go_region
      go_wp2_with fail
      refine bodyPost_ret (v := .tuple #[.agg zeroS, .int .i64 p, .int .i64 e]) (by simp [results, Try.results13, go_sem, r0, r1, r2, r3, r4, r5, r6]) rfl ?_
      rw [HP.out]
      refine ⟨?_, rfl⟩
      exact (below7 HB.out _ _ _ _ _ _ _).drew
    | ok u t =>
      by_cases hk0 : t.kind = 0
      · have hR := Lib.hid (L.done hk0 rfl hs)
        obtain ⟨⟨pl, hX⟩, -⟩ := L.zv.rs
        have e1 : ((t.kind : Int) == 0) = true := by simp [hk0]
        have e2 : ((t.kind : Int) != 0) = false := by simp [hk0]
        obtain ⟨lt, c0, c1', c2', c3, c4, c5, c6, fz⟩ := hX
        have r0 : wr.cell? ⟨W.heap.size, 0, none⟩ = some (.int .i64 0) := by simp [World.cell?, hrb]
        have r1 : wr.cell? ⟨W.heap.size, 1, none⟩ = some (.string ⟨#[]⟩) := by simp [World.cell?, hrb]
        have r2 : wr.cell? ⟨W.heap.size, 2, none⟩ = some (.slice none 0 0) := by simp [World.cell?, hrb]
        have r3 : wr.cell? ⟨W.heap.size, 3, none⟩ = some (.int .i64 0) := by simp [World.cell?, hrb]
        have r4 : wr.cell? ⟨W.heap.size, 4, none⟩ = some (.string ⟨#[]⟩) := by simp [World.cell?, hrb]
        have r5 : wr.cell? ⟨W.heap.size, 5, none⟩ = some (.slice none 0 0) := by simp [World.cell?, hrb]
        have r6 : wr.cell? ⟨W.heap.size, 6, none⟩ = some (.slice none 0 0) := by simp [World.cell?, hrb]
        have rf : ∀ j, wr.frozen? ⟨W.heap.size, j, none⟩ = false := fun j => by simp [World.frozen?, hrb]
        have g0 := L.zv.at 0 0 rfl rfl
        have g1 := L.zv.at 0 1 rfl rfl
        have g2 := L.zv.at 0 2 rfl rfl
        have g3 := L.zv.at 0 3 rfl rfl
        have g4 := L.zv.at 0 4 rfl rfl
        have g5 := L.zv.at 0 5 rfl rfl
        have g6 := L.zv.at 0 6 rfl rfl
        clear L hrb HSRC hf hp hk0
        go_wp2_with fail
        refine bodyPost_ret (v := .tuple #[.agg #[.int .i64 k1, .string σ1, .slice sl1 n1 c1, .int .i64 k2, .string σ2, .slice sl2 n2 c2, .slice slv nv cv], .int .i64 0, .int .i64 0]) (by simp [results, Try.results13, go_sem, r0, r1, r2, r3, r4, r5, r6]) rfl ?_
        exact hR.out
      · obtain ⟨wo, rfl⟩ : ∃ x, x = wr := ⟨_, rfl⟩
        obtain ⟨qs, hk, hgood⟩ := L.kids
        obtain ⟨⟨pl, hX⟩, -⟩ := L.zv.rs
        have e1 : ((t.kind : Int) == 0) = false := by rw [beq_eq_false_iff_ne]; omega
        have e2 : ((t.kind : Int) != 0) = true := by rw [bne, e1]; rfl
        obtain ⟨lt, c0, c1', c2', c3, c4, c5, c6, fz⟩ := hX
        have hZ := ((ZV.start L.zv.rs).push zeroF 47 (g := wo.heap.size) rfl).push wds3 9 (g := wo.heap.size + 1) (by simp)
        change ZV wo ((wo.alloc (.cells #[.int .i64 0, .int .i64 0, .string ⟨#[]⟩, .slice none 0 0, .int .i64 0, .string ⟨#[]⟩, .slice none 0 0] 47)).alloc (.cells #[.string ⟨#[116, 111, 111, 108]⟩, .string ⟨#[98, 117, 105, 108, 100]⟩, .string ⟨#[114, 117, 110]⟩] 9)) (W.heap.size + 1) s (.ok u t) [(wo.heap.size, .int .i64 ((kindAt t 0 : Nat) : Int) :: restF), (wo.heap.size + 1, wds3)] at hZ
        have HZ := Lib.hid hZ
        have HL := Lib.hid L
        have HK := Lib.hid hk
        have HG := Lib.hid hgood
        have hb0 : (W.heap.size + 1) < wo.heap.size := lt
        clear L hk hgood hZ hrb
        go_wp2_with fail
        generalize ((wo.alloc (.cells #[.int .i64 0, .int .i64 0, .string ⟨#[]⟩, .slice none 0 0, .int .i64 0, .string ⟨#[]⟩, .slice none 0 0] 47)).alloc (.cells #[.string ⟨#[116, 111, 111, 108]⟩, .string ⟨#[98, 117, 105, 108, 100]⟩, .string ⟨#[114, 117, 110]⟩] 9)) = w0 at *
        clear lt c0 c1' c2' c3 c4 c5 c6 fz
        go_loopw [46] (fun i wr => ∃ k : Nat, k ≤ 3 ∧ i = .int .i64 k ∧ ZV wo wr (W.heap.size + 1) s (.ok u t) [(wo.heap.size, .int .i64 ((kindAt t k : Nat) : Int) :: restF), (wo.heap.size + 1, wds3)]) (fun i _ => 3 - (intOf i).toNat)
        case atStart => exact ⟨0, by omega, rfl, HZ.out⟩
        case round =>
          obtain ⟨k, hk3, rfl, hZ⟩ := hrel
          have y0 := hZ.at 0 0 rfl rfl
          have yf := hZ.fz 0 rfl
          by_cases hk2 : k < 3
          · obtain ⟨w, hw1, hw2⟩ := word3_at k hk2
            have hcell := hZ.at 1 k rfl hw1
            have hh := rhas_any wr _ s (.ok u t) w hZ.rs
            have hkw : IntKind.i64.wrap ((k : Int) + 1) = (k : Int) + 1 := IntWalk.i64_in _ (by omega)
            cases hbw : isW t w.data.toList with
            | true =>
              rw [show hasS (.ok u t) w.data.toList = true from hbw] at hh
              have hN := hZ.set 0 0 rfl (by simp) (fun i' g' vs' h hne => by
                match i', h with
                | 0, h => exact absurd rfl hne
                | 1, h => cases h; omega
                | i + 2, h => simp at h) (.int .i64 ((k : Int) + 1))
              have HN := Lib.hid (show ZV wo (wr.setCell ⟨wo.heap.size, 0, none⟩ (.int .i64 ((k : Int) + 1))) (W.heap.size + 1) s (.ok u t) [(wo.heap.size, .int .i64 ((kindAt t (k + 1) : Nat) : Int) :: restF), (wo.heap.size + 1, wds3)] by
                rw [show kindAt t (k + 1) = k + 1 by unfold kindAt; rw [hw2, if_pos hbw]]
                exact hN)
              clear hN hZ hw1 hw2 hbw
              go_wp2_with fail
              refine hh.mono ?_
              rintro e w' ⟨rfl, rfl⟩
              clear hh
              go_wp2_with fail
              go_roundw
              case rel => exact ⟨k + 1, by omega, by go_num, HN.out⟩
              case measure => simp [intOf]; omega
            | false =>
              rw [show hasS (.ok u t) w.data.toList = false from hbw] at hh
              have HN := Lib.hid (show ZV wo wr (W.heap.size + 1) s (.ok u t) [(wo.heap.size, .int .i64 ((kindAt t (k + 1) : Nat) : Int) :: restF), (wo.heap.size + 1, wds3)] by
                rw [show kindAt t (k + 1) = kindAt t k by rw [kindAt, hw2, if_neg (by rw [hbw]; decide)]]
                exact hZ)
              clear hZ hw1 hw2 hbw
              go_wp2_with fail
              refine hh.mono ?_
              rintro e w' ⟨rfl, rfl⟩
              clear hh
              go_wp2_with fail
              go_roundw
              case rel => exact ⟨k + 1, by omega, by go_num, HN.out⟩
              case measure => simp [intOf]; omega
          · obtain rfl : k = 3 := by omega
            rw [kind_field] at hZ y0
            have HZ := Lib.hid hZ
            obtain ⟨⟨pl2, hX⟩, -⟩ := hZ.rs
            obtain ⟨lt, c0, c1', c2', c3, c4, c5, c6, fz⟩ := hX
            have x6 := ((HL.out.zv.vc 0 _ _ rfl).2.fq hZ.fq (by have := HL.out.zv.lo 0 rfl; have := HL.out.zv.hlt; omega)).at 6 (by simp)
            clear hk2 hk3
            by_cases hf0 : fieldK t = 0
            · have HC := Lib.hid (show (Res.ok u t).bind (fun _ t => (.bad t.pl 50 : Res Unit)) = chkF nv t by unfold chkF; rw [if_pos hf0]; rfl)
              have m0 : (((fieldK t : Nat) : Int) == 0) = true := by simp [hf0]
              have hc := rfail_any wr _ s (.ok u t) t.pl 50 (by decide) (fun u t' e => by cases e; rfl) hZ.rs
              clear hZ hf0
              go_wp2_with fail
              refine hc.mono ?_
              rintro e w2 ⟨rfl, hF⟩
              have hZ := HZ.out.call hF
              rw [HC.out] at hZ
              have HZ := Lib.hid hZ
              clear hZ hF hc HC lt c0 c1' c2' c3 c4 c5 c6 fz x6 y0 yf
              have hc := rstep_any _ _ s _ hs HZ.out.rs
              go_wp2_with fail
              refine hc.mono ?_
              rintro e w3 ⟨rfl, hF⟩
              have HZ := Lib.hid (HZ.out.call hF).first
              clear hc hF
              have hc := hf w3 _ _ HZ.out.rs
              go_wp2_with fail
              refine hc.mono ?_
              rintro e w4 ⟨p1, τ1, tl1, m1, d1, rfl, hF, hrep⟩
              have hZ := HZ.out.call hF
              have y1 := hZ.at 0 1 rfl rfl
              have y2 := hZ.at 0 2 rfl rfl
              have y3 := hZ.at 0 3 rfl rfl
              have yf := hZ.fz 0 rfl
              have hZ := ((hZ.set1 1 (by simp) (.int .i64 p1)).set1 2 (by simp) (.string τ1)).set1 3 (by simp) (.slice tl1 m1 d1)
              change ZV wo (((w4.setCell ⟨wo.heap.size, 1, none⟩ (.int .i64 p1)).setCell ⟨wo.heap.size, 2, none⟩ (.string τ1)).setCell ⟨wo.heap.size, 3, none⟩ (.slice tl1 m1 d1)) (W.heap.size + 1) s _ [(wo.heap.size, [.int .i64 (fieldK t : Nat), .int .i64 p1, .string τ1, .slice tl1 m1 d1, .int .i64 0, .string ⟨#[]⟩, .slice none 0 0])] at hZ
              have HR1 := Lib.hid hrep
              have HF4 := Lib.hid hF.fq
              have HL3 := Lib.hid (HZ.out.lt 0 rfl)
              have hc := hf _ _ _ hZ.rs
              have HZ := Lib.hid hZ
              clear hF hrep hZ
              go_wp2_with fail
              refine hc.mono ?_
              rintro e w5 ⟨p2, τ2, tl2, m2, d2, rfl, hF, hrep⟩
              have HF5 := Lib.hid hF.fq
              have hZ := HZ.out.call hF
              have y0 := hZ.at 0 0 rfl rfl
              have y1 := hZ.at 0 1 rfl rfl
              have y2 := hZ.at 0 2 rfl rfl
              have y3 := hZ.at 0 3 rfl rfl
              have y4 := hZ.at 0 4 rfl rfl
              have y5 := hZ.at 0 5 rfl rfl
              have y6 := hZ.at 0 6 rfl rfl
              have yf := hZ.fz 0 rfl
              have hZ := ((hZ.set1 4 (by simp) (.int .i64 p2)).set1 5 (by simp) (.string τ2)).set1 6 (by simp) (.slice tl2 m2 d2)
              change ZV wo (((w5.setCell ⟨wo.heap.size, 4, none⟩ (.int .i64 p2)).setCell ⟨wo.heap.size, 5, none⟩ (.string τ2)).setCell ⟨wo.heap.size, 6, none⟩ (.slice tl2 m2 d2)) (W.heap.size + 1) s _ [(wo.heap.size, [.int .i64 (fieldK t : Nat), .int .i64 p1, .string τ1, .slice tl1 m1 d1, .int .i64 p2, .string τ2, .slice tl2 m2 d2])] at hZ
              have x6 := ((HL.out.zv.vc 0 _ _ rfl).2.fq hZ.fq (by have := HL.out.zv.lo 0 rfl; have := HL.out.zv.hlt; omega)).at 6 (by simp)
              have hown := own_alloc' HK.out.own (show W.heap.size + 1 < g + 1 by have := HL.out.zv.lo 0 rfl; have := HL.out.zv.hlt; omega) hZ.fq (.cells #[.int .i64 (fieldK t : Nat), .int .i64 p1, .string τ1, .slice tl1 m1 d1, .int .i64 p2, .string τ2, .slice tl2 m2 d2] 47)
              have hsz : g + 1 ≤ ((((w5.setCell ⟨wo.heap.size, 4, none⟩ (.int .i64 p2)).setCell ⟨wo.heap.size, 5, none⟩ (.string τ2)).setCell ⟨wo.heap.size, 6, none⟩ (.slice tl2 m2 d2)).alloc (.cells #[.int .i64 (fieldK t : Nat), .int .i64 p1, .string τ1, .slice tl1 m1 d1, .int .i64 p2, .string τ2, .slice tl2 m2 d2] 47)).heap.size := by
                have a1 := HL.out.zv.lt 0 rfl
                have a2 := hZ.fq.below.size
                simp only [World.size_alloc, World.size_setCell]
                simp only [World.size_setCell] at a2
                omega
              have HR2 := Lib.hid hrep
              have HZ := Lib.hid hZ
              have few := HL.out.few
              clear hc hF hrep hZ
              go_wp2_with (first
                | (at_builtin; refine wpList_append_lies _ rfl _ _ 27 rfl (g + 1) 47 i0 _ 7 104 Try.underlying27 hi0 hz0 hz1 hz2 rfl (by decide) (.slice slv nv cv) nv _ rfl hown ⟨w5.heap.size, 0, none⟩ 1 1 (cells7 (.int .i64 (fieldK t : Nat), (.int .i64 p1, .string τ1, .slice tl1 m1 d1), (.int .i64 p2, .string τ2, .slice tl2 m2 d2))) rfl rfl ?d1 ?d2 (by decide) ?c3 ?c4 ?c5 (w5.heap.size + 1) ?d6 ?_))
              case d1 => exact World.news_of_block (new_at (by simp) _)
              case d2 =>
                intro u hu
                simp only [cells7, List.mem_cons, List.not_mem_nil, or_false] at hu
                rcases hu with rfl | rfl | rfl | rfl | rfl | rfl | rfl <;> rfl
              case c3 => unfold maxLen; omega
              case c4 => omega
              case c5 => exact hsz
              case d6 => simp
              intro g' cap w6 hown2 hgr hat hlt2
              have hN := HL.out.next hp hk0 rfl rfl HZ.out (p := ⟨p1, τ1, tl1, m1, d1⟩) (q := ⟨p2, τ2, tl2, m2, d2⟩) (rep_one hb0 HL3.out HF5.out HR1.out) (rep_two HL3.out HF4.out.below.size HR2.out) (kd := (fieldK t : Nat)) rfl HK.out HG.out hown2 hgr (by simp only [World.size_setCell]; exact hat)
              have hne : (Value.slice slv nv cv).ownBlock ≠ some g := fun e => by have := HK.out.own.lt g e; omega
              have hv6 := ((HL.out.zv.vc 0 _ _ rfl).2.fq HZ.out.fq (by have := HL.out.zv.lo 0 rfl; have := HL.out.zv.hlt; omega)).block (w1 := w6) (by have := hgr.size; have := HL.out.zv.lt 0 rfl; have := HZ.out.fq.below.size; simp only [World.size_setCell, World.size_alloc] at *; omega)
                ((hgr.block g (by have := HL.out.zv.lt 0 rfl; have := HZ.out.fq.below.size; simp only [World.size_setCell, World.size_alloc] at *; omega) (fun e => hne e.symm)).trans (heap_alloc_old _ _ (by have := HL.out.zv.lt 0 rfl; have := HZ.out.fq.below.size; simp only [World.size_setCell] at *; omega)))
              have v6 := hv6.at 6 (by simp)
              have vf := hv6.fz
              have HN := Lib.hid hN
              clear hN hv6 hne hown2 hgr hat hlt2 hown hsz HZ HK HG HL HR1 HR2 HF4 HF5 HL3 x6 y0 y1 y2 y3 y4 y5 y6 yf
              go_wp2_with fail
              go_roundw
              case rel => exact ⟨_, _, _, HN.out.1⟩
              case measure => exact HN.out.2
            · have m0 : (((fieldK t : Nat) : Int) == 0) = false := by rw [beq_eq_false_iff_ne]; omega
              by_cases h20 : nv = 20
              · have HC := Lib.hid (show (Res.ok u t).bind (fun _ t => (.bad t.pl 13 : Res Unit)) = chkF nv t by unfold chkF; rw [if_neg hf0, if_pos h20]; rfl)
                have j20 : ((nv : Int) == 20) = true := by simp [h20]
                have hc := rfail_any wr _ s (.ok u t) t.pl 13 (by decide) (fun u t' e => by cases e; rfl) hZ.rs
                clear hZ hf0 h20
                go_wp2_with fail
                refine hc.mono ?_
                rintro e w2 ⟨rfl, hF⟩
                have hZ := HZ.out.call hF
                rw [HC.out] at hZ
                have HZ := Lib.hid hZ
                clear j20 hZ hF hc HC lt c0 c1' c2' c3 c4 c5 c6 fz x6 y0 yf
                have hc := rstep_any _ _ s _ hs HZ.out.rs
                go_wp2_with fail
                refine hc.mono ?_
                rintro e w3 ⟨rfl, hF⟩
                have HZ := Lib.hid (HZ.out.call hF).first
                clear hc hF
                have hc := hf w3 _ _ HZ.out.rs
                go_wp2_with fail
                refine hc.mono ?_
                rintro e w4 ⟨p1, τ1, tl1, m1, d1, rfl, hF, hrep⟩
                have hZ := HZ.out.call hF
                have y1 := hZ.at 0 1 rfl rfl
                have y2 := hZ.at 0 2 rfl rfl
                have y3 := hZ.at 0 3 rfl rfl
                have yf := hZ.fz 0 rfl
                have hZ := ((hZ.set1 1 (by simp) (.int .i64 p1)).set1 2 (by simp) (.string τ1)).set1 3 (by simp) (.slice tl1 m1 d1)
                change ZV wo (((w4.setCell ⟨wo.heap.size, 1, none⟩ (.int .i64 p1)).setCell ⟨wo.heap.size, 2, none⟩ (.string τ1)).setCell ⟨wo.heap.size, 3, none⟩ (.slice tl1 m1 d1)) (W.heap.size + 1) s _ [(wo.heap.size, [.int .i64 (fieldK t : Nat), .int .i64 p1, .string τ1, .slice tl1 m1 d1, .int .i64 0, .string ⟨#[]⟩, .slice none 0 0])] at hZ
                have HR1 := Lib.hid hrep
                have HF4 := Lib.hid hF.fq
                have HL3 := Lib.hid (HZ.out.lt 0 rfl)
                have hc := hf _ _ _ hZ.rs
                have HZ := Lib.hid hZ
                clear hF hrep hZ
                go_wp2_with fail
                refine hc.mono ?_
                rintro e w5 ⟨p2, τ2, tl2, m2, d2, rfl, hF, hrep⟩
                have HF5 := Lib.hid hF.fq
                have hZ := HZ.out.call hF
                have y0 := hZ.at 0 0 rfl rfl
                have y1 := hZ.at 0 1 rfl rfl
                have y2 := hZ.at 0 2 rfl rfl
                have y3 := hZ.at 0 3 rfl rfl
                have y4 := hZ.at 0 4 rfl rfl
                have y5 := hZ.at 0 5 rfl rfl
                have y6 := hZ.at 0 6 rfl rfl
                have yf := hZ.fz 0 rfl
                have hZ := ((hZ.set1 4 (by simp) (.int .i64 p2)).set1 5 (by simp) (.string τ2)).set1 6 (by simp) (.slice tl2 m2 d2)
                change ZV wo (((w5.setCell ⟨wo.heap.size, 4, none⟩ (.int .i64 p2)).setCell ⟨wo.heap.size, 5, none⟩ (.string τ2)).setCell ⟨wo.heap.size, 6, none⟩ (.slice tl2 m2 d2)) (W.heap.size + 1) s _ [(wo.heap.size, [.int .i64 (fieldK t : Nat), .int .i64 p1, .string τ1, .slice tl1 m1 d1, .int .i64 p2, .string τ2, .slice tl2 m2 d2])] at hZ
                have x6 := ((HL.out.zv.vc 0 _ _ rfl).2.fq hZ.fq (by have := HL.out.zv.lo 0 rfl; have := HL.out.zv.hlt; omega)).at 6 (by simp)
                have hown := own_alloc' HK.out.own (show W.heap.size + 1 < g + 1 by have := HL.out.zv.lo 0 rfl; have := HL.out.zv.hlt; omega) hZ.fq (.cells #[.int .i64 (fieldK t : Nat), .int .i64 p1, .string τ1, .slice tl1 m1 d1, .int .i64 p2, .string τ2, .slice tl2 m2 d2] 47)
                have hsz : g + 1 ≤ ((((w5.setCell ⟨wo.heap.size, 4, none⟩ (.int .i64 p2)).setCell ⟨wo.heap.size, 5, none⟩ (.string τ2)).setCell ⟨wo.heap.size, 6, none⟩ (.slice tl2 m2 d2)).alloc (.cells #[.int .i64 (fieldK t : Nat), .int .i64 p1, .string τ1, .slice tl1 m1 d1, .int .i64 p2, .string τ2, .slice tl2 m2 d2] 47)).heap.size := by
                  have a1 := HL.out.zv.lt 0 rfl
                  have a2 := hZ.fq.below.size
                  simp only [World.size_alloc, World.size_setCell]
                  simp only [World.size_setCell] at a2
                  omega
                have HR2 := Lib.hid hrep
                have HZ := Lib.hid hZ
                have few := HL.out.few
                clear hc hF hrep hZ
                go_wp2_with (first
                  | (at_builtin; refine wpList_append_lies _ rfl _ _ 27 rfl (g + 1) 47 i0 _ 7 104 Try.underlying27 hi0 hz0 hz1 hz2 rfl (by decide) (.slice slv nv cv) nv _ rfl hown ⟨w5.heap.size, 0, none⟩ 1 1 (cells7 (.int .i64 (fieldK t : Nat), (.int .i64 p1, .string τ1, .slice tl1 m1 d1), (.int .i64 p2, .string τ2, .slice tl2 m2 d2))) rfl rfl ?d1 ?d2 (by decide) ?c3 ?c4 ?c5 (w5.heap.size + 1) ?d6 ?_))
                case d1 => exact World.news_of_block (new_at (by simp) _)
                case d2 =>
                  intro u hu
                  simp only [cells7, List.mem_cons, List.not_mem_nil, or_false] at hu
                  rcases hu with rfl | rfl | rfl | rfl | rfl | rfl | rfl <;> rfl
                case c3 => unfold maxLen; omega
                case c4 => omega
                case c5 => exact hsz
                case d6 => simp
                intro g' cap w6 hown2 hgr hat hlt2
                have hN := HL.out.next hp hk0 rfl rfl HZ.out (p := ⟨p1, τ1, tl1, m1, d1⟩) (q := ⟨p2, τ2, tl2, m2, d2⟩) (rep_one hb0 HL3.out HF5.out HR1.out) (rep_two HL3.out HF4.out.below.size HR2.out) (kd := (fieldK t : Nat)) rfl HK.out HG.out hown2 hgr (by simp only [World.size_setCell]; exact hat)
                have hne : (Value.slice slv nv cv).ownBlock ≠ some g := fun e => by have := HK.out.own.lt g e; omega
                have hv6 := ((HL.out.zv.vc 0 _ _ rfl).2.fq HZ.out.fq (by have := HL.out.zv.lo 0 rfl; have := HL.out.zv.hlt; omega)).block (w1 := w6) (by have := hgr.size; have := HL.out.zv.lt 0 rfl; have := HZ.out.fq.below.size; simp only [World.size_setCell, World.size_alloc] at *; omega)
                  ((hgr.block g (by have := HL.out.zv.lt 0 rfl; have := HZ.out.fq.below.size; simp only [World.size_setCell, World.size_alloc] at *; omega) (fun e => hne e.symm)).trans (heap_alloc_old _ _ (by have := HL.out.zv.lt 0 rfl; have := HZ.out.fq.below.size; simp only [World.size_setCell] at *; omega)))
                have v6 := hv6.at 6 (by simp)
                have vf := hv6.fz
                have HN := Lib.hid hN
                clear hN hv6 hne hown2 hgr hat hlt2 hown hsz HZ HK HG HL HR1 HR2 HF4 HF5 HL3 x6 y0 y1 y2 y3 y4 y5 y6 yf
                go_wp2_with fail
                go_roundw
                case rel => exact ⟨_, _, _, HN.out.1⟩
                case measure => exact HN.out.2
              · have HC := Lib.hid (show Res.ok u t = chkF nv t by unfold chkF; rw [if_neg hf0, if_neg h20])
                have j20 : ((nv : Int) == 20) = false := by rw [beq_eq_false_iff_ne]; omega
                rw [HC.out] at hZ
                have HZ := Lib.hid hZ
                clear hZ hf0 h20 HC
                have hc := rstep_any _ _ s _ hs HZ.out.rs
                go_wp2_with fail
                refine hc.mono ?_
                rintro e w3 ⟨rfl, hF⟩
                have HZ := Lib.hid (HZ.out.call hF).first
                clear hc hF
                have hc := hf w3 _ _ HZ.out.rs
                go_wp2_with fail
                refine hc.mono ?_
                rintro e w4 ⟨p1, τ1, tl1, m1, d1, rfl, hF, hrep⟩
                have hZ := HZ.out.call hF
                have y1 := hZ.at 0 1 rfl rfl
                have y2 := hZ.at 0 2 rfl rfl
                have y3 := hZ.at 0 3 rfl rfl
                have yf := hZ.fz 0 rfl
                have hZ := ((hZ.set1 1 (by simp) (.int .i64 p1)).set1 2 (by simp) (.string τ1)).set1 3 (by simp) (.slice tl1 m1 d1)
                change ZV wo (((w4.setCell ⟨wo.heap.size, 1, none⟩ (.int .i64 p1)).setCell ⟨wo.heap.size, 2, none⟩ (.string τ1)).setCell ⟨wo.heap.size, 3, none⟩ (.slice tl1 m1 d1)) (W.heap.size + 1) s _ [(wo.heap.size, [.int .i64 (fieldK t : Nat), .int .i64 p1, .string τ1, .slice tl1 m1 d1, .int .i64 0, .string ⟨#[]⟩, .slice none 0 0])] at hZ
                have HR1 := Lib.hid hrep
                have HF4 := Lib.hid hF.fq
                have HL3 := Lib.hid (HZ.out.lt 0 rfl)
                have hc := hf _ _ _ hZ.rs
                have HZ := Lib.hid hZ
                clear hF hrep hZ
                go_wp2_with fail
                refine hc.mono ?_
                rintro e w5 ⟨p2, τ2, tl2, m2, d2, rfl, hF, hrep⟩
                have HF5 := Lib.hid hF.fq
                have hZ := HZ.out.call hF
                have y0 := hZ.at 0 0 rfl rfl
                have y1 := hZ.at 0 1 rfl rfl
                have y2 := hZ.at 0 2 rfl rfl
                have y3 := hZ.at 0 3 rfl rfl
                have y4 := hZ.at 0 4 rfl rfl
                have y5 := hZ.at 0 5 rfl rfl
                have y6 := hZ.at 0 6 rfl rfl
                have yf := hZ.fz 0 rfl
                have hZ := ((hZ.set1 4 (by simp) (.int .i64 p2)).set1 5 (by simp) (.string τ2)).set1 6 (by simp) (.slice tl2 m2 d2)
                change ZV wo (((w5.setCell ⟨wo.heap.size, 4, none⟩ (.int .i64 p2)).setCell ⟨wo.heap.size, 5, none⟩ (.string τ2)).setCell ⟨wo.heap.size, 6, none⟩ (.slice tl2 m2 d2)) (W.heap.size + 1) s _ [(wo.heap.size, [.int .i64 (fieldK t : Nat), .int .i64 p1, .string τ1, .slice tl1 m1 d1, .int .i64 p2, .string τ2, .slice tl2 m2 d2])] at hZ
                have x6 := ((HL.out.zv.vc 0 _ _ rfl).2.fq hZ.fq (by have := HL.out.zv.lo 0 rfl; have := HL.out.zv.hlt; omega)).at 6 (by simp)
                have hown := own_alloc' HK.out.own (show W.heap.size + 1 < g + 1 by have := HL.out.zv.lo 0 rfl; have := HL.out.zv.hlt; omega) hZ.fq (.cells #[.int .i64 (fieldK t : Nat), .int .i64 p1, .string τ1, .slice tl1 m1 d1, .int .i64 p2, .string τ2, .slice tl2 m2 d2] 47)
                have hsz : g + 1 ≤ ((((w5.setCell ⟨wo.heap.size, 4, none⟩ (.int .i64 p2)).setCell ⟨wo.heap.size, 5, none⟩ (.string τ2)).setCell ⟨wo.heap.size, 6, none⟩ (.slice tl2 m2 d2)).alloc (.cells #[.int .i64 (fieldK t : Nat), .int .i64 p1, .string τ1, .slice tl1 m1 d1, .int .i64 p2, .string τ2, .slice tl2 m2 d2] 47)).heap.size := by
                  have a1 := HL.out.zv.lt 0 rfl
                  have a2 := hZ.fq.below.size
                  simp only [World.size_alloc, World.size_setCell]
                  simp only [World.size_setCell] at a2
                  omega
                have HR2 := Lib.hid hrep
                have HZ := Lib.hid hZ
                have few := HL.out.few
                clear hc hF hrep hZ
                go_wp2_with (first
                  | (at_builtin; refine wpList_append_lies _ rfl _ _ 27 rfl (g + 1) 47 i0 _ 7 104 Try.underlying27 hi0 hz0 hz1 hz2 rfl (by decide) (.slice slv nv cv) nv _ rfl hown ⟨w5.heap.size, 0, none⟩ 1 1 (cells7 (.int .i64 (fieldK t : Nat), (.int .i64 p1, .string τ1, .slice tl1 m1 d1), (.int .i64 p2, .string τ2, .slice tl2 m2 d2))) rfl rfl ?d1 ?d2 (by decide) ?c3 ?c4 ?c5 (w5.heap.size + 1) ?d6 ?_))
                case d1 => exact World.news_of_block (new_at (by simp) _)
                case d2 =>
                  intro u hu
                  simp only [cells7, List.mem_cons, List.not_mem_nil, or_false] at hu
                  rcases hu with rfl | rfl | rfl | rfl | rfl | rfl | rfl <;> rfl
                case c3 => unfold maxLen; omega
                case c4 => omega
                case c5 => exact hsz
                case d6 => simp
                intro g' cap w6 hown2 hgr hat hlt2
                have hN := HL.out.next hp hk0 rfl rfl HZ.out (p := ⟨p1, τ1, tl1, m1, d1⟩) (q := ⟨p2, τ2, tl2, m2, d2⟩) (rep_one hb0 HL3.out HF5.out HR1.out) (rep_two HL3.out HF4.out.below.size HR2.out) (kd := (fieldK t : Nat)) rfl HK.out HG.out hown2 hgr (by simp only [World.size_setCell]; exact hat)
                have hne : (Value.slice slv nv cv).ownBlock ≠ some g := fun e => by have := HK.out.own.lt g e; omega
                have hv6 := ((HL.out.zv.vc 0 _ _ rfl).2.fq HZ.out.fq (by have := HL.out.zv.lo 0 rfl; have := HL.out.zv.hlt; omega)).block (w1 := w6) (by have := hgr.size; have := HL.out.zv.lt 0 rfl; have := HZ.out.fq.below.size; simp only [World.size_setCell, World.size_alloc] at *; omega)
                  ((hgr.block g (by have := HL.out.zv.lt 0 rfl; have := HZ.out.fq.below.size; simp only [World.size_setCell, World.size_alloc] at *; omega) (fun e => hne e.symm)).trans (heap_alloc_old _ _ (by have := HL.out.zv.lt 0 rfl; have := HZ.out.fq.below.size; simp only [World.size_setCell] at *; omega)))
                have v6 := hv6.at 6 (by simp)
                have vf := hv6.fz
                have HN := Lib.hid hN
                clear hN hv6 hne hown2 hgr hat hlt2 hown hsz HZ HK HG HL HR1 HR2 HF4 HF5 HL3 x6 y0 y1 y2 y3 y4 y5 y6 yf
                go_wp2_with fail
                go_roundw
                case rel => exact ⟨_, _, _, HN.out.1⟩
                case measure => exact HN.out.2

end Rc
end Go.Proofs.Ytcigggffaofkhaa
