/-
  The law EvalSums.
-/
import Derived.Test.YtflhmoelenmomaaGreatDoorMEvLA
namespace Go.Proofs.YtflhmoelenmomaaGreatDoor
open Go.RowKit Go.Lib
namespace Ev
open Rc

theorem info_expr : (Tryz.prog.info? 24).map (fun i => (i.zero, i.size, i.bytes)) = some (some (.agg #[.int .i64 0, .string ⟨#[]⟩, .slice none 0 0]), 3, 48) := by kernel_rfl
/-- three cells a kid -/
def row3 (x y z : Nat → Value) (n : Nat) : List Value := (List.range n).flatMap fun i => [x i, y i, z i]
theorem row3_len (x y z : Nat → Value) : ∀ n, (row3 x y z n).length = n * 3
  | 0 => rfl
  | n + 1 => by
    have := row3_len x y z n
    unfold row3 at *
    rw [List.range_succ, List.flatMap_append, List.length_append, this]
    simp
    omega
theorem row3_at (x y z : Nat → Value) : ∀ (n i : Nat), i < n → (row3 x y z n)[i * 3]? = some (x i) ∧ (row3 x y z n)[i * 3 + 1]? = some (y i) ∧ (row3 x y z n)[i * 3 + 2]? = some (z i)
  | 0, i, h => by omega
  | n + 1, i, h => by
    have hl := row3_len x y z n
    have e : row3 x y z (n + 1) = row3 x y z n ++ [x n, y n, z n] := by
      unfold row3
      rw [List.range_succ, List.flatMap_append]
      simp
    rw [e]
    by_cases hi : i < n
    · obtain ⟨h1, h2, h3⟩ := row3_at x y z n i hi
      rw [List.getElem?_append_left (by omega), List.getElem?_append_left (by omega), List.getElem?_append_left (by omega)]
      exact ⟨h1, h2, h3⟩
    · obtain rfl : i = n := by omega
      rw [List.getElem?_append_right (by omega), List.getElem?_append_right (by omega), List.getElem?_append_right (by omega), hl]
      rw [show i * 3 - i * 3 = 0 by omega, show i * 3 + 1 - i * 3 = 1 by omega, show i * 3 + 2 - i * 3 = 2 by omega]
      exact ⟨rfl, rfl, rfl⟩
/-- what the cells at j of three a kid are -/
theorem row3_get (x y z : Nat → Value) (n j : Nat) (u : Value) (h : (row3 x y z n)[j]? = some u) : ∃ i, i < n ∧ ((j = i * 3 ∧ u = x i) ∨ (j = i * 3 + 1 ∧ u = y i) ∨ (j = i * 3 + 2 ∧ u = z i)) := by
  have hj : j < n * 3 := by have := (List.getElem?_eq_some_iff.1 h).1; rwa [row3_len] at this
  have hi : j / 3 < n := by omega
  obtain ⟨h1, h2, h3⟩ := row3_at x y z n (j / 3) hi
  have hm : j % 3 = 0 ∨ j % 3 = 1 ∨ j % 3 = 2 := by omega
  rcases hm with hm | hm | hm
  · rw [show j / 3 * 3 = j by omega, h] at h1
    exact ⟨j / 3, hi, .inl ⟨by omega, by simpa using h1⟩⟩
  · rw [show j / 3 * 3 + 1 = j by omega, h] at h2
    exact ⟨j / 3, hi, .inr (.inl ⟨by omega, by simpa using h2⟩)⟩
  · rw [show j / 3 * 3 + 2 = j by omega, h] at h3
    exact ⟨j / 3, hi, .inr (.inr ⟨by omega, by simpa using h3⟩)⟩
theorem weighs_sz (ks : List E) (m : Int) (h : 0 ≤ weighs ks m 0) : weighs ks m 0 + sizeWs ks ≤ m := (weighs_le ks (fun x _ => weigh_le x) m 0).2 h
set_option maxHeartbeats 8000000 in
set_option maxRecDepth 100000 in
theorem sumslaw_any {ks : List E} {v : Value} (hx : Sml (.mk 3 ⟨#[]⟩ ks)) (W : World) (hr : RepX W (fun b => b < W.heap.size) (.mk 3 ⟨#[]⟩ ks) (.agg #[.int .i64 3, .string ⟨#[]⟩, v])) (hE : Vs.Env W) :
    Calls Tryz.prog 5 #[v] W fun e W' => e = .returned (.bool true) ∧ Below W.heap.size W W' := by
  obtain ⟨i0, hi0, hz0, hz1, hz2⟩ := info_ps info_expr
  have hkids : ∀ u ∈ ks, Sml u := by cases hx with | mk _ _ _ _ _ _ _ h => exact h
  have hnl : ks.length ≤ 140737488355328 := by cases hx with | mk _ _ _ _ _ _ h _ => exact h
  cases hr with
  | mk _ _ _ sl cap x1 y1 z1 hcap hc hrk =>
  have hal := alive_any W hE
  have HK := Lib.hid hkids
  have HC := Lib.hid hc
  have HR := Lib.hid hrk
  have HX := Lib.hid hx
  have HRX := Lib.hid (RepX.mk (W := W) (S := fun b => b < W.heap.size) 3 ⟨#[]⟩ ks sl cap x1 y1 z1 hcap hc hrk)
  clear hkids hc hrk hE hx
  have hB := Below.refl W.heap.size W
  go_enter Tryz.func5, Tryz.ntmps5
  go_wp2_with (first
    | (go_at_call 10; with_reducible refine hal.mono ?_; rintro e w1 ⟨he, hb1⟩; subst he; replace hB := hB.trans (hb1.mono hB.size); clear hb1 hal))
  go_loopw [3, 4] (fun l i wr => ∃ (k : Nat) (left : Int), k ≤ ks.length ∧ i = .int .i64 (k : Int) ∧ l = .int .i64 left ∧ -1000000000000000000 ≤ left ∧ left ≤ 8192 ∧ weighs (ks.drop k) left 0 = weighs ks 8192 0 ∧ Below W.heap.size W wr) (fun _ i _ => ks.length - (RowKit.intOf i).toNat)
  case atStart => exact ⟨0, 8192, Nat.zero_le _, rfl, rfl, by decide, by decide, rfl, hB⟩
  case round =>
    obtain ⟨k, left, hk, rfl, rfl, hl1, hl2, hwg, hb⟩ := hrel
    by_cases hlt : k < ks.length
    · by_cases hneg : left < 0
      · have hfin : weighs ks 8192 0 = left := by rw [← hwg, weighs_neg hneg]
        clear hwg hfin
        go_wp2_with fail
        go_ret
        exact ⟨rfl, hb⟩
      · obtain ⟨u, hu⟩ : ∃ u, ks[k]? = some u := ⟨ks[k], List.getElem?_eq_getElem hlt⟩
        obtain ⟨b, o, e1, hSb, d0, d1, d2⟩ := HC.out k u hu
        subst e1
        have hru := HR.out k u hu
        obtain ⟨kd, σ, sl', m', cap', hv⟩ := hru.vals
        have hv1 := congrArg (fun v => match v with | .agg a => a.toList | _ => []) hv
        simp at hv1
        obtain ⟨hx1, hy1, hz1'⟩ := hv1
        rw [hv] at hru
        rw [hx1] at d0
        rw [hy1] at d1
        rw [hz1'] at d2
        have hbl : b < W.heap.size := hSb
        have g0 := (hb.cell (p := ⟨b, o + k * 3, none⟩) hbl).trans d0
        have g1 := (hb.cell (p := ⟨b, o + k * 3 + 1, none⟩) hbl).trans d1
        have g2 := (hb.cell (p := ⟨b, o + k * 3 + 2, none⟩) hbl).trans d2
        have hq := weigh_any (HK.out u (List.mem_of_getElem? hu)) wr (fun b => b < W.heap.size) _ left hl1 (by omega) (fun k hk => Nat.lt_of_lt_of_le hk hb.size) (hru.move fun b hb' => ⟨hb', hb.block b hb'⟩)
        have hw3 := (weigh_le u left 0).1
        have hw4 := weigh_ge (HK.out u (List.mem_of_getElem? hu)) left 0
        have hwg2 : weighs (ks.drop (k + 1)) (weigh u left 0) 0 = weighs ks 8192 0 := by rw [← weighs_at hu hneg]; exact hwg
        have HG := Lib.hid (And.intro hwg2 (And.intro hw3 hw4))
        clear hwg hwg2 hw3 hw4 hru hu d0 d1 d2 hv hx1 hy1 hz1' hSb
        go_wp2_with (go_at_call 11; refine hq.mono ?_; rintro e w3 ⟨he, hb3⟩; subst he)
        refine ⟨⟨k + 1, _, hlt, by push_cast; rfl, rfl, ?_, ?_, HG.out.1, hb.trans (hb3.mono hb.size)⟩, ?_⟩
        · have := HG.out.2.2; omega
        · have := HG.out.2.1; omega
        · simp only [RowKit.intOf]
          omega
    · obtain rfl : k = ks.length := by omega
      rw [List.drop_length, weighs] at hwg
      by_cases hneg : left < 0
      · clear hwg
        go_wp2_with fail
        go_ret
        exact ⟨rfl, hb⟩
      by_cases h2 : ks.length < 2
      · clear hwg
        go_wp2_with fail
        go_ret
        exact ⟨rfl, hb⟩
      by_cases h20 : 20 < ks.length
      · clear hwg
        go_wp2_with fail
        go_ret
        exact ⟨rfl, hb⟩
      have hszs := weighs_sz ks 8192 (by omega)
      obtain ⟨u0, hu0⟩ : ∃ u, ks[0]? = some u := ⟨ks[0], List.getElem?_eq_getElem (by omega)⟩
      obtain ⟨bb, o, e1, hSb, -, -, -⟩ := HC.out 0 u0 hu0
      subst e1
      have hSz : sizeW (.mk 3 ⟨#[]⟩ ks) ≤ 20000 := by rw [sizeW]; show 1 + 0 + sizeWs ks ≤ 20000; omega
      have hcell : ∀ j u, (row3 x1 y1 z1 ks.length)[j]? = some u → wr.cell? ((⟨bb, o, none⟩ : Addr).add j) = some u := fun j u hu => by
        obtain ⟨i, hi, hor⟩ := row3_get _ _ _ _ _ _ hu
        obtain ⟨w, hw⟩ : ∃ w, ks[i]? = some w := ⟨ks[i], List.getElem?_eq_getElem hi⟩
        obtain ⟨b', o', e', hb', c0, c1, c2⟩ := HC.out i w hw
        cases e'
        have hadd : ∀ n, (⟨bb, o, none⟩ : Addr).add n = ⟨bb, o + n, none⟩ := fun n => by unfold Addr.add; split <;> simp_all
        rw [hadd]
        rcases hor with ⟨rfl, rfl⟩ | ⟨rfl, rfl⟩ | ⟨rfl, rfl⟩
        · exact (hb.cell (p := ⟨bb, _, none⟩) hSb).trans c0
        · exact (hb.cell (p := ⟨bb, _, none⟩) hSb).trans c1
        · exact (hb.cell (p := ⟨bb, _, none⟩) hSb).trans c2
      have hone : ∀ u ∈ row3 x1 y1 z1 ks.length, u.oneCell' = true := fun u hu => by
        obtain ⟨j, hj⟩ := List.getElem?_of_mem hu
        obtain ⟨i, hi, hor⟩ := row3_get _ _ _ _ _ _ hj
        obtain ⟨w, hw⟩ : ∃ w, ks[i]? = some w := ⟨ks[i], List.getElem?_eq_getElem hi⟩
        obtain ⟨o1, o2, o3⟩ := (HR.out i w hw).one
        rcases hor with ⟨-, rfl⟩ | ⟨-, rfl⟩ | ⟨-, rfl⟩
        · exact o1
        · exact o2
        · exact o3
      have hA := hb.alloc hb.size (.cells #[] 24)
      have hcell2 : ∀ j u, (row3 x1 y1 z1 ks.length)[j]? = some u → (wr.alloc (.cells #[] 24)).cell? ((⟨bb, o, none⟩ : Addr).add j) = some u := fun j u hu => by
        have h := hcell j u hu
        have hadd : ∀ n, (⟨bb, o, none⟩ : Addr).add n = ⟨bb, o + n, none⟩ := fun n => by unfold Addr.add; split <;> simp_all
        rw [hadd] at h ⊢
        exact (((Below.refl wr.heap.size wr).alloc (Nat.le_refl _) (.cells #[] 24)).cell (p := ⟨bb, o + j, none⟩) (Nat.lt_of_lt_of_le hSb hb.size)).trans h
      have hown := World.ownsRow_lit (base := W.heap.size) (e := 24) (size := 3) wr #[] 0 hb.size (by unfold maxLen; omega) rfl
      have HH := Lib.hid (And.intro hcell2 (And.intro hone hown))
      have HW := Lib.hid (And.intro hszs hSz)
      clear hwg hszs hcell hcell2 hone hown hu0 hSz
      go_wp2_with (first
        | (at_builtin; refine wpList_append_lies _ rfl _ _ 22 rfl W.heap.size 24 i0 _ 3 48 Tryz.underlying22 hi0 hz0 hz1 hz2 rfl (by decide) (.slice (some ⟨wr.heap.size, 0, none⟩) 0 0) 0 [] rfl HH.out.2.2 ⟨bb, o, none⟩ ks.length cap (row3 x1 y1 z1 ks.length) rfl (row3_len _ _ _ _) HH.out.1 HH.out.2.1 (by omega) ?c3 ?c4 ?c5 (wr.heap.size + 1) (by simp) ?_))
      case c3 => unfold maxLen; omega
      case c4 => omega
      case c5 => have := hb.size; omega
      intro g cap2 w4 hown2 hgr hat hlt2
      have hb4 : Below W.heap.size W w4 := hA.grown hgr (by have := hb.size; simp; omega) (fun k e => by cases e; exact hb.size)
      have hcap2 : ks.length ≤ cap2 := by have := own_cap hown2; omega
      have hrep : RepX w4 (fun b => b < w4.heap.size) (.mk 3 ⟨#[]⟩ ks) (.agg #[.int .i64 3, .string ⟨#[]⟩, .slice (some ⟨g, 0, none⟩) ks.length cap2]) := by
        refine .mk 3 ⟨#[]⟩ ks (some ⟨g, 0, none⟩) cap2 x1 y1 z1 hcap2 (fun i u hu => ?_) (fun i u hu => (HR.out i u hu).move fun b hb' => ⟨Nat.lt_of_lt_of_le hb' hb4.size, hb4.block b hb'⟩)
        have hi := (List.getElem?_eq_some_iff.1 hu).1
        obtain ⟨h1, h2, h3⟩ := row3_at x1 y1 z1 ks.length i hi
        have hadd : ∀ n, (⟨g, 0, none⟩ : Addr).add n = ⟨g, n, none⟩ := fun n => by unfold Addr.add; split <;> simp_all
        have k1 := hown2.cells (g := g) rfl _ _ h1
        have k2 := hown2.cells (g := g) rfl _ _ h2
        have k3 := hown2.cells (g := g) rfl _ _ h3
        rw [hadd] at k1 k2 k3
        exact ⟨g, 0, rfl, hlt2, by rw [Nat.zero_add]; exact k1, by rw [Nat.zero_add]; exact k2, by rw [Nat.zero_add]; exact k3⟩
      have hA5 := (Below.refl w4.heap.size w4).alloc (Nat.le_refl _) (.cells #[.int .i64 3, .string ⟨#[]⟩, .slice (some ⟨g, 0, none⟩) ks.length cap2] 24)
      have hX5 := heap_alloc_new w4 (.cells #[.int .i64 3, .string ⟨#[]⟩, .slice (some ⟨g, 0, none⟩) ks.length cap2] 24)
      have HS := Lib.hid (fun (w : World) (h : Below w4.heap.size w4 w) => hrep.move (W' := w) (S' := fun b => b < w4.heap.size) fun k hk => ⟨hk, h.block k hk⟩)
      have hgood := good_any HX.out HW.out.2 _ (fun b => b < w4.heap.size) _ (fun k hk => Nat.lt_of_lt_of_le hk hA5.size) (HS.out _ hA5)
      obtain ⟨c0, c1, c2, -, -, -⟩ := obj3 hX5
      have hB5 := hb4.trans (hA5.mono hb4.size)
      clear hown2 hgr hat hlt2 hA hrep HH
      cases hgd : goodE (.mk 3 ⟨#[]⟩ ks) with
      | false =>
        rw [hgd] at hgood
        clear hgd
        go_wp2_with (first
          | (go_at_call 17; with_reducible refine hgood.mono ?_; rintro e w6 ⟨he, hb6⟩; subst he; replace hB5 := hB5.trans (hb6.mono hB5.size); clear hb6))
        go_ret
        exact ⟨rfl, hB5⟩
      | true =>
        rw [hgd] at hgood
        have hev := eval_ans hgd
        have hks := good_kids hgd
        have HEV := Lib.hid (fun (w : World) (h : Below w4.heap.size w4 w) => eval_any HX.out HW.out.2 w (fun b => b < w4.heap.size) _ (fun k hk => Nat.lt_of_lt_of_le hk h.size) (HS.out w h))
        unfold evalV at HEV
        rw [hev] at HEV
        have hsi := SumI.new ⟨#[]⟩ ks
        generalize mean (.mk 3 ⟨#[]⟩ ks) [] 0 = X at *
        have HSI := Lib.hid hsi
        have HGK := Lib.hid hks
        have hsmall : (ans X).1.size ≤ 256 := by have := (eval_bounds (.mk 3 ⟨#[]⟩ ks)).2; rw [hev] at this; exact this
        clear hgd hev hsi hks
        go_wp2_with (first
          | (go_at_call 17; with_reducible refine hgood.mono ?_; rintro e w6 ⟨he, hb6⟩; subst he; have hB6 := hA5.trans (hb6.mono hA5.size); replace hB5 := hB5.trans (hb6.mono hB5.size); have hX6 := (hb6.block w4.heap.size (by simp)).trans hX5; clear c0 c1 c2; obtain ⟨c0, c1, c2, -, -, -⟩ := obj3 hX6; clear hb6)
          | (go_at_call 12; with_reducible refine (HEV.out _ hB6).mono ?_; rintro e w7 ⟨he, hb7⟩; subst he; have hB7 := hb4.trans ((hB6.trans (hb7.mono hB6.size)).mono hb4.size); clear hb7))
        clear c0 c1 c2 hX6 hX5 hA5 hB6 hB5 HEV HS hgood hb4 hb
        go_loopw [9, 10, 61] (fun wv bg i wr2 => ∃ (k begun : Nat) (want : ByteArray), k ≤ ks.length ∧ i = .int .i64 (k : Int) ∧ bg = .int .i64 (begun : Int) ∧ wv = .string want ∧ SumI X (ks.drop k) begun want ∧ begun ≤ 1 + 1000 * k ∧ want.size ≤ 256 * k ∧ Below W.heap.size W wr2) (fun _ _ i _ => ks.length - (RowKit.intOf i).toNat)
        case atStart => exact ⟨0, 1, ⟨#[]⟩, Nat.zero_le _, rfl, rfl, rfl, HSI.out, by omega, by decide, hB7⟩
        case round =>

          obtain ⟨k, begun, want, hk, rfl, rfl, rfl, hsum, hbg, hws, hb⟩ := hrel
          by_cases hlt : k < ks.length
          · obtain ⟨u, hu⟩ : ∃ u, ks[k]? = some u := ⟨ks[k], List.getElem?_eq_getElem hlt⟩
            obtain ⟨b, o', e1, hSb2, d0, d1, d2⟩ := HC.out k u hu
            cases e1
            have hru := HR.out k u hu
            obtain ⟨kd, σ, sl', m', cap', hv⟩ := hru.vals
            have hv1 := congrArg (fun v => match v with | .agg a => a.toList | _ => []) hv
            simp at hv1
            obtain ⟨hx1, hy1, hz1'⟩ := hv1
            rw [hv] at hru
            rw [hx1] at d0
            rw [hy1] at d1
            rw [hz1'] at d2
            have g0 := (hb.cell (p := ⟨bb, o + k * 3, none⟩) hSb).trans d0
            have g1 := (hb.cell (p := ⟨bb, o + k * 3 + 1, none⟩) hSb).trans d1
            have g2 := (hb.cell (p := ⟨bb, o + k * 3 + 2, none⟩) hSb).trans d2
            have hmem := List.mem_of_getElem? hu
            have hb3 := hb.alloc hb.size (.cells #[.int .i64 kd, .string σ, .slice sl' m' cap'] 24)
            have hq := eval_any (HK.out u hmem) (Nat.le_trans (sizeW_kid (k := 3) (s := ⟨#[]⟩) hmem) HW.out.2) (wr.alloc (.cells #[.int .i64 kd, .string σ, .slice sl' m' cap'] 24)) (fun b => b < W.heap.size) _ (fun k hk => Nat.lt_of_lt_of_le hk hb3.size) (hru.move fun b hb' => ⟨hb', hb3.block b hb'⟩)
            unfold evalV at hq
            rw [eval_ans (HGK.out u hmem)] at hq
            have hdr : ks.drop k = u :: ks.drop (k + 1) := by
              obtain ⟨h1, h2⟩ := List.getElem?_eq_some_iff.1 hu
              rw [List.drop_eq_getElem_cons h1, h2]
            rw [hdr] at hsum
            have hrg := mean_rg u [] 0 (by decide)
            cases hmu : mean u [] 0 with
            | bad m f =>
              have hnz := hsum.bad hmu
              have hf := mean_er u [] 0 m f hmu
              rw [hmu] at hq
              simp only [ans] at hq
              have j1 : (f == 0) = false := beq_eq_false_iff_ne.2 (by omega)
              have j2 : ((ans X).2.2 != 0) = true := by simpa using hnz
              rw [hmu] at hrg
              have hm1 : m ≤ 1000 := hrg.2.1
              have hB4 := hb3
              clear hsum hru hu d0 d1 d2 hv hx1 hy1 hz1' hSb2 hdr hnz hf hrg hmu hmem
              go_wp2_with (first
                | (go_at_call 12; with_reducible refine hq.mono ?_; rintro e w9 ⟨he, hb9⟩; subst he; replace hB4 := hB4.trans (hb9.mono hB4.size)))
              go_ret
              exact ⟨rfl, hB4⟩
            | ok t m =>
              have hnx := hsum.next hmu
              have hts := mean_small u (good_wf (HGK.out u hmem)) [] 0 t m hmu
              rw [hmu] at hq hrg
              simp only [ans] at hq
              have hm1 : m ≤ 1000 := hrg.2.1
              have hadd : ∀ w : World, (Op.stringOp .add want t).run Tryz.prog w = .ok (.string (want ++ t)) w := fun w => run_string_add_sum _ _ _ (by omega)
              have HNX := Lib.hid hnx
              have hB4 := hb3
              clear hsum hru hu d0 d1 d2 hv hx1 hy1 hz1' hSb2 hdr hrg hmu hmem hnx
              go_wp2_with (first
                | (go_at_call 12; with_reducible refine hq.mono ?_; rintro e w9 ⟨he, hb9⟩; subst he; replace hB4 := hB4.trans (hb9.mono hB4.size)))
              refine ⟨⟨k + 1, begun + m, want ++ t, hlt, by push_cast; rfl, by push_cast; rfl, rfl, HNX.out, by omega, by rw [ByteArray.size_append]; omega, hB4⟩, ?_⟩
              simp only [RowKit.intOf]
              omega
          · obtain rfl : k = ks.length := by omega
            rw [List.drop_length] at hsum
            obtain ⟨s1, s2, s3⟩ := hsum.done
            by_cases h1 : 1000 < begun
            · have j2 : ((ans X).2.2 == 52) = true := by rw [s1 h1]; rfl
              have i9 : (1000 : Int) < begun := by omega
              clear s1 s2 s3 hsum h1
              go_wp2_with fail
              go_ret
              exact ⟨rfl, hb⟩
            have i9 : ¬ (1000 : Int) < begun := by omega
            by_cases h3 : 256 < want.size
            · obtain ⟨q1, q2⟩ := s2 h1 h3
              have i8 : (256 : Int) < want.size := by omega
              simp only [q1, q2]
              clear s1 s2 s3 hsum h1 h3 q1 q2
              go_wp2_with fail
              go_ret
              exact ⟨rfl, hb⟩
            · have q := s3 h1 h3
              have i8 : ¬ (256 : Int) < want.size := by omega
              simp only [q]
              clear s1 s2 s3 hsum h1 h3 q
              go_wp2_with fail
              go_ret
              exact ⟨rfl, hb⟩
end Ev
end Go.Proofs.YtflhmoelenmomaaGreatDoor
