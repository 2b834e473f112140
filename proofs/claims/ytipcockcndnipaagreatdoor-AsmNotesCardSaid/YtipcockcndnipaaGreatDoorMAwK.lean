/-
  Walk of the reference: Assemble.
-/
import Derived.Test.YtipcockcndnipaaGreatDoorMAwH
import Derived.Test.YtipcockcndnipaaGreatDoorMAwN
import Derived.Test.YtipcockcndnipaaGreatDoorMAwR
namespace Go.Proofs.YtipcockcndnipaaGreatDoor
open Go.RowKit
namespace Aw
open As

theorem scan_at {ls : List (List UInt8)} {k : Nat} {l : List UInt8} {st : St} (hl : ls[k]? = some l) (h : scan 0 (ls.take k) st00 = .ok st) : scan 0 (ls.take (k + 1)) st00 = match lineP (k + 1) l st with | .ok st' => .ok st' | .bad e => .bad (k + 1) e := by
  have hk : (ls.take k).length = k := by
    rw [List.length_take]
    have := (List.getElem?_eq_some_iff.1 hl).1
    omega
  rw [takek_snoc hl, scan_snoc h, hk]
  rfl
theorem bad_val {s : List UInt8} {W W' : World} {n e : Int} {E : Ending} (h : asmP s = ([], n, e)) (hE : E = .returned (.tuple #[.slice none 0 0, .int .i64 n, .int .i64 e])) (hb : Below W.heap.size W W') : AQ W s E W' := by
  subst hE
  exact ⟨_, by rw [h], by rw [h]; exact ps_nil _, hb⟩
theorem BW {W w0 w w' : World} {st : St} {vp vw vl vb : Value} (hb0 : Below W.heap.size W w0) (g : RS w0 w st vp vw vl vb) (hb : Below w.heap.size w w') : Below W.heap.size W w' := hb0.trans ((g.below.trans (hb.mono g.below.size)).mono hb0.size)
theorem obj_two {W : World} {g : Nat} {u0 u1 : Value} {T : TypeId} (h : W.heap[g]? = some (.cells #[u0, u1] T (0, 0))) : W.cell? ⟨g, 0, none⟩ = some u0 ∧ W.cell? ⟨g, 1, none⟩ = some u1 := ⟨by simp [World.cell?, h], by simp [World.cell?, h]⟩
theorem take_all_snoc {labs : List (List UInt8 × Nat)} {j : Nat} {y : List UInt8 × Nat} {w : List UInt8} (hy : labs[j]? = some y) (h : ∀ x ∈ labs.take j, x.1 ≠ w) (hn : y.1 ≠ w) : ∀ x ∈ labs.take (j + 1), x.1 ≠ w := fun x hx => by
  rw [takek_snoc hy] at hx
  rcases List.mem_append.1 hx with hx | hx
  · exact h x hx
  · rw [List.mem_singleton.1 hx]; exact hn
set_option maxHeartbeats 16000000 in
set_option maxRecDepth 100000 in
theorem rassemble_any (s : ByteArray) (W : World) (hE : Env W) :
    Calls Tryz.prog 10 #[.string s] W fun e W' => AQ W s.data.toList e W' := by
  have hz := Lib.size_eq s
  by_cases hl : 65536 < s.size
  · have HR := Lib.hid (show asmP s.data.toList = ([], 0, 3) by unfold asmP; rw [if_pos (by omega)])
    have k0 : (65536 : Int) < (s.size : Int) := by omega
    clear hz hl
    go_enter Tryz.func10, Tryz.ntmps10
    go_wp2_with fail
    go_ret3
    exact bad_val HR.out rfl (Below.refl _ _)
  have k0 : ¬ (65536 : Int) < (s.size : Int) := by omega
  have hlen : s.data.toList.length ≤ 65536 := by omega
  obtain ⟨ls, hls⟩ : ∃ ls, ls = linesL s.data.toList := ⟨_, rfl⟩
  obtain ⟨hn1, hn2⟩ := lines_small s.data.toList
  rw [← hls] at hn1 hn2
  have hnl : ls.length ≤ 65537 := by omega
  have HN2 := Lib.hid (show ∀ x ∈ ls, x.length ≤ 65536 from fun x hx => by have := hn2 x hx; omega)
  have HBAD := Lib.hid (show ∀ (k n : Nat) (e : Int), scan 0 (ls.take k) st00 = .bad n e → asmP s.data.toList = ([], (n : Int), e) from fun k n e h => asm_bad_at (by rw [← hls]; exact h) hlen)
  have HLN := Lib.hid (And.intro hls hlen)
  have hlc := rlines_any s W (by omega)
  rw [← hls] at hlc
  clear hz hl hn1 hn2 hls hlen
  go_enter Tryz.func10, Tryz.ntmps10
  go_wp2_with (first
    | (go_at_call 15; refine hlc.mono ?_; rintro e w0 ⟨vl0, rfl, hL0, hb0⟩; obtain ⟨sl0, cp0, rfl⟩ := own_form hL0; have HL0 := Lib.hid hL0; clear hL0 hlc))
  go_loopw [5, 6, 7, 8, 29] (fun vp vw vl vb i wr => ∃ (k : Nat) (st : St), i = .int .i64 (k : Int) ∧ k ≤ ls.length ∧ scan 0 (ls.take k) st00 = .ok st ∧ RS w0 wr st vp vw vl vb) (fun _ _ _ _ i _ => ls.length - (intOf i).toNat)
  case atStart => exact ⟨0, st00, rfl, Nat.zero_le _, rfl, RS.start w0⟩
  case round =>
    obtain ⟨k, st, rfl, hk, hsc, hS⟩ := hrel
    have hbd := scan_bd _ 0 0 _ _ bd_0 hsc (by rw [List.length_take]; omega)
    rw [List.length_take, Nat.min_eq_left hk, Nat.zero_add] at hbd
    have hdst := scan_dst _ 0 _ _ (show Dst st00.labs from List.nodup_nil) hsc
    obtain ⟨slp, cpp, rfl⟩ := own_form hS.op
    obtain ⟨slw, cpw, rfl⟩ := own_form hS.ow
    obtain ⟨sll, cpl, rfl⟩ := own_form hS.ol
    obtain ⟨slb, cpb, rfl⟩ := own_form hS.ob
    have HBD := Lib.hid hbd
    have HBP := Lib.hid (show st.prog.length ≤ 1000000 by have := hbd.p; omega)
    have HBW := Lib.hid (show st.wants.length ≤ 1000000 by have := hbd.p; have := hbd.w; omega)
    have HBL := Lib.hid (show st.lines.length ≤ 1000000 by have := hbd.p; have := hbd.l; omega)
    have HBB := Lib.hid (show st.labs.length ≤ 1000000 by have := hbd.b; omega)
    have hbp : st.prog.length ≤ 65537 := by have := hbd.p; omega
    have hbb : st.labs.length ≤ 65537 := by have := hbd.b; omega
    have HDS := Lib.hid hdst
    have HS := Lib.hid hS
    have q1 : IntKind.i64.wrap ((k : Int) + 1) = (k : Int) + 1 := IntWalk.i64_in _ (by omega)
    by_cases hlt : k < ls.length
    · obtain ⟨l, hlk⟩ : ∃ l, ls[k]? = some l := ⟨ls[k], List.getElem?_eq_getElem hlt⟩
      obtain ⟨gl, rfl, -, hgl, hcl, -, -⟩ := own_cells HL0.out (by omega)
      have d0 : wr.cell? ⟨gl, k, none⟩ = some (.string ⟨l.toArray⟩) := (hS.below.cell (p := ⟨gl, k, none⟩) hgl).trans (hcl k _ (by unfold rowS; rw [List.getElem?_map, hlk]; rfl))
      have HSN := Lib.hid (scan_at hlk hsc)
      have hll := HN2.out l (List.mem_of_getElem? hlk)
      have HGL := Lib.hid hgl
      clear hbd hdst hS hsc hcl hlk hgl
      obtain ⟨σ, hσ⟩ : ∃ σ : ByteArray, σ = ⟨l.toArray⟩ := ⟨_, rfl⟩
      have hdl : l = σ.data.toList := by rw [hσ]
      have hsz : σ.size ≤ 65536 := by rw [Lib.size_eq, ← hdl]; exact hll
      rw [← hσ] at d0
      subst hdl
      clear hσ hll
      by_cases he : σ = ⟨#[]⟩
      · have HSN := Lib.hid (HSN.out.trans (show _ = Scn.ok st by rw [show lineP (k + 1) σ.data.toList st = .ok st from (by unfold lineP; rw [if_pos (.inl (by rw [he]))])]))
        have k9 := Sx.emp_tt he
        clear he
        go_wp2_with fail
        go_roundw
        case rel => exact ⟨k + 1, st, by go_num, by omega, HSN.out, HS.out⟩
        case measure => simp [intOf]; omega
      have k9 := Sx.emp_ff he
      have h0 : 0 < σ.size := by
        rcases Nat.eq_zero_or_pos σ.size with e | e
        · exact absurd (ByteArray.ext (Array.eq_empty_of_size_eq_zero e)) he
        · exact e
      have hh : σ.data.toList.head? = some σ[0] := by
        rw [List.head?_eq_getElem?]
        exact at_list h0
      have hne : σ.data.toList ≠ [] := fun e => by rw [e] at hh; cases hh
      by_cases g0 : σ[0] = 59
      · have HSN := Lib.hid (HSN.out.trans (show _ = Scn.ok st by rw [show lineP (k + 1) σ.data.toList st = .ok st from (by unfold lineP; rw [if_pos (.inr (by rw [hh, g0]))])]))
        have k1 : ((σ[0].toNat : Int) == 59) = true := by rw [g0]; rfl
        clear he hh hne g0
        go_wp2_with fail
        go_roundw
        case rel => exact ⟨k + 1, st, by go_num, by omega, HSN.out, HS.out⟩
        case measure => simp [intOf]; omega
      have k1 : ((σ[0].toNat : Int) == 59) = false := by
        rw [beq_eq_false_iff_ne]
        intro e
        exact g0 (u8_eq (n := 59) (by omega) (by decide))
      have HR := Lib.hid (show lineP (k + 1) σ.data.toList st = (if isLab σ.data.toList = true then (if (at? st.labs σ.data.toList.dropLast).isSome = true then .bad 11 else .ok { st with labs := st.labs ++ [(σ.data.toList.dropLast, st.prog.length)] })
        else match insL σ.data.toList with
          | none => .bad 50
          | some (x, want) => .ok ⟨st.prog ++ [x], st.wants ++ [want], st.lines ++ [k + 1], st.labs⟩) by
        unfold lineP
        rw [if_neg (by rintro (e | e); exact hne e; rw [hh] at e; exact g0 (Option.some.inj e))]
        rfl)
      have w1 : IntKind.i64.wrap ((σ.size : Int) - 1) = (σ.size : Int) - 1 := IntWalk.i64_in _ (by omega)
      have n1 : (0 : Int) ≤ (σ.size : Int) - 1 := by omega
      have t1 : ((σ.size : Int) - 1).toNat = σ.size - 1 := by omega
      have b1 : σ.size - 1 < σ.size := by omega
      have b3 : (σ.size : Int) - 1 ≤ σ.size := by omega
      have b4 : (σ.size : Int) - 1 < σ.size := by omega
      have HLG := Lib.hid (last_get h0)
      have HDL := Lib.hid (cut_last σ)
      clear he hh hne g0
      have hIns := fun (w : World) (h : Below wr.heap.size wr w) => rins_any σ w (hE.below (hb0.trans ((HS.out.below.mono hb0.size).trans (h.mono (Nat.le_trans hb0.size HS.out.below.size))))) (by omega)
      obtain ⟨τ, hτ⟩ : ∃ τ, τ = σ.extract 0 (σ.size - 1) := ⟨_, rfl⟩
      rw [← hτ] at HDL
      have hNm := fun (w : World) => Nm.namer_any τ w (by rw [hτ, ByteArray.size_extract]; omega)
      have HT := Lib.hid hτ
      clear hτ
      by_cases hc : σ[σ.size - 1] = 58
      · have k2 : ((σ[σ.size - 1].toNat : Int) == 58) = true := by rw [hc]; rfl
        cases hnm : Nm.nameL τ.data.toList with
        | true =>
          rw [hnm] at hNm
          have hlab : isLab σ.data.toList = true := by unfold isLab; rw [HLG.out, hc, show σ.data.toList.dropLast = τ.data.toList by rw [HDL.out], hnm]; rfl
          have HR := Lib.hid (HR.out.trans (if_pos hlab))
          have HDT := Lib.hid (show σ.data.toList.dropLast = τ.data.toList by rw [HDL.out])
          clear hc hnm hlab hIns
          go_wp2_with (first
            | (go_at_call 22; have hτ := HT.out; rw [← hτ]; clear hτ; refine (hNm _).mono ?_; rintro e w1' ⟨rfl, rfl⟩))
          go_loopw [57] (fun i w1 => ∃ j : Nat, i = .int .i64 (j : Int) ∧ j ≤ st.labs.length ∧ (∀ x ∈ st.labs.take j, x.1 ≠ τ.data.toList) ∧ RS w0 w1 st (.slice slp st.prog.length cpp) (.slice slw st.wants.length cpw) (.slice sll st.lines.length cpl) (.slice slb st.labs.length cpb)) (fun i _ => st.labs.length - (intOf i).toNat)
          case atStart => exact ⟨0, rfl, Nat.zero_le _, fun x hx => by simp at hx, HS.out⟩
          case round =>
            obtain ⟨j, rfl, hj, hno, hS1⟩ := hrel
            by_cases hjl : j < st.labs.length
            · obtain ⟨y, hy⟩ : ∃ y, st.labs[j]? = some y := ⟨_, List.getElem?_eq_getElem hjl⟩
              obtain ⟨gb, rfl, -, hgb, hcb, -, -⟩ := own_cells hS1.ob (show 0 < st.labs.length by omega)
              obtain ⟨r1, r2⟩ := rowL_at _ _ _ hy
              obtain ⟨ρ, hρ⟩ : ∃ ρ : ByteArray, ρ = ⟨y.1.toArray⟩ := ⟨_, rfl⟩
              have hρd : y.1 = ρ.data.toList := by rw [hρ]
              have e0 := hcb _ _ r1
              have e1 := hcb _ _ r2
              rw [← hρ] at e0
              have HS1 := Lib.hid (hS1.low (w' := (wr.alloc (.cells #[.string ρ, .int .i64 (y.2 : Int)] 56))) ((Below.refl _ _).alloc (Nat.le_refl _) _))
              have HY := Lib.hid (And.intro hy hno)
              clear hS1 hcb r1 r2 hρ hgb hy hno
              by_cases hq : ρ = τ
              · have k3 : (ρ.toList == (σ.extract 0 (σ.size - 1)).toList) = true := Sx.seq_tt (by rw [hq, HT.out])
                have HB11 := Lib.hid (HBAD.out (k + 1) (k + 1) 11 (by
                  rw [HSN.out, HR.out, HDT.out, if_pos (at_some_of (List.mem_of_getElem? HY.out.1) (by rw [hρd, hq]))]))
                clear hq hρd
                go_wp2_with fail
                go_quiet (fail)
                go_wp2_with fail
                go_ret3
                exact bad_val HB11.out rfl (BW hb0 HS1.out (Sx.below_drewN (Below.refl _ _) _))
              · have k3 : (ρ.toList == (σ.extract 0 (σ.size - 1)).toList) = false := Sx.seq_ff (by rw [← HT.out]; exact hq)
                have HN9 := Lib.hid (take_all_snoc HY.out.1 HY.out.2 (w := τ.data.toList) (fun e => hq (by
                  apply ByteArray.ext
                  apply Array.toList_inj.1
                  rw [← hρd, e])))
                clear hq hρd
                go_wp2_with fail
                go_quiet (fail)
                go_wp2_with fail
                go_roundw
                case rel => exact ⟨j + 1, by go_num, by omega, HN9.out, HS1.out.low (Sx.below_drewN (Below.refl _ _) _)⟩
                case measure => simp [intOf]; omega
            · obtain rfl : j = st.labs.length := by omega
              rw [List.take_length] at hno
              have HSN := Lib.hid (HSN.out.trans (show _ = Scn.ok ⟨st.prog, st.wants, st.lines, st.labs ++ [((σ.extract 0 (σ.size - 1)).data.toList, st.prog.length)]⟩ by
                rw [HR.out, HDT.out, if_neg (by rw [at_none_of hno]; decide), HT.out]))
              have HS1 := Lib.hid hS1
              clear hS1 hno
              go_wp2_with (first
                | (at_builtin; refine RS.pushB HS1.out (σ.extract 0 (σ.size - 1)) st.prog.length HBB.out rfl _ _ rfl rfl rfl rfl ?_; intro v9 w9 hz9; have HP3 := Lib.hid hz9; clear hz9))
              go_roundw
              case rel => exact ⟨k + 1, _, by go_num, by omega, HSN.out, HP3.out⟩
              case measure => simp [intOf]; omega
        | false =>
          rw [hnm] at hNm
          have hlab : isLab σ.data.toList = false := by unfold isLab; rw [show σ.data.toList.dropLast = τ.data.toList by rw [HDL.out], hnm, Bool.and_false]
          have HR := Lib.hid (HR.out.trans (if_neg (by rw [hlab]; decide)))
          clear hc hnm hlab
          have hIns := hIns wr (Below.refl _ _)
          cases hi : insL σ.data.toList with
          | none =>
            rw [hi] at hIns
            have HBD9 := Lib.hid (HBAD.out (k + 1) (k + 1) 50 (by rw [HSN.out, HR.out, hi]))
            clear hi
            go_wp2_with (first
              | (go_at_call 22; have hτ := HT.out; rw [← hτ]; clear hτ; refine (hNm _).mono ?_; rintro e w1' ⟨rfl, rfl⟩)
              | (go_at_call 23; refine hIns.mono ?_; rintro e w3 ⟨hb3, y, t, rfl⟩; obtain ⟨y0, y1, y2⟩ := y))
            go_ret3
            refine bad_val HBD9.out rfl ?_
            exact BW hb0 HS.out (hb3.trans (((Below.refl w3.heap.size w3).alloc (Nat.le_refl _) _).mono hb3.size))
          | some xw =>
            obtain ⟨x, want⟩ := xw
            rw [hi] at hIns
            have HSN := Lib.hid (HSN.out.trans (show _ = Scn.ok ⟨st.prog ++ [x], st.wants ++ [want], st.lines ++ [k + 1], st.labs⟩ by rw [HR.out, hi]))
            clear hi
            go_wp2_with (first
              | (go_at_call 22; have hτ := HT.out; rw [← hτ]; clear hτ; refine (hNm _).mono ?_; rintro e w1' ⟨rfl, rfl⟩)
              | (go_at_call 23; refine hIns.mono ?_; rintro e w3 ⟨hb3, rfl⟩; have HP := Lib.hid (HS.out.low (hb3.trans (((Below.refl w3.heap.size w3).alloc (Nat.le_refl _) (.cells #[.int .i64 x.op, .int .i64 x.n, .string x.s] 38)).mono hb3.size))))
              | (at_builtin; refine RS.pushP HP.out x HBP.out rfl _ _ rfl rfl rfl (by simp) ?_; intro v9 w9 hz9; have HP1 := Lib.hid hz9; clear hz9 HP)
              | (at_builtin; refine RS.pushW HP1.out ⟨want.toArray⟩ HBW.out rfl _ _ rfl rfl rfl (by simp) ?_; intro v9 w9 hz9; have HP2 := Lib.hid hz9; clear hz9 HP1)
              | (at_builtin; refine RS.pushL HP2.out (k + 1) (by omega) HBL.out rfl _ _ rfl rfl rfl (by simp) ?_; intro v9 w9 hz9; have HP3 := Lib.hid hz9; clear hz9 HP2))
            go_roundw
            case rel => exact ⟨k + 1, _, by go_num, by omega, HSN.out, HP3.out⟩
            case measure => simp [intOf]; omega
      · have k2 : ((σ[σ.size - 1].toNat : Int) == 58) = false := by
          rw [beq_eq_false_iff_ne]
          intro e
          exact hc (u8_eq (n := 58) (by omega) (by decide))
        have hlab : isLab σ.data.toList = false := by unfold isLab; rw [HLG.out, decide_eq_false (fun e => hc (Option.some.inj e)), Bool.false_and]
        have HR := Lib.hid (HR.out.trans (if_neg (by rw [hlab]; decide)))
        clear hc hlab hNm HT
        have hIns := hIns wr (Below.refl _ _)
        cases hi : insL σ.data.toList with
        | none =>
          rw [hi] at hIns
          have HBD9 := Lib.hid (HBAD.out (k + 1) (k + 1) 50 (by rw [HSN.out, HR.out, hi]))
          clear hi
          go_wp2_with (first
            | (go_at_call 23; refine hIns.mono ?_; rintro e w3 ⟨hb3, y, t, rfl⟩; obtain ⟨y0, y1, y2⟩ := y))
          go_ret3
          refine bad_val HBD9.out rfl ?_
          exact BW hb0 HS.out (hb3.trans (((Below.refl w3.heap.size w3).alloc (Nat.le_refl _) _).mono hb3.size))
        | some xw =>
          obtain ⟨x, want⟩ := xw
          rw [hi] at hIns
          have HSN := Lib.hid (HSN.out.trans (show _ = Scn.ok ⟨st.prog ++ [x], st.wants ++ [want], st.lines ++ [k + 1], st.labs⟩ by rw [HR.out, hi]))
          clear hi
          go_wp2_with (first
            | (go_at_call 23; refine hIns.mono ?_; rintro e w3 ⟨hb3, rfl⟩; have HP := Lib.hid (HS.out.low (hb3.trans (((Below.refl w3.heap.size w3).alloc (Nat.le_refl _) (.cells #[.int .i64 x.op, .int .i64 x.n, .string x.s] 38)).mono hb3.size))))
            | (at_builtin; refine RS.pushP HP.out x HBP.out rfl _ _ rfl rfl rfl (by simp) ?_; intro v9 w9 hz9; have HP1 := Lib.hid hz9; clear hz9 HP)
            | (at_builtin; refine RS.pushW HP1.out ⟨want.toArray⟩ HBW.out rfl _ _ rfl rfl rfl (by simp) ?_; intro v9 w9 hz9; have HP2 := Lib.hid hz9; clear hz9 HP1)
            | (at_builtin; refine RS.pushL HP2.out (k + 1) (by omega) HBL.out rfl _ _ rfl rfl rfl (by simp) ?_; intro v9 w9 hz9; have HP3 := Lib.hid hz9; clear hz9 HP2))
          go_roundw
          case rel => exact ⟨k + 1, _, by go_num, by omega, HSN.out, HP3.out⟩
          case measure => simp [intOf]; omega
    · obtain rfl : k = ls.length := by omega
      rw [List.take_length] at hsc
      have HSC := Lib.hid (show scan 0 (linesL s.data.toList) st00 = .ok st by rw [← HLN.out.1]; exact hsc)
      clear hbd hdst hS hsc q1
      go_wp2_with fail
      go_loopw [109] (fun i w1 => ∃ (k : Nat) (q : List Cd.I), i = .int .i64 (k : Int) ∧ k ≤ st.prog.length ∧ RK st.labs st.prog st.wants st.lines k q ∧ RS w0 w1 ⟨q, st.wants, st.lines, st.labs⟩ (.slice slp st.prog.length cpp) (.slice slw st.wants.length cpw) (.slice sll st.lines.length cpl) (.slice slb st.labs.length cpb)) (fun i _ => st.prog.length - (intOf i).toNat)
      case atStart => exact ⟨0, st.prog, rfl, Nat.zero_le _, RK.start _ _ _ _, HS.out⟩
      case round =>
        obtain ⟨k, q, rfl, hkm, hR, hS3⟩ := hrel
        by_cases hkl : k < st.prog.length
        · have hkw : k < st.wants.length := by have := HBD.out.w; omega
          have hkn : k < st.lines.length := by have := HBD.out.l; omega
          obtain ⟨wt, hwt⟩ : ∃ wt, st.wants[k]? = some wt := ⟨_, List.getElem?_eq_getElem hkw⟩
          obtain ⟨x, hx⟩ : ∃ x, st.prog[k]? = some x := ⟨_, List.getElem?_eq_getElem hkl⟩
          obtain ⟨ln, hln⟩ : ∃ ln, st.lines[k]? = some ln := ⟨_, List.getElem?_eq_getElem hkn⟩
          obtain ⟨gw, rfl, -, hgw, hcw, -, -⟩ := own_cells hS3.ow (show 0 < st.wants.length by omega)
          have d0 := hcw k (.string ⟨wt.toArray⟩) (by unfold rowS; rw [List.getElem?_map, hwt]; rfl)
          have HX := Lib.hid (And.intro hwt (And.intro hx hln))
          have HQ := Lib.hid hR
          have HS3 := Lib.hid hS3
          have q1 : IntKind.i64.wrap ((k : Int) + 1) = (k : Int) + 1 := IntWalk.i64_in _ (by omega)
          by_cases hwe : wt = []
          · subst hwe
            have k2 := Sx.emp_tt (a := ⟨([] : List UInt8).toArray⟩) rfl
            clear hcw hR hS3 hwt hx hln hgw
            go_wp2_with fail
            go_roundw
            case rel => exact ⟨k + 1, q, by go_num, by omega, HQ.out.skip HX.out.2.1 HX.out.1 HX.out.2.2, HS3.out⟩
            case measure => simp [intOf]; omega
          have HWE := Lib.hid hwe
          obtain ⟨ω, hω⟩ : ∃ ω : ByteArray, ω = ⟨wt.toArray⟩ := ⟨_, rfl⟩
          have hωd : wt = ω.data.toList := by rw [hω]
          rw [← hω] at d0
          have k2 := Sx.emp_ff (a := ω) (fun e => hwe (by rw [hωd, e]))
          have HO := Lib.hid hωd
          clear hcw hR hS3 hwt hx hln hwe hω hωd
          go_wp2_with fail
          have HGW := Lib.hid (And.intro hgw d0)
          clear d0 hgw
          go_loopw [17, 119] (fun at' i w1 => ∃ j : Nat, at' = .int .i64 (lst (st.labs.take j) wt) ∧ i = .int .i64 (j : Int) ∧ j ≤ st.labs.length ∧ Below wr.heap.size wr w1) (fun _ i _ => st.labs.length - (intOf i).toNat)
          case atStart => exact ⟨0, rfl, rfl, Nat.zero_le _, Below.refl _ _⟩
          case round =>
            obtain ⟨j, rfl, rfl, hj, hb4⟩ := hrel
            have hS4 := HS3.out.low hb4
            have d0 := (hb4.cell (p := ⟨gw, k, none⟩) HGW.out.1).trans HGW.out.2
            by_cases hjl : j < st.labs.length
            · obtain ⟨y, hy⟩ : ∃ y, st.labs[j]? = some y := ⟨_, List.getElem?_eq_getElem hjl⟩
              obtain ⟨gb, rfl, -, hgb, hcb, -, -⟩ := own_cells hS4.ob (show 0 < st.labs.length by omega)
              obtain ⟨r1, r2⟩ := rowL_at _ _ _ hy
              obtain ⟨ρ, hρ⟩ : ∃ ρ : ByteArray, ρ = ⟨y.1.toArray⟩ := ⟨_, rfl⟩
              have hρd : y.1 = ρ.data.toList := by rw [hρ]
              have e0 := hcb _ _ r1
              have e1 := hcb _ _ r2
              rw [← hρ] at e0
              have hbA : Below wr.heap.size wr (wr.alloc (.cells #[.string ρ, .int .i64 (y.2 : Int)] 56)) := (Below.refl _ _).alloc (Nat.le_refl _) _
              have HB4 := Lib.hid (hb4.trans (hbA.mono hb4.size))
              have d9 := hbA.cell (p := ⟨gw, k, none⟩) (Nat.lt_of_lt_of_le HGW.out.1 hb4.size)
              rw [d0] at d9
              have HLS := Lib.hid (lst_snoc (st.labs.take j) y wt)
              have HTK := Lib.hid (takek_snoc hy)
              clear hS4 hcb r1 r2 hρ hgb hy hb4 hbA
              by_cases hq : ρ = ω
              · have k3 : (ρ.toList == ω.toList) = true := Sx.seq_tt hq
                have HE1 := Lib.hid (show y.1 = wt by rw [hρd, hq, HO.out])
                clear hq hρd
                go_wp2_with fail
                go_quiet (fail)
                go_wp2_with fail
                go_roundw
                case rel => exact ⟨j + 1, by rw [HTK.out, HLS.out, if_pos HE1.out], by go_num, by omega, (Sx.below_drewN HB4.out _)⟩
                case measure => simp [intOf]; omega
              · have k3 : (ρ.toList == ω.toList) = false := Sx.seq_ff hq
                have HE1 := Lib.hid (show y.1 ≠ wt from fun e => hq (by
                  apply ByteArray.ext
                  apply Array.toList_inj.1
                  rw [← hρd, e, HO.out]))
                clear hq hρd
                go_wp2_with fail
                go_quiet (fail)
                go_wp2_with fail
                go_roundw
                case rel => exact ⟨j + 1, by rw [HTK.out, HLS.out, if_neg HE1.out], by go_num, by omega, (Sx.below_drewN HB4.out _)⟩
                case measure => simp [intOf]; omega
            · obtain rfl : j = st.labs.length := by omega
              rw [List.take_length]
              have HB4 := Lib.hid hb4
              have HX := HX
              cases ha : at? st.labs wt with
              | none =>
                rw [lst_none ha]
                have HRES := Lib.hid (res_bad HLN.out.2 HSC.out (HQ.out.miss HX.out.2.1 HX.out.1 HWE.out HX.out.2.2 ha))
                obtain ⟨gn, rfl, -, hgn, hcn, -, -⟩ := own_cells hS4.ol (show 0 < st.lines.length by omega)
                have d8 := hcn k (.int .i64 (ln : Int)) (by unfold rowN; rw [List.getElem?_map, HX.out.2.2]; rfl)
                clear ha hcn hgn hb4 hS4
                go_wp2_with fail
                go_quiet (fail)
                go_wp2_with fail
                go_ret3
                exact bad_val HRES.out rfl (BW hb0 HS3.out (Sx.below_drewN HB4.out _))
              | some a =>
                rw [lst_some HDS.out ha]
                have hqx := HQ.out.at HX.out.2.1
                have HQL := Lib.hid HQ.out.len
                have hop : wr.ownsRow w0.heap.size 38 3 (.slice slp st.prog.length cpp) st.prog.length (rowI q) := by
                  have h9 := hS4.op
                  unfold OI at h9
                  rw [show (⟨q, st.wants, st.lines, st.labs⟩ : St).prog.length = st.prog.length from HQL.out] at h9
                  exact h9
                obtain ⟨gp, rfl, hBg, hgl, hcp, hzp, csp, hcsp⟩ := own_cells hop (show 0 < st.prog.length by omega)
                obtain ⟨r1, r2, r3⟩ := rowI_at _ _ _ hqx
                have f0 := hcp _ _ r1
                have f1 := hcp _ _ r2
                have f2 := hcp _ _ r3
                have hbA : Below wr.heap.size wr (wr.alloc (.cells #[.int .i64 x.op, .int .i64 (a : Int), .string x.s] 38)) := (Below.refl _ _).alloc (Nat.le_refl _) _
                have g0 : (wr.alloc (.cells #[.int .i64 x.op, .int .i64 (a : Int), .string x.s] 38)).frozen? ⟨gp, k * 3, none⟩ = false := by
                  have h9 := (heap_alloc_old wr (.cells #[.int .i64 x.op, .int .i64 (a : Int), .string x.s] 38) hgl).trans hcsp
                  simp [World.frozen?, h9]
                have g1 : (wr.alloc (.cells #[.int .i64 x.op, .int .i64 (a : Int), .string x.s] 38)).frozen? ⟨gp, k * 3 + 1, none⟩ = false := by
                  have h9 := (heap_alloc_old wr (.cells #[.int .i64 x.op, .int .i64 (a : Int), .string x.s] 38) hgl).trans hcsp
                  simp [World.frozen?, h9]
                have g2 : (wr.alloc (.cells #[.int .i64 x.op, .int .i64 (a : Int), .string x.s] 38)).frozen? ⟨gp, k * 3 + 2, none⟩ = false := by
                  have h9 := (heap_alloc_old wr (.cells #[.int .i64 x.op, .int .i64 (a : Int), .string x.s] 38) hgl).trans hcsp
                  simp [World.frozen?, h9]
                have f3 := (hbA.cell (p := ⟨gp, k * 3, none⟩) hgl).trans f0
                have f4 := (hbA.cell (p := ⟨gp, k * 3 + 1, none⟩) hgl).trans f1
                have f5 := (hbA.cell (p := ⟨gp, k * 3 + 2, none⟩) hgl).trans f2
                have HSX := Lib.hid (hS4.low hbA)
                have a0 : ¬ (a : Int) < 0 := by omega
                have hne1 : ¬ gp = wr.heap.size := by omega
                have hne2 : ¬ wr.heap.size = gp := by omega
                have HA := Lib.hid ha
                have HG := Lib.hid (And.intro hBg (And.intro hgl hqx))
                clear hbA ha hop hcp hzp hcsp r1 r2 r3 hqx hBg hgl hb4 hS4
                go_wp2_with fail
                go_roundw
                case rel => exact ⟨k + 1, _, by go_num, by omega, HQ.out.put HX.out.2.1 HX.out.1 HWE.out HX.out.2.2 HA.out, HSX.out.put3 HQL.out HG.out.2.2 ⟨x.op, (a : Int), x.s⟩⟩
                case measure => simp [intOf]; omega
        · obtain rfl : k = st.prog.length := by omega
          have hql := hR.len
          have hqn : ∀ y ∈ q, -9223372036854775808 ≤ y.n ∧ y.n ≤ 9223372036854775807 := res_bd (by omega) HBD.out.a _ _ _ _ HBD.out.n hR.done
          have HRES := Lib.hid (res_ok HLN.out.2 HSC.out hR.done)
          have hps := ps_of hS3.op (by show q.length ≤ 1000000; omega) hqn
          have hch := Cd.checkr_any q _ wr hps
          have HPS := Lib.hid hps
          have HS3 := Lib.hid hS3
          have HQL := Lib.hid hql
          clear hR hps hql hqn hS3
          by_cases hlq : q.length = 0 ∨ 256 < q.length
          · rw [Cd.ck_many hlq] at hch
            have HRES := Lib.hid (show asmP s.data.toList = ([], 0, 13) by rw [HRES.out, show Cd.check q = (0, 13) by unfold Cd.check; rw [if_pos hlq]]; rfl)
            clear hlq
            go_wp2_with (first
              | (go_at_call 24; refine hch.mono ?_; rintro e w1 ⟨rfl, hb1⟩; clear hch))
            go_ret3
            exact bad_val HRES.out rfl (BW hb0 HS3.out hb1)
          · cases hfb : Cd.firstBad q.length q with
            | none =>
              rw [Cd.ck_ok hlq hfb] at hch
              have HRES := Lib.hid (show asmP s.data.toList = (q, 0, 0) by rw [HRES.out, show Cd.check q = (0, 0) by unfold Cd.check; rw [if_neg hlq, hfb]]; rfl)
              clear hlq hfb
              go_wp2_with (first
                | (go_at_call 24; refine hch.mono ?_; rintro e w1 ⟨rfl, hb1⟩; clear hch))
              go_ret3
              exact ⟨_, by rw [HRES.out]; rfl, by rw [HRES.out]; exact HPS.out.below hb1, BW hb0 HS3.out hb1⟩
            | some i =>
              rw [Cd.ck_bad hlq hfb] at hch
              have hil := fb_lt hfb
              have q3 : i < st.lines.length := by have := HQL.out; have := HBD.out.l; omega
              obtain ⟨ln, hln⟩ : ∃ ln, st.lines[i]? = some ln := ⟨_, List.getElem?_eq_getElem q3⟩
              have HRES := Lib.hid (show asmP s.data.toList = ([], (ln : Int), 30) by
                rw [HRES.out, show Cd.check q = ((i : Int), 30) by unfold Cd.check; rw [if_neg hlq, hfb]]
                simp [hln])
              clear hlq hfb hil
              go_wp2_with (first
                | (go_at_call 24; refine hch.mono ?_; rintro e w1 ⟨rfl, hb1⟩; clear hch; obtain ⟨gn, rfl, -, hgn, hcn, -, -⟩ := own_cells (HS3.out.low hb1).ol (show 0 < st.lines.length by omega); have d8 := hcn i (.int .i64 (ln : Int)) (by unfold rowN; rw [List.getElem?_map, hln]; rfl); clear hcn hgn hln))
              go_quiet (fail)
              go_wp2_with fail
              go_ret3
              exact bad_val HRES.out rfl (BW hb0 HS3.out (Sx.below_drewN hb1 _))
end Aw
end Go.Proofs.YtipcockcndnipaaGreatDoor
