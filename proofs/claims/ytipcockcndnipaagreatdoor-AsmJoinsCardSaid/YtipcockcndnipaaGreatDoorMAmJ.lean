/-
  The law AsmJoins, for every two lists of instructions.
-/
import Derived.Test.YtipcockcndnipaaGreatDoorMAmP
namespace Go.Proofs.YtipcockcndnipaaGreatDoor
open Go.RowKit
namespace Aw
open As

theorem free_snoc {p : List Cd.I} {k : Nat} {x : Cd.I} (hx : p[k]? = some x) (h : ∀ y ∈ p.take k, Cd.takes y.op ≠ 4) (hn : Cd.takes x.op ≠ 4) : ∀ y ∈ p.take (k + 1), Cd.takes y.op ≠ 4 := fun y hy => by
  rw [takek_snoc hx] at hy
  rcases List.mem_append.1 hy with hy | hy
  · exact h y hy
  · rw [List.mem_singleton.1 hy]; exact hn
set_option maxHeartbeats 8000000 in
set_option maxRecDepth 100000 in
theorem joinslaw_any (a b : List Cd.I) (va vb : Value) (W : World) (hA : Cd.PS W va a) (hB : Cd.PS W vb b) (hva : ∃ sl cap, va = .slice sl a.length cap ∧ (sl = none → cap = 0)) (hvb : ∃ sl cap, vb = .slice sl b.length cap ∧ (sl = none → cap = 0)) (hE : Env W) :
    Calls Tryz.prog 7 #[va, vb] W fun e W' => e = .returned (.bool true) ∧ Below W.heap.size W W' := by
  have hal := alive_any W hE
  have HPA := Lib.hid hA
  have HPB := Lib.hid hB
  obtain ⟨sla, capa, rfl, hna⟩ := hva
  obtain ⟨slb, capb, rfl, hnb⟩ := hvb
  have HSA := Lib.hid (SR.of_ps hA hna)
  have HSB := Lib.hid (SR.of_ps hB hnb)
  have hsa := hA.small
  have hsb := hB.small
  obtain ⟨_, _, e1, hfa⟩ := hA.form
  obtain ⟨_, _, e2, hfb⟩ := hB.form
  cases e1
  cases e2
  have HFA := Lib.hid hfa
  have HFB := Lib.hid hfb
  clear hA hB hna hnb hfa hfb
  go_enter Tryz.func7, Tryz.ntmps7
  go_wp2_with (first
    | (go_at_call 8; refine hal.mono ?_; clear hal; rintro e w1 ⟨rfl, hb1⟩; have hg := great_any a _ w1 (HPA.out.below hb1)))
  refine hg.mono ?_
  clear hg
  rintro e w2 ⟨ga, rfl, hb2⟩
  have hB2 := hb1.trans (hb2.mono hb1.size)
  clear hb1 hb2
  cases ga with
  | true =>
    go_wp2_with fail
    go_ret
    exact ⟨rfl, hB2⟩
  | false =>
    go_wp2_with fail
    refine (great_any b _ w2 (HPB.out.below hB2)).mono ?_
    rintro e w3 ⟨gb, rfl, hb3⟩
    have hB3 := hB2.trans (hb3.mono hB2.size)
    clear hB2 hb3
    cases gb with
    | true =>
      go_wp2_with fail
      go_ret
      exact ⟨rfl, hB3⟩
    | false =>
      by_cases la : 128 < a.length
      · have j1 : (128 : Int) < a.length := by omega
        go_wp2_with fail
        go_ret
        exact ⟨rfl, hB3⟩
      have j1 : ¬ (128 : Int) < a.length := by omega
      by_cases lb : 128 < b.length
      · have j2 : (128 : Int) < b.length := by omega
        go_wp2_with fail
        go_ret
        exact ⟨rfl, hB3⟩
      have j2 : ¬ (128 : Int) < b.length := by omega
      go_wp2_with fail
      go_loopw [35] (fun i wr => ∃ k : Nat, i = .int .i64 (k : Int) ∧ k ≤ a.length ∧ (∀ y ∈ a.take k, Cd.takes y.op ≠ 4) ∧ Below W.heap.size W wr) (fun i _ => a.length - (intOf i).toNat)
      case atStart => exact ⟨0, rfl, Nat.zero_le _, fun y hy => by simp at hy, hB3⟩
      case round =>
        obtain ⟨k, rfl, hk, hno, hb⟩ := hrel
        by_cases hlt : k < a.length
        · obtain ⟨x, hx⟩ : ∃ x, a[k]? = some x := ⟨a[k], List.getElem?_eq_getElem hlt⟩
          obtain ⟨bx, ox, rfl, hax, h3⟩ := HFA.out k x hx
          obtain ⟨c0, c1, c2⟩ := h3.below hax hb
          have hT := fun w => Cd.takesr_any x.op w
          have HX := Lib.hid (And.intro hx hno)
          clear hx h3 hno
          by_cases h4 : Cd.takes x.op = 4
          · rw [h4] at hT
            clear h4
            go_wp2_with (first
              | (go_at_call 16; refine (hT _).mono ?_; rintro e w4 ⟨rfl, hb4⟩; have hb5 := (hb.alloc hb.size _).trans (hb4.mono (by have := hb.size; simp; omega)); clear hb4))
            go_ret
            exact ⟨rfl, hb5⟩
          · have HN := Lib.hid (free_snoc HX.out.1 HX.out.2 h4)
            obtain ⟨tk, htk⟩ : ∃ tk, tk = Cd.takes x.op := ⟨_, rfl⟩
            rw [← htk] at h4 hT
            clear htk
            go_wp2_with (first
              | (go_at_call 16; refine (hT _).mono ?_; rintro e w4 ⟨rfl, hb4⟩; have hb5 := (hb.alloc hb.size _).trans (hb4.mono (by have := hb.size; simp; omega)); clear hb4))
            go_roundw
            case rel => exact ⟨k + 1, by go_num, by omega, HN.out, hb5⟩
            case measure => simp [intOf]; omega
        · obtain rfl : k = a.length := by omega
          rw [List.take_length] at hno
          have HNA := Lib.hid hno
          clear hno
          go_wp2_with fail
          go_loopw [46] (fun i wr => ∃ k : Nat, i = .int .i64 (k : Int) ∧ k ≤ b.length ∧ (∀ y ∈ b.take k, Cd.takes y.op ≠ 4) ∧ Below W.heap.size W wr) (fun i _ => b.length - (intOf i).toNat)
          case atStart => exact ⟨0, rfl, Nat.zero_le _, fun y hy => by simp at hy, hb⟩
          case round =>
            clear hb
            obtain ⟨k, rfl, hk, hno, hb⟩ := hrel
            by_cases hlt : k < b.length
            · obtain ⟨x, hx⟩ : ∃ x, b[k]? = some x := ⟨b[k], List.getElem?_eq_getElem hlt⟩
              obtain ⟨bx, ox, rfl, hax, h3⟩ := HFB.out k x hx
              obtain ⟨c0, c1, c2⟩ := h3.below hax hb
              have hT := fun w => Cd.takesr_any x.op w
              have HX := Lib.hid (And.intro hx hno)
              clear hx h3 hno
              by_cases h4 : Cd.takes x.op = 4
              · rw [h4] at hT
                clear h4
                go_wp2_with (first
                  | (go_at_call 16; refine (hT _).mono ?_; rintro e w4 ⟨rfl, hb4⟩; have hb5 := (hb.alloc hb.size _).trans (hb4.mono (by have := hb.size; simp; omega)); clear hb4))
                go_ret
                exact ⟨rfl, hb5⟩
              · have HN := Lib.hid (free_snoc HX.out.1 HX.out.2 h4)
                obtain ⟨tk, htk⟩ : ∃ tk, tk = Cd.takes x.op := ⟨_, rfl⟩
                rw [← htk] at h4 hT
                clear htk
                go_wp2_with (first
                  | (go_at_call 16; refine (hT _).mono ?_; rintro e w4 ⟨rfl, hb4⟩; have hb5 := (hb.alloc hb.size _).trans (hb4.mono (by have := hb.size; simp; omega)); clear hb4))
                go_roundw
                case rel => exact ⟨k + 1, by go_num, by omega, HN.out, hb5⟩
                case measure => simp [intOf]; omega
            · obtain rfl : k = b.length := by omega
              rw [List.take_length] at hno
              have HNB := Lib.hid hno
              have hDA := disassemble_any a _ wr (HPA.out.below hb) (hE.below hb)
              have hDB := fun (w : World) (h : Below wr.heap.size wr w) => disassemble_any b _ w (HPB.out.below (hb.trans (h.mono hb.size))) (hE.below (hb.trans (h.mono hb.size)))
              unfold DQ at hDA hDB
              clear hno
              have HTB := Lib.hid (show ∀ τ : ByteArray, τ = ⟨(if (Cd.check b).2 = 0 then disL b else []).toArray⟩ → (Cd.check b).2 = 0 → τ = ⟨(disL b).toArray⟩ from fun τ e h => by rw [e, if_pos h])
              have HTA := Lib.hid (show ∀ τ : ByteArray, τ = ⟨(if (Cd.check a).2 = 0 then disL a else []).toArray⟩ → (Cd.check a).2 = 0 → τ = ⟨(disL a).toArray⟩ from fun τ e h => by rw [e, if_pos h])
              obtain ⟨σ, hσ⟩ : ∃ σ : ByteArray, σ = ⟨(if (Cd.check a).2 = 0 then disL a else []).toArray⟩ := ⟨_, rfl⟩
              obtain ⟨τ, hτ⟩ : ∃ τ : ByteArray, τ = ⟨(if (Cd.check b).2 = 0 then disL b else []).toArray⟩ := ⟨_, rfl⟩
              rw [← hσ] at hDA
              rw [← hτ] at hDB
              have HSG := Lib.hid (HTA.out σ hσ)
              have HTU := Lib.hid (HTB.out τ hτ)
              clear hσ hτ HTA HTB
              by_cases ca : (Cd.check a).2 = 0
              rotate_left
              · obtain ⟨ce, hce⟩ : ∃ ce, ce = (Cd.check a).2 := ⟨_, rfl⟩
                obtain ⟨cb, hcb⟩ : ∃ cb, cb = (Cd.check b).2 := ⟨_, rfl⟩
                rw [← hce] at ca hDA
                rw [← hcb] at hDB
                clear hce hcb
                go_wp2_with (first
                  | (go_at_call 13; refine hDA.mono ?_; clear hDA; rintro e w5 ⟨rfl, hb5⟩)
                  | (go_at_call 13; refine (hDB _ hb5).mono ?_; clear hDB; rintro e w6 ⟨rfl, hb6⟩))
                go_ret
                exact ⟨rfl, hb.trans ((hb5.trans (hb6.mono hb5.size)).mono hb.size)⟩
              by_cases cb : (Cd.check b).2 = 0
              rotate_left
              · rw [ca] at hDA
                obtain ⟨ce, hce⟩ : ∃ ce, ce = (Cd.check b).2 := ⟨_, rfl⟩
                rw [← hce] at cb hDB
                clear hce ca
                go_wp2_with (first
                  | (go_at_call 13; refine hDA.mono ?_; clear hDA; rintro e w5 ⟨rfl, hb5⟩)
                  | (go_at_call 13; refine (hDB _ hb5).mono ?_; clear hDB; rintro e w6 ⟨rfl, hb6⟩))
                go_ret
                exact ⟨rfl, hb.trans ((hb5.trans (hb6.mono hb5.size)).mono hb.size)⟩
              have HCA := Lib.hid ca
              have HCB := Lib.hid cb
              rw [ca] at hDA
              rw [cb] at hDB
              have hσ := HSG.out ca
              have hτ := HTU.out cb
              have HT := Lib.hid (show (σ ++ τ).data.toList = disL a ++ disL b by rw [hσ, hτ]; simp [ByteArray.data_append])
              have HZ := Lib.hid (show (disL a ++ disL b).length = σ.size + τ.size by rw [hσ, hτ]; simp [ByteArray.size])
              have z1 : σ.size ≤ 128000 := by
                have := dis_le ca HPA.out.nb
                rw [Lib.size_eq, hσ]
                show (disL a).length ≤ _
                omega
              have z2 : τ.size ≤ 128000 := by
                have := dis_le cb HPB.out.nb
                rw [Lib.size_eq, hτ]
                show (disL b).length ≤ _
                omega
              have j5 : IntKind.i64.wrap ((σ.size : Int) + τ.size) = (σ.size : Int) + τ.size := IntWalk.i64_in _ (by omega)
              clear ca cb hσ hτ
              by_cases hsz : 65536 < σ.size + τ.size
              · have j3 : (65536 : Int) < (σ.size : Int) + τ.size := by omega
                clear hsz
                go_wp2_with (first
                  | (go_at_call 13; refine hDA.mono ?_; clear hDA; rintro e w5 ⟨rfl, hb5⟩)
                  | (go_at_call 13; refine (hDB _ hb5).mono ?_; clear hDB; rintro e w6 ⟨rfl, hb6⟩))
                go_ret
                exact ⟨rfl, hb.trans ((hb5.trans (hb6.mono hb5.size)).mono hb.size)⟩
              have j3 : ¬ (65536 : Int) < (σ.size : Int) + τ.size := by omega
              have j4 : ¬ 9223372036854775807 < σ.size + τ.size := by omega
              have hAs := fun (w : World) (hw : Below wr.heap.size wr w) => assemble_any (σ ++ τ) w (hE.below (hb.trans (hw.mono hb.size)))
              unfold AQ at hAs
              rw [HT.out, asm_join (fun x hx => ⟨HNA.out x hx, right_all HCA.out HPA.out.nb x hx⟩) (fun x hx => ⟨HNB.out x hx, right_all HCB.out HPB.out.nb x hx⟩) (chk_zero HCA.out).2.2 (by omega) (by omega) (by rw [HZ.out]; omega)] at hAs
              clear hsz
              go_wp2_with (first
                | (go_at_call 13; refine hDA.mono ?_; clear hDA; rintro e w5 ⟨rfl, hb5⟩)
                | (go_at_call 13; refine (hDB _ hb5).mono ?_; clear hDB; rintro e w6 ⟨rfl, hb6⟩; have hb56 := hb5.trans (hb6.mono hb5.size))
                | (go_at_call 9; refine (hAs _ hb56).mono ?_; clear hAs; rintro e w7 ⟨vq, rfl, hQ, hb7⟩; have hb57 := hb.trans ((hb56.trans (hb7.mono hb56.size)).mono hb.size); obtain ⟨slq, capq, rfl, -⟩ := hQ.form; have HQ := Lib.hid hQ; clear hQ hb5 hb6 hb7 hb56; have HO := Lib.hid (own_empty w7); have hA7 : Below w7.heap.size w7 (w7.alloc (.cells #[] 38)) := (Below.refl _ _).alloc (Nat.le_refl _) _; have HA7 := Lib.hid (HSA.out.below (hb57.trans (hA7.mono hb57.size))))
                | (at_builtin; refine wpList_append_sr (by simp [Region.wanted, yielded]) _ _ rfl w7.heap.size (.slice (some ⟨w7.heap.size, 0, none⟩) 0 0) [] rfl HO.out _ a rfl HA7.out (by simp; omega) (by simp) ?_; intro v8 w8 hown8 hg8; have hown8 : OI w8 w7.heap.size v8 a := hown8; have hb8 : Below w7.heap.size w7 w8 := hA7.grown hg8 (by simp) (fun g hg => (by have h9 : w7.heap.size = g := (by simpa [Value.ownBlock, eq_comm] using hg); omega)); have HO8 := Lib.hid hown8; have HB8 := Lib.hid hb8; have HSB8 := Lib.hid (HSB.out.below (hb57.trans (hb8.mono hb57.size))); clear hown8 hg8 hb8 hA7 HA7 HO)
                | (at_builtin; refine wpList_append_sr (by simp [Region.wanted, yielded]) _ _ rfl w7.heap.size _ a rfl HO8.out _ b rfl HSB8.out (by omega) HB8.out.size ?_; intro v9 w9 hown9 hg9; have hb9 : Below w7.heap.size w7 w9 := HB8.out.grown hg9 HB8.out.size (fun g hg => (HO8.out.lt g hg).1); have hsm := same_any (a ++ b) _ _ w9 (HQ.out.below hb9) (ps_of' hown9 (by simp; omega) (fun x hx => (List.mem_append.1 hx).elim (HPA.out.nb x) (HPB.out.nb x))); rw [List.length_append] at hsm; have hb59 := hb57.trans (hb9.mono hb57.size); clear hown9 hg9 hb9)
                | (go_at_call 11; refine hsm.mono ?_; clear hsm; rintro e w10 ⟨rfl, hb10⟩))
              go_ret
              exact ⟨rfl, hb59.trans (hb10.mono hb59.size)⟩
end Aw
end Go.Proofs.YtipcockcndnipaaGreatDoor
