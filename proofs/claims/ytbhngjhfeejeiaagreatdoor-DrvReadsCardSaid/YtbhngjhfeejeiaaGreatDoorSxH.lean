/-
  Walk: the writer's node, for every tree.
-/
import Derived.Test.YtbhngjhfeejeiaaGreatDoorSxG
namespace Go.Proofs.YtbhngjhfeejeiaaGreatDoor
open Go.RowKit
namespace Sx

/-- the writer in a list's round k -/
structure LP (wr : World) (bw : Nat) (out : List UInt8) (ks : List T) (k : Nat) (o : List UInt8) (f : Int) (v : Value) : Prop where
  ws : WS wr bw o f v
  fe : f = full (out.length + 1 + (encs (ks.take k)).length)
  oe : out.length + 1 + (encs (ks.take k)).length ≤ 65536 → o = out ++ 40 :: encs (ks.take k)
theorem encs_snoc : ∀ (l : List T) (t : T), encs (l ++ [t]) = encs l ++ enc t
  | [], t => by simp [encs]
  | k :: l, t => by simp [encs, encs_snoc l t]
theorem encs_take {ks : List T} {k : Nat} {t : T} (h : ks[k]? = some t) : encs (ks.take (k + 1)) = encs (ks.take k) ++ enc t := by
  rw [List.take_add_one, h]
  exact encs_snoc _ _
theorem encs_le (ks : List T) (k : Nat) : (encs (ks.take k)).length ≤ (encs ks).length := by
  induction ks generalizing k with
  | nil => simp [encs]
  | cons t ks ih =>
    cases k with
    | zero => simp [encs]
    | succ k => have := ih k; simp [encs]; omega
theorem enc_pos (t : T) : 1 ≤ (enc t).length := by
  cases t <;> simp [enc] <;> omega
theorem encs_ge : ∀ ks : List T, ks.length ≤ (encs ks).length
  | [] => by simp
  | k :: ks => by have := encs_ge ks; have := enc_pos k; simp [encs]; omega
theorem enc_list_len (ks : List T) : (enc (.list ks)).length = (encs ks).length + 2 := by simp [enc]

set_option maxHeartbeats 2000000 in
set_option maxRecDepth 100000 in
theorem node_any (B : Nat) : ∀ (h : Nat) (t : T) (v : Value) (W : World) (bw : Nat) (out : List UInt8) (vo : Value) (deep : Nat), Rep W B h t v → B ≤ bw → Env W → 3 + 1 ≤ bw → WS W bw out 0 vo → out.length ≤ 65536 → deep + h ≤ 32 →
    Calls Tryz.prog 40 #[.pointer (some ⟨bw, 0, none⟩), v, .int .i64 deep] W fun e W' => e = .returned (.tuple #[]) ∧ ND W W' bw out (enc t) := by
  intro h
  induction h with
  | zero =>
    intro t v W bw out vo deep hr hB hE hbw hS hl hd
    cases hr with
    | leaf _ s => exact node_leaf W bw out s vo deep hE hS hl
  | succ h ih =>
    intro t v W bw out vo deep hr hB hE hbw hS0 hl hd
    cases hr with
    | leaf _ s => exact node_leaf W bw out s vo deep hE hS0 hl
    | list _ ks sl cap x y z hc hrk =>
      have hX : Below W.heap.size W (W.alloc (.cells #[.bool false, .string ⟨#[]⟩, .slice sl ks.length cap] 39)) := (Below.refl _ _).alloc (Nat.le_refl _) _
      have hS := hS0.keep hX
      have hF0 : Fr W (W.alloc (.cells #[.bool false, .string ⟨#[]⟩, .slice sl ks.length cap] 39)) bw := Fr.of_below hX (Nat.le_of_lt hS0.lt)
      have hE0 := hE.below hX
      have hbox : (W.alloc (.cells #[.bool false, .string ⟨#[]⟩, .slice sl ks.length cap] 39)).heap[W.heap.size]? = some (.cells #[.bool false, .string ⟨#[]⟩, .slice sl ks.length cap] 39 (0, 0)) := heap_alloc_new W _
      have hbn : bw < W.heap.size := hS0.lt
      have hq : ¬ (32 : Int) ≤ deep := by omega
      go_enter Tryz.func40, Tryz.ntmps40
      go_wp2_with fail
      refine (put_f _ bw out ⟨#[40]⟩ vo hS (by show _ + 1 ≤ _; omega)).mono ?_
      rintro e w1 ⟨rfl, ⟨v1, hS1⟩, hfr1⟩
      have hF1 := hF0.trans hfr1
      have hb1 := hfr1.block W.heap.size (by simp) (by omega) (by rw [hbox]; intro cur e; cases e)
      have hbx1 := hb1.trans hbox
      have hP0 : LP w1 bw out ks 0 (out ++ [40]) (full (out.length + 1)) v1 := ⟨hS1, by simp [encs], fun _ => by simp [encs]⟩
      clear hX hS hS0 hF0 hE0 hbox hb1 hfr1 hS1
      go_wp2_with fail
      go_loopw [6] (fun i wr => ∃ (k : Nat) (o : List UInt8) (f : Int) (u : Value), k ≤ ks.length ∧ i = .int .i64 k ∧ LP wr bw out ks k o f u ∧ Fr W wr bw ∧ wr.heap[W.heap.size]? = some (.cells #[.bool false, .string ⟨#[]⟩, .slice sl ks.length cap] 39 (0, 0))) (fun i _ => ks.length - (intOf i).toNat)
      case atStart => exact ⟨0, _, _, _, Nat.zero_le _, rfl, hP0, hF1, hbx1⟩
      case round =>
        obtain ⟨k, o, f, u, hk, rfl, hP, hF, hbx⟩ := hrel
        clear hP0 hF1 hbx1
        have hq2 : wr.cell? ⟨W.heap.size, 2, none⟩ = some (.slice sl ks.length cap) := by simp [World.cell?, hbx]
        have hf1 := hP.ws.c1
        have hfe := hP.fe
        have hoe := hP.oe
        have hel := encs_le ks k
        have hlen := enc_list_len ks
        by_cases hfl : 65536 < out.length + 1 + (encs (ks.take k)).length
        · rw [full_tt hfl] at hfe
          subst hfe
          have hN := Lib.hid (full_tt (n := out.length + (enc (.list ks)).length) (by omega))
          have HP := Lib.hid hP.ws
          have HL := Lib.hid (show ¬ out.length + (enc (.list ks)).length ≤ 65536 by omega)
          clear hoe hP
          go_wp2
          all_goals
            go_end0
            exact ⟨rfl, ⟨o, u, by rw [hN.out]; exact HP.out, fun h => absurd h HL.out⟩, hF⟩
        · rw [full_ff hfl] at hfe
          subst hfe
          have ho := hoe (by omega)
          have hol : o.length = out.length + 1 + (encs (ks.take k)).length := by rw [ho]; simp; omega
          by_cases hlt : k < ks.length
          · obtain ⟨t, ht⟩ : ∃ t, ks[k]? = some t := ⟨ks[k], List.getElem?_eq_getElem hlt⟩
            obtain ⟨b, a, rfl, hb, h1, h2, h3⟩ := hc k t ht
            have hbw0 := hF.below
            have hsame : ∀ b o, b < B → wr.cell? ⟨b, o, none⟩ = W.cell? ⟨b, o, none⟩ := fun b o hb => hbw0.cell (p := ⟨b, o, none⟩) (by show b < bw; omega)
            have g1 := (hsame b _ hb).trans h1
            have g2 := (hsame b _ hb).trans h2
            have g3 := (hsame b _ hb).trans h3
            have hk0 := ih t _ wr bw o u (deep + 1) ((hrk k t ht).same hsame) hB (hE.low hbw hbw0) hbw hP.ws (by omega) (by omega)
            have het := encs_take ht
            have HT := Lib.hid het
            have HO := Lib.hid ho
            have HC := Lib.hid hc
            have HR := Lib.hid hrk
            have hbnd : W.heap.size < wr.heap.size := by
              rcases Nat.lt_or_ge W.heap.size wr.heap.size with h' | h'
              · exact h'
              · rw [Array.getElem?_eq_none h'] at hbx; cases hbx
            have hkb : k ≤ 65536 := by
              have h := encs_ge (ks.take k)
              rw [List.length_take] at h
              omega
            have hdeep : IntKind.i64.wrap ((deep : Int) + 1) = ((deep + 1 : Nat) : Int) := by rw [IntWalk.i64_in _ (by omega)]; omega
            clear hc hrk ht het ho hoe h1 h2 h3 hel hlen hsame
            go_wp2_with fail
            refine hk0.mono ?_
            rintro e w2 ⟨rfl, ⟨o2, v2, hws2, hoe2⟩, hfr2⟩
            have hb2 := (hfr2.block W.heap.size hbnd (by omega) (by rw [hbx]; intro cur e; cases e)).trans hbx
            go_wp2
            go_roundw
            case rel =>
              refine ⟨k + 1, o2, _, v2, by omega, by go_num, ⟨hws2, ?_, fun hle => ?_⟩, hF.trans hfr2, hb2⟩
              · rw [HT.out, List.length_append, hol, Nat.add_assoc]
              · rw [HT.out, List.length_append] at hle
                rw [hoe2 (by rw [hol]; omega), HO.out, HT.out]
                simp
            case measure => simp [intOf]; omega
          · obtain rfl : k = ks.length := by omega
            rw [List.take_length] at hfl hol ho hel
            have HP := Lib.hid hP.ws
            have HO := Lib.hid ho
            clear hoe hP ho hc hrk
            go_wp2_with fail
            refine (put_f wr bw o ⟨#[41]⟩ u HP.out (by show _ + 1 ≤ _; omega)).mono ?_
            rintro e w2 ⟨rfl, ⟨v2, hws2⟩, hfr2⟩
            have hN := Lib.hid (show o.length + (⟨#[41]⟩ : ByteArray).size = out.length + (enc (.list ks)).length by rw [hlen, hol]; show _ + 1 = _; omega)
            go_wp2
            go_end0
            refine ⟨rfl, ⟨_, v2, by rw [← hN.out]; exact hws2, fun _ => ?_⟩, hF.trans hfr2⟩
            rw [HO.out]
            simp [enc]
end Sx
end Go.Proofs.YtbhngjhfeejeiaaGreatDoor
