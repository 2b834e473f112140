/-
  Walk: the reference's Put, for every tree.
-/
import Derived.Test.YtbhngjhfeejeiaaDoorSxO
namespace Go.Proofs.YtbhngjhfeejeiaaDoor
open Go.RowKit
namespace Sx

set_option maxHeartbeats 2000000 in
set_option maxRecDepth 100000 in
theorem putr_any (B0 : Nat) : ∀ (h : Nat) (t : T) (v : Value) (W : World) (B : Nat) (out : List UInt8) (vb : Value) (deep : Nat), Rep W B0 h t v → B0 ≤ B → Env W → 3 + 1 ≤ B → B ≤ W.heap.size → W.ownsRow B 5 1 vb out.length (u8s out) → out.length ≤ 65536 → deep + h ≤ 32 →
    Calls Tryd.prog 39 #[vb, v, .int .i64 deep] W fun e W' => ∃ v', e = .returned (.tuple #[v', .int .i64 (full (out.length + (enc t).length))]) ∧ PD W W' B out (enc t) v' := by
  intro h
  induction h with
  | zero =>
    intro t v W B out vb deep hr hB0 hE hB6 hB hown hl hd
    cases hr with
    | leaf _ s => exact putr_leaf W B out s vb deep hE hB hown hl
  | succ h ih =>
    intro t v W B out vb deep hr hB0 hE hB6 hB hown hl hd
    cases hr with
    | leaf _ s => exact putr_leaf W B out s vb deep hE hB hown hl
    | list _ ks sl cap x y z hc hrk =>
      obtain ⟨i0, hi0, hz0, hz1, hz2⟩ := info_parts info_u8
      have hX : Below W.heap.size W (W.alloc (.cells #[.bool false, .string ⟨#[]⟩, .slice sl ks.length cap] 43)) := (Below.refl _ _).alloc (Nat.le_refl _) _
      have hX2 := hX.alloc hX.size (.cells #[.int .u8 40] 5)
      have hF0 : Fp W ((W.alloc (.cells #[.bool false, .string ⟨#[]⟩, .slice sl ks.length cap] 43)).alloc (.cells #[.int .u8 40] 5)) B := Fp.of_below hX2 hB
      have hbox : (W.alloc (.cells #[.bool false, .string ⟨#[]⟩, .slice sl ks.length cap] 43)).heap[W.heap.size]? = some (.cells #[.bool false, .string ⟨#[]⟩, .slice sl ks.length cap] 43 (0, 0)) := heap_alloc_new W _
      have hbox2 := (Fp.of_below (B := B) ((Below.refl _ (W.alloc (.cells #[.bool false, .string ⟨#[]⟩, .slice sl ks.length cap] 43))).alloc (Nat.le_refl _) (.cells #[.int .u8 40] 5)) (Nat.le_trans hB hX.size)).box hbox
      have hown2 := (hown.alloc (.cells #[.bool false, .string ⟨#[]⟩, .slice sl ks.length cap] 43)).alloc (.cells #[.int .u8 40] 5)
      have hq : ((deep : Int) == 32) = false := by simp; omega
      have hs2 : B ≤ ((W.alloc (.cells #[.bool false, .string ⟨#[]⟩, .slice sl ks.length cap] 43)).alloc (.cells #[.int .u8 40] 5)).heap.size := Nat.le_trans hB hX2.size
      have hlc := lit_cells (W.alloc (.cells #[.bool false, .string ⟨#[]⟩, .slice sl ks.length cap] 43)) (.int .u8 40) 5
      have hsz : (W.alloc (.cells #[.bool false, .string ⟨#[]⟩, .slice sl ks.length cap] 43)).heap.size = W.heap.size + 1 := by simp
      rw [hsz] at hlc
      go_enter Tryd.func39, Tryd.ntmps39
      go_wp2_with (first
        | (at_builtin; refine wpList_append_own _ rfl _ _ 66 rfl B 5 i0 _ 1 1 Tryd.underlying66 hi0 hz0 hz1 hz2 rfl (by decide) vb _ _ rfl hown2 ⟨W.heap.size + 1, 0, none⟩ 1 1 [.int .u8 40] rfl rfl hlc (lit_one _) (by unfold maxLen; omega) (by omega) hs2 ?_))
      intro v2 w2 hown3 hg3 _
      have hF2 := Fp.of_grown hown2 hg3 hs2
      have hbx2 := hF2.box hbox2
      have hFF2 := hF0.trans hF2
      have hown3' : w2.ownsRow B 5 1 v2 (out ++ [40]).length (u8s (out ++ [40])) := own_byte (c := 40) hown3
      have HO := Lib.hid hown3'
      have hlen : (out ++ [40]).length = out.length + 1 := by simp
      rw [hlen] at hown3'
      obtain ⟨s2, c2, rfl⟩ := own_form hown3'
      clear hown hown2 hown3 hown3' hg3 hF0 hF2 hbox hbox2 hX hX2 hlc hlen hs2
      go_wp2_with fail
      refine (room_any s2 (out.length + 1) c2 _).mono ?_
      rintro e w3 ⟨rfl, hb3⟩
      have hF3 := hFF2.trans (Fp.of_below hb3 (Nat.le_trans hB hFF2.below.size))
      have hbx3 := (Fp.of_below (B := B) hb3 (Nat.le_trans hB hFF2.below.size)).box hbx2
      have hown4 := own_block HO.out (fun g hg => hb3.block g (HO.out.lt g hg).2)
      have HP : out.length + 1 + (encs (ks.take 0)).length ≤ 65536 → w3.ownsRow B 5 1 (roomV (.slice s2 (out.length + 1) c2) (out.length + 1)) (out ++ 40 :: encs (ks.take 0)).length (u8s (out ++ 40 :: encs (ks.take 0))) := fun hle => by
        rw [roomV_ff (by omega)]
        simpa [encs] using hown4
      clear hown4 hb3 hFF2 hbx2
      go_wp2_with fail
      go_loopw [0, 8, 9] (fun b e i wr => ∃ k : Nat, k ≤ ks.length ∧ i = .int .i64 k ∧ e = .int .i64 (full (out.length + 1 + (encs (ks.take k)).length)) ∧ (out.length + 1 + (encs (ks.take k)).length ≤ 65536 → wr.ownsRow B 5 1 b (out ++ 40 :: encs (ks.take k)).length (u8s (out ++ 40 :: encs (ks.take k)))) ∧ Fp W wr B ∧ wr.heap[W.heap.size]? = some (.cells #[.bool false, .string ⟨#[]⟩, .slice sl ks.length cap] 43 (0, 0))) (fun _ _ i _ => ks.length - (intOf i).toNat)
      case atStart => exact ⟨0, Nat.zero_le _, rfl, by simp [encs], HP, hF3, hbx3⟩
      case round =>
        obtain ⟨k, hk, rfl, rfl, hP, hF, hbx⟩ := hrel
        clear HP hF3 hbx3
        obtain ⟨q0, q1, q2⟩ := box_cell hbx
        have hel := encs_le ks k
        have hlen := enc_list_len ks
        by_cases hfl : 65536 < out.length + 1 + (encs (ks.take k)).length
        · have hN := Lib.hid (full_tt (n := out.length + (enc (.list ks)).length) (by omega))
          have HL := Lib.hid (show ¬ out.length + (enc (.list ks)).length ≤ 65536 by omega)
          rw [full_tt hfl]
          clear hP
          go_wp2
          all_goals
            refine bodyPost_ret (v := .tuple #[.slice none 0 0, .int .i64 3]) (by simp [results, Tryd.results39, go_sem]) rfl ⟨.slice none 0 0, by rw [hN.out], fun h => absurd h HL.out, fun _ => rfl, hF⟩
        · rw [full_ff hfl]
          have hown := hP (by omega)
          have hol : (out ++ 40 :: encs (ks.take k)).length = out.length + 1 + (encs (ks.take k)).length := by simp; omega
          by_cases hlt : k < ks.length
          · obtain ⟨t, ht⟩ : ∃ t, ks[k]? = some t := ⟨ks[k], List.getElem?_eq_getElem hlt⟩
            obtain ⟨b, a, rfl, hb, h1, h2, h3⟩ := hc k t ht
            have hbw0 := hF.below
            have hsame : ∀ b o, b < B0 → wr.cell? ⟨b, o, none⟩ = W.cell? ⟨b, o, none⟩ := fun b o hb => hbw0.cell (p := ⟨b, o, none⟩) (by show b < B; omega)
            have g1 := (hsame b _ hb).trans h1
            have g2 := (hsame b _ hb).trans h2
            have g3 := (hsame b _ hb).trans h3
            have hk0 := ih t _ wr B (out ++ 40 :: encs (ks.take k)) _ (deep + 1) ((hrk k t ht).same hsame) hB0 (hE.low hB6 hbw0) hB6 (Nat.le_trans hB hbw0.size) hown (by omega) (by omega)
            rw [hol] at hk0
            have HT := Lib.hid (encs_take ht)
            have HC := Lib.hid hc
            have HR := Lib.hid hrk
            have hkb : k ≤ 65536 := by
              have h := encs_ge (ks.take k)
              rw [List.length_take] at h
              omega
            have hdeep : IntKind.i64.wrap ((deep : Int) + 1) = ((deep + 1 : Nat) : Int) := by rw [IntWalk.i64_in _ (by omega)]; omega
            clear hc hrk ht h1 h2 h3 hel hlen hsame hP hown
            go_wp2_with fail
            refine hk0.mono ?_
            rintro e w5 ⟨v5, rfl, hp5, -, hF5⟩
            have hbx5 := hF5.box hbx
            have HF5 := hF.trans hF5
            clear hk0
            go_wp2
            go_roundw
            case rel =>
              refine ⟨k + 1, by omega, by go_num, ?_, fun hle => ?_, HF5, hbx5⟩
              · rw [HT.out, List.length_append, Nat.add_assoc]
              · rw [HT.out, List.length_append] at hle
                have h := hp5 (by omega)
                rw [HT.out]
                simpa using h
            case measure => simp [intOf]; omega
          · obtain rfl : k = ks.length := by omega
            rw [List.take_length] at hfl hol hown hel
            have hsw : B ≤ wr.heap.size := Nat.le_trans hB hF.below.size
            have hown6 := hown.alloc (.cells #[.int .u8 41] 5)
            have hF6 := Fp.of_below (B := B) ((Below.refl _ wr).alloc (Nat.le_refl _) (.cells #[.int .u8 41] 5)) hsw
            clear hP hc hrk hown
            go_wp2_with (first
              | (at_builtin; refine wpList_append_own _ rfl _ _ 66 rfl B 5 i0 _ 1 1 Tryd.underlying66 hi0 hz0 hz1 hz2 rfl (by decide) _ _ _ rfl hown6 ⟨wr.heap.size, 0, none⟩ 1 1 [.int .u8 41] rfl rfl (lit_cells _ _ _) (lit_one _) (by unfold maxLen; omega) (by omega) (by simp; omega) ?_))
            intro v7 w7 hown7 hg7 _
            have hF7 := hF.trans (hF6.trans (Fp.of_grown hown6 hg7 (by simp; omega)))
            have hown7' : w7.ownsRow B 5 1 v7 (out ++ 40 :: encs ks ++ [41]).length (u8s (out ++ 40 :: encs ks ++ [41])) := own_byte (c := 41) (by rw [hol]; exact hown7)
            have heq : out ++ 40 :: encs ks ++ [41] = out ++ enc (.list ks) := by simp [enc]
            rw [heq] at hown7'
            have HO := Lib.hid hown7'
            rw [List.length_append] at hown7'
            obtain ⟨s7, c7, rfl⟩ := own_form hown7'
            clear hown6 hown7 hown7' hg7 hF6 heq
            generalize hnn : out.length + (enc (.list ks)).length = nn at *
            go_wp2_with fail
            refine (room_any s7 nn c7 _).mono ?_
            rintro e w8 ⟨rfl, hb8⟩
            go_wp2
            refine bodyPost_ret (v := .tuple #[roomV (.slice s7 nn c7) nn, .int .i64 (full nn)]) (by simp [results, Tryd.results39, go_sem]) rfl ⟨roomV (.slice s7 nn c7) nn, by rw [hnn], fun hle => ?_, fun _ => roomV_tt (by omega), hF7.trans (Fp.of_below hb8 (Nat.le_trans hB hF7.below.size))⟩
            rw [roomV_ff (by omega)]
            exact own_block HO.out (fun g hg => hb8.block g (HO.out.lt g hg).2)
end Sx
end Go.Proofs.YtbhngjhfeejeiaaDoor
