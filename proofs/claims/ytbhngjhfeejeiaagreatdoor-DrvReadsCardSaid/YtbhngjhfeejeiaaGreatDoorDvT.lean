/-
  Walks: is there a list among trees? (drv.atoms)
-/
import Derived.Test.YtbhngjhfeejeiaaGreatDoorSxT
namespace Go.Proofs.YtbhngjhfeejeiaaGreatDoor
open Go.RowKit
namespace Sx

set_option maxHeartbeats 400000 in
theorem tag_any (β : Bool) (σ : ByteArray) (sl : Option Addr) (n cap : Nat) (w : World) : Calls Tryz.prog 24 #[.agg #[.bool β, .string σ, .slice sl n cap]] w fun e w' => e = .returned (.bool (!β)) ∧ Below w.heap.size w w' := by
  go_enter Tryz.func24, Tryz.ntmps24
  go_wp2
  go_ret
  exact ⟨rfl, (Below.refl _ _).alloc (Nat.le_refl _) _⟩

set_option maxHeartbeats 1000000 in
theorem findl_any (ks : List T) (sl : Option Addr) (cap : Nat) (x y z : Nat → Value) (B h : Nat) (w : World) (hB : B ≤ w.heap.size) (hk : ks.length ≤ 65536)
    (hc : ∀ i k, ks[i]? = some k → ∃ b o, sl = some ⟨b, o, none⟩ ∧ b < B ∧ w.cell? ⟨b, o + i * 3, none⟩ = some (x i) ∧ w.cell? ⟨b, o + i * 3 + 1, none⟩ = some (y i) ∧ w.cell? ⟨b, o + i * 3 + 2, none⟩ = some (z i))
    (hr : ∀ i k, ks[i]? = some k → Rep w B h k (.agg #[x i, y i, z i])) :
    Calls Tryz.prog 43 #[.slice sl ks.length cap, .func (.func 24) #[] #[]] w fun e w' => e = .returned (.int .i64 (fL ks)) ∧ Below w.heap.size w w' := by
  have HC := Lib.hid hc
  have HR := Lib.hid hr
  clear hc hr
  go_enter Tryz.func43, Tryz.ntmps43
  go_wp2_with fail
  go_loopw [8] (fun i wr => ∃ k : Nat, k ≤ ks.length ∧ i = .int .i64 k ∧ (∀ (j : Nat) (u : T), j < k → ks[j]? = some u → isL u = false) ∧ Below w.heap.size w wr) (fun i _ => ks.length - (intOf i).toNat)
  case atStart => exact ⟨0, Nat.zero_le _, rfl, by omega, Below.refl _ _⟩
  case round =>
    obtain ⟨k, hk', rfl, hn, hb⟩ := hrel
    have HN := Lib.hid hn
    clear hn
    by_cases hlt : k < ks.length
    · obtain ⟨u, hu⟩ : ∃ u, ks[k]? = some u := ⟨ks[k], List.getElem?_eq_getElem hlt⟩
      obtain ⟨b, a, rfl, hbl, h1, h2, h3⟩ := HC.out k u hu
      have hrk := HR.out k u hu
      obtain ⟨e1, e2, sl', cap', e3⟩ := hrk.vals
      rw [e1] at h1
      rw [e2] at h2
      rw [e3] at h3
      have hlb : b < w.heap.size := by omega
      have g1 := ((bcell hb).1 b _ hlb).trans h1
      have g2 := ((bcell hb).1 b _ hlb).trans h2
      have g3 := ((bcell hb).1 b _ hlb).trans h3
      have HU := Lib.hid hu
      clear h1 h2 h3 e1 e2 e3 hrk hu
      cases ht : isL u with
      | true =>
        have HF := Lib.hid (fL_hit HU.out ht HN.out)
        rw [ht] at g1
        clear ht
        go_wp2_with fail
        refine (tag_any _ _ _ _ _ _).mono ?_
        rintro e w2 ⟨rfl, hb2⟩
        go_wp2
        go_ret
        exact ⟨ret_int HF.out.symm, hb.trans (hb2.mono hb.size)⟩
      | false =>
        have HF := Lib.hid (show ∀ (j : Nat) (u : T), j < k + 1 → ks[j]? = some u → isL u = false from fun j u' h1 h2 => by
          by_cases h : j < k
          · exact HN.out j u' h h2
          · obtain rfl : j = k := by omega
            obtain rfl : u = u' := Option.some.inj (HU.out.symm.trans h2)
            exact ht)
        rw [ht] at g1
        clear ht
        go_wp2_with fail
        refine (tag_any _ _ _ _ _ _).mono ?_
        rintro e w2 ⟨rfl, hb2⟩
        go_wp2
        go_roundw
        case rel => exact ⟨k + 1, by omega, by go_num, HF.out, hb.trans (hb2.mono hb.size)⟩
        case measure => simp [intOf]; omega
    · have HF := Lib.hid (fL_none (ks := ks) (fun j u hj => HN.out j u (by
        have := (List.getElem?_eq_some_iff.1 hj).1
        omega) hj))
      go_wp2
      go_ret
      exact ⟨ret_int HF.out.symm, hb⟩

set_option maxHeartbeats 400000 in
theorem containsl_any (ks : List T) (sl : Option Addr) (cap : Nat) (x y z : Nat → Value) (B h : Nat) (w : World) (hB : B ≤ w.heap.size) (hk : ks.length ≤ 65536)
    (hc : ∀ i k, ks[i]? = some k → ∃ b o, sl = some ⟨b, o, none⟩ ∧ b < B ∧ w.cell? ⟨b, o + i * 3, none⟩ = some (x i) ∧ w.cell? ⟨b, o + i * 3 + 1, none⟩ = some (y i) ∧ w.cell? ⟨b, o + i * 3 + 2, none⟩ = some (z i))
    (hr : ∀ i k, ks[i]? = some k → Rep w B h k (.agg #[x i, y i, z i])) :
    Calls Tryz.prog 23 #[.slice sl ks.length cap, .func (.func 24) #[] #[]] w fun e w' => e = .returned (.bool (decide (0 ≤ fL ks))) ∧ Below w.heap.size w w' := by
  have hf := findl_any ks sl cap x y z B h w hB hk hc hr
  clear hc hr
  go_enter Tryz.func23, Tryz.ntmps23
  go_wp2_with fail
  refine hf.mono ?_
  rintro e w2 ⟨rfl, hb2⟩
  go_wp2
  go_ret
  exact ⟨rfl, hb2⟩
end Sx
end Go.Proofs.YtbhngjhfeejeiaaGreatDoor
