/-
  The reference's Same: what is the same is found the same.
-/
import Derived.Test.YtcigggffaofkhaaRcPc
namespace Go.Proofs.Ytcigggffaofkhaa
open Go.RowKit
namespace Rc

/-- each part has few kids -/
inductive Few : E → Prop
  | mk (k : Int) (s : ByteArray) (ks : List E) (hl : ks.length ≤ 4611686018427387904) (hk : ∀ x ∈ ks, Few x) : Few (.mk k s ks)
theorem sizeOf_kid {k : Int} {s : ByteArray} {ks : List E} {x : E} {i : Nat} (h : ks[i]? = some x) : SizeOf.sizeOf x < SizeOf.sizeOf (E.mk k s ks) := by
  have := List.sizeOf_lt_of_mem (List.mem_of_getElem? h)
  simp only [E.mk.sizeOf_spec]
  omega
set_option maxHeartbeats 4000000 in
set_option maxRecDepth 100000 in
theorem rsame_tt : ∀ (h : Nat) (x : E), SizeOf.sizeOf x < h → Few x → ∀ (W : World) (S S' : Nat → Prop) (v v' : Value), (∀ b, S b → b < W.heap.size) → (∀ b, S' b → b < W.heap.size) → RepX W S x v → RepX W S' x v' →
    Calls Try.prog 35 #[v, v'] W fun e W' => e = .returned (.bool true) ∧ Below W.heap.size W W' := by
  intro h
  induction h with
  | zero => intro x hx; omega
  | succ h ih =>
    intro x hx hfew W S S' v v' hS hS' hr hr'
    cases hr with
    | mk kd s ks sl cap x1 y1 z1 hcap hc hrk =>
      cases hr' with
      | mk _ _ _ sl' cap' x2 y2 z2 hcap' hc' hrk' =>
        cases hfew with
        | mk _ _ _ hlen hfk =>
          have hX : Below W.heap.size W ((W.alloc (.cells #[.int .i64 kd, .string s, .slice sl ks.length cap] 26)).alloc (.cells #[.int .i64 kd, .string s, .slice sl' ks.length cap'] 26)) := ((Below.refl _ _).alloc (Nat.le_refl _) _).alloc (by simp) _
          have p2 : ((W.alloc (.cells #[.int .i64 kd, .string s, .slice sl ks.length cap] 26)).alloc (.cells #[.int .i64 kd, .string s, .slice sl' ks.length cap'] 26)).cell? ⟨W.heap.size, 2, none⟩ = some (.slice sl ks.length cap) := by go_simp
          have p3 : ((W.alloc (.cells #[.int .i64 kd, .string s, .slice sl ks.length cap] 26)).alloc (.cells #[.int .i64 kd, .string s, .slice sl' ks.length cap'] 26)).cell? ⟨W.heap.size + 1, 2, none⟩ = some (.slice sl' ks.length cap') := by go_simp
          have HC := Lib.hid hc
          have HC' := Lib.hid hc'
          have HR := Lib.hid hrk
          have HR' := Lib.hid hrk'
          have HS := Lib.hid hS
          have HS' := Lib.hid hS'
          have HF := Lib.hid hfk
          have HX := Lib.hid hx
          clear hc hc' hrk hrk' hS hS' hfk hx
          go_enter Try.func35, Try.ntmps35
          go_wp2_with fail
          go_loopw [30] (fun i wr => ∃ k : Nat, k ≤ ks.length ∧ i = .int .i64 k ∧ Below (W.heap.size + 2) ((W.alloc (.cells #[.int .i64 kd, .string s, .slice sl ks.length cap] 26)).alloc (.cells #[.int .i64 kd, .string s, .slice sl' ks.length cap'] 26)) wr) (fun i _ => ks.length - (intOf i).toNat)
          case atStart => exact ⟨0, Nat.zero_le _, rfl, Below.refl _ _⟩
          case round =>
            obtain ⟨k, hk, rfl, hb⟩ := hrel
            have c2 := (hb.cell (p := ⟨W.heap.size, 2, none⟩) (by show W.heap.size < _; omega)).trans p2
            have c3 := (hb.cell (p := ⟨W.heap.size + 1, 2, none⟩) (by show W.heap.size + 1 < _; omega)).trans p3
            have hbW := hX.trans (hb.mono (Nat.le_add_right _ 2))
            clear p2 p3 hX
            by_cases hlt : k < ks.length
            · obtain ⟨u, hu⟩ : ∃ u, ks[k]? = some u := ⟨ks[k], List.getElem?_eq_getElem hlt⟩
              obtain ⟨b, a, rfl, hbl, h1, h2, h3⟩ := HC.out k u hu
              obtain ⟨b', a', rfl, hbl', h1', h2', h3'⟩ := HC'.out k u hu
              have hsame : ∀ b o, b < W.heap.size → wr.cell? ⟨b, o, none⟩ = W.cell? ⟨b, o, none⟩ := fun b o hb => hbW.cell (p := ⟨b, o, none⟩) (by show b < _; omega)
              have g1 := Sx.ext_cell ((hsame b _ (HS.out b hbl)).trans h1)
              have g2 := Sx.ext_cell ((hsame b _ (HS.out b hbl)).trans h2)
              have g3 := Sx.ext_cell ((hsame b _ (HS.out b hbl)).trans h3)
              have g1' := Sx.ext_cell ((hsame b' _ (HS'.out b' hbl')).trans h1')
              have g2' := Sx.ext_cell ((hsame b' _ (HS'.out b' hbl')).trans h2')
              have g3' := Sx.ext_cell ((hsame b' _ (HS'.out b' hbl')).trans h3')
              have d2 := Sx.ext_cell c2
              have d3 := Sx.ext_cell c3
              have hkw : IntKind.i64.wrap ((k : Int) + 1) = (k : Int) + 1 := IntWalk.i64_in _ (by omega)
              have hsz : ∀ Y, W.heap.size ≤ (Sx.ext wr Y).heap.size := fun Y => Nat.le_trans hbW.size (Sx.ext_below wr Y).size
              have hsame2 : ∀ Y b o, b < W.heap.size → (Sx.ext wr Y).cell? ⟨b, o, none⟩ = W.cell? ⟨b, o, none⟩ := fun Y b o hb => ((Sx.ext_below wr Y).cell (p := ⟨b, o, none⟩) (by show b < _; have := hbW.size; omega)).trans (hsame b o hb)
              have hk0 := fun Y => ih u (by have := sizeOf_kid (k := kd) (s := s) hu; have := HX.out; omega) (HF.out u (List.mem_of_getElem? hu)) (Sx.ext wr Y) S S' _ _ (fun b hb => Nat.lt_of_lt_of_le (HS.out b hb) (hsz Y)) (fun b hb => Nat.lt_of_lt_of_le (HS'.out b hb) (hsz Y)) ((HR.out k u hu).same fun b o hb => hsame2 Y b o (HS.out b hb)) ((HR'.out k u hu).same fun b o hb => hsame2 Y b o (HS'.out b hb))
              clear hsame hsame2 hsz h1 h2 h3 h1' h2' h3' c2 c3 hu
              go_wp2_with fail
              refine Sx.wp_region_ext (X := wr) (by kernel_rfl) (by kernel_rfl) ?_
              repeat (go_big_quiet_step ((go_at_call 35; exact Sx.calls_ext (hk0 _))))
              refine wpQuiet_nil ?_
              intro _ hw'
              obtain ⟨Y, hw''⟩ := hw'
              subst hw''
              have hb2 := hb.trans ((Sx.ext_below wr Y).mono (by have := hb.size; simp at this; omega))
              clear g1 g2 g3 g1' g2' g3' d2 d3 hk0
              go_wp2_with fail
              go_roundw
              case rel => exact ⟨k + 1, by omega, by go_num, hb2⟩
              case measure => simp [intOf]; omega
            · obtain rfl : k = ks.length := by omega
              go_wp2_with fail
              go_ret
              exact ⟨rfl, hbW⟩
end Rc
end Go.Proofs.Ytcigggffaofkhaa
