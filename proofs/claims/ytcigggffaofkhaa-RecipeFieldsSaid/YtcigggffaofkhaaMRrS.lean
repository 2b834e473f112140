/-
  The reference's Same: what is the same is found the same.
-/
import Derived.Test.YtcigggffaofkhaaRcPc
import Derived.Test.YtcigggffaofkhaaMRrI
namespace Go.Proofs.Ytcigggffaofkhaa
open Go.RowKit
namespace Rc

/-- each part has few kids -/
inductive Few : E → Prop
  | mk (k : Int) (s : ByteArray) (ks : List E) (hl : ks.length ≤ 4611686018427387904) (hk : ∀ x ∈ ks, Few x) : Few (.mk k s ks)
theorem sizeOf_kid {k : Int} {s : ByteArray} {ks : List E} {x : E} {i : Nat} (h : ks[i]? = some x) : SizeOf.sizeOf x < SizeOf.sizeOf (E.mk k s ks) := by
  have := List.sizeOf_lt_of_mem (List.mem_of_getElem? h)
  simp only [E.mk.sizeOf_spec]
  omega
set_option maxHeartbeats 4000000 in
set_option maxRecDepth 100000 in
theorem rsame_tt : ∀ (h : Nat) (x : E), SizeOf.sizeOf x < h → Few x → ∀ (W : World) (S S' : Nat → Prop) (v v' : Value), (∀ b, S b → b < W.heap.size) → (∀ b, S' b → b < W.heap.size) → RepX W S x v → RepX W S' x v' →
    Calls Try.prog 35 #[v, v'] W fun e W' => e = .returned (.bool true) ∧ Below W.heap.size W W' := by
  intro h
  induction h with
  | zero => intro x hx; omega
  | succ h ih =>
    intro x hx hfew W S S' v v' hS hS' hr hr'
    cases hr with
    | mk kd s ks sl cap x1 y1 z1 hcap hc hrk =>
      cases hr' with
      | mk _ _ _ sl' cap' x2 y2 z2 hcap' hc' hrk' =>
        cases hfew with
        | mk _ _ _ hlen hfk =>
          have hX : Below W.heap.size W ((W.alloc (.cells #[.int .i64 kd, .string s, .slice sl ks.length cap] 26)).alloc (.cells #[.int .i64 kd, .string s, .slice sl' ks.length cap'] 26)) := ((Below.refl _ _).alloc (Nat.le_refl _) _).alloc (by simp) _
          have p2 : ((W.alloc (.cells #[.int .i64 kd, .string s, .slice sl ks.length cap] 26)).alloc (.cells #[.int .i64 kd, .string s, .slice sl' ks.length cap'] 26)).cell? ⟨W.heap.size, 2, none⟩ = some (.slice sl ks.length cap) := by go_simp
          have p3 : ((W.alloc (.cells #[.int .i64 kd, .string s, .slice sl ks.length cap] 26)).alloc (.cells #[.int .i64 kd, .string s, .slice sl' ks.length cap'] 26)).cell? ⟨W.heap.size + 1, 2, none⟩ = some (.slice sl' ks.length cap') := by go_simp
          have HC := Lib.hid hc
          have HC' := Lib.hid hc'
          have HR := Lib.hid hrk
          have HR' := Lib.hid hrk'
          have HS := Lib.hid hS
          have HS' := Lib.hid hS'
          have HF := Lib.hid hfk
          have HX := Lib.hid hx
          clear hc hc' hrk hrk' hS hS' hfk hx
          go_enter Try.func35, Try.ntmps35
          go_wp2_with fail
          go_loopw [30] (fun i wr => ∃ k : Nat, k ≤ ks.length ∧ i = .int .i64 k ∧ Below (W.heap.size + 2) ((W.alloc (.cells #[.int .i64 kd, .string s, .slice sl ks.length cap] 26)).alloc (.cells #[.int .i64 kd, .string s, .slice sl' ks.length cap'] 26)) wr) (fun i _ => ks.length - (intOf i).toNat)
          case atStart => exact ⟨0, Nat.zero_le _, rfl, Below.refl _ _⟩
          case round =>
            obtain ⟨k, hk, rfl, hb⟩ := hrel
            have c2 := (hb.cell (p := ⟨W.heap.size, 2, none⟩) (by show W.heap.size < _; omega)).trans p2
            have c3 := (hb.cell (p := ⟨W.heap.size + 1, 2, none⟩) (by show W.heap.size + 1 < _; omega)).trans p3
            have hbW := hX.trans (hb.mono (Nat.le_add_right _ 2))
            clear p2 p3 hX
            by_cases hlt : k < ks.length
            · obtain ⟨u, hu⟩ : ∃ u, ks[k]? = some u := ⟨ks[k], List.getElem?_eq_getElem hlt⟩
              obtain ⟨b, a, rfl, hbl, h1, h2, h3⟩ := HC.out k u hu
              obtain ⟨b', a', rfl, hbl', h1', h2', h3'⟩ := HC'.out k u hu
              have hsame : ∀ b o, b < W.heap.size → wr.cell? ⟨b, o, none⟩ = W.cell? ⟨b, o, none⟩ := fun b o hb => hbW.cell (p := ⟨b, o, none⟩) (by show b < _; omega)
              have g1 := Sx.ext_cell ((hsame b _ (HS.out b hbl)).trans h1)
              have g2 := Sx.ext_cell ((hsame b _ (HS.out b hbl)).trans h2)
              have g3 := Sx.ext_cell ((hsame b _ (HS.out b hbl)).trans h3)
              have g1' := Sx.ext_cell ((hsame b' _ (HS'.out b' hbl')).trans h1')
              have g2' := Sx.ext_cell ((hsame b' _ (HS'.out b' hbl')).trans h2')
              have g3' := Sx.ext_cell ((hsame b' _ (HS'.out b' hbl')).trans h3')
              have d2 := Sx.ext_cell c2
              have d3 := Sx.ext_cell c3
              have hkw : IntKind.i64.wrap ((k : Int) + 1) = (k : Int) + 1 := IntWalk.i64_in _ (by omega)
              have hsz : ∀ Y, W.heap.size ≤ (Sx.ext wr Y).heap.size := fun Y => Nat.le_trans hbW.size (Sx.ext_below wr Y).size
              have hsame2 : ∀ Y b o, b < W.heap.size → (Sx.ext wr Y).cell? ⟨b, o, none⟩ = W.cell? ⟨b, o, none⟩ := fun Y b o hb => ((Sx.ext_below wr Y).cell (p := ⟨b, o, none⟩) (by show b < _; have := hbW.size; omega)).trans (hsame b o hb)
              have hk0 := fun Y => ih u (by have := sizeOf_kid (k := kd) (s := s) hu; have := HX.out; omega) (HF.out u (List.mem_of_getElem? hu)) (Sx.ext wr Y) S S' _ _ (fun b hb => Nat.lt_of_lt_of_le (HS.out b hb) (hsz Y)) (fun b hb => Nat.lt_of_lt_of_le (HS'.out b hb) (hsz Y)) ((HR.out k u hu).same fun b o hb => hsame2 Y b o (HS.out b hb)) ((HR'.out k u hu).same fun b o hb => hsame2 Y b o (HS'.out b hb))
              clear hsame hsame2 hsz h1 h2 h3 h1' h2' h3' c2 c3 hu
              go_wp2_with fail
              refine Sx.wp_region_ext (X := wr) (by kernel_rfl) (by kernel_rfl) ?_
              repeat (go_big_quiet_step ((go_at_call 35; exact Sx.calls_ext (hk0 _))))
              refine wpQuiet_nil ?_
              intro _ hw'
              obtain ⟨Y, hw''⟩ := hw'
              subst hw''
              have hb2 := hb.trans ((Sx.ext_below wr Y).mono (by have := hb.size; simp at this; omega))
              clear g1 g2 g3 g1' g2' g3' d2 d3 hk0
              go_wp2_with fail
              go_roundw
              case rel => exact ⟨k + 1, by omega, by go_num, hb2⟩
              case measure => simp [intOf]; omega
            · obtain rfl : k = ks.length := by omega
              go_wp2_with fail
              go_ret
              exact ⟨rfl, hbW⟩
end Rc
end Go.Proofs.Ytcigggffaofkhaa

/-
  The reference's SameSource: what is the same is found the same.
-/
namespace Go.Proofs.Ytcigggffaofkhaa
open Go.RowKit
namespace Rc

/-- each part of a source has few kids -/
def FewS (x : Src) : Prop := Few x.name ∧ Few x.version ∧ x.fields.length ≤ 4611686018427387904 ∧ ∀ f ∈ x.fields, Few f.2.1 ∧ Few f.2.2
theorem rsame_any {x : E} (hf : Few x) (W : World) (S S' : Nat → Prop) (v v' : Value) (hS : ∀ b, S b → b < W.heap.size) (hS' : ∀ b, S' b → b < W.heap.size) (hr : RepX W S x v) (hr' : RepX W S' x v') :
    Calls Try.prog 35 #[v, v'] W fun e W' => e = .returned (.bool true) ∧ Below W.heap.size W W' := rsame_tt _ x (Nat.lt_succ_self _) hf W S S' v v' hS hS' hr hr'
theorem RepX.keep {W W' : World} {S : Nat → Prop} {x : E} {v : Value} (hr : RepX W S x v) (hS : ∀ b, S b → b < W.heap.size) (hb : Below W.heap.size W W') : RepX W' S x v := hr.move fun b h => ⟨h, hb.block b (hS b h)⟩
theorem FS.keep {W W' : World} {S : Nat → Prop} {sl : Option Addr} {n : Nat} {ts : List (Int × E × E)} (hr : FS W S sl n ts) (hS : ∀ b, S b → b < W.heap.size) (hb : Below W.heap.size W W') : FS W' S sl n ts := hr.move fun b h => ⟨h, hb.block b (hS b h)⟩
set_option maxHeartbeats 4000000 in
set_option maxRecDepth 100000 in
theorem rsames_any {x : Src} (hf : FewS x) (W : World) (S S' : Nat → Prop) (v v' : Value) (hS : ∀ b, S b → b < W.heap.size) (hS' : ∀ b, S' b → b < W.heap.size) (hr : RepR W S x v) (hr' : RepR W S' x v') :
    Calls Try.prog 14 #[v, v'] W fun e W' => e = .returned (.bool true) ∧ Below W.heap.size W W' := by
  obtain ⟨k1, σ1, sl1, n1, c1, k2, σ2, sl2, n2, c2, sl, n, c, rfl, rn, rv, rf, -⟩ := hr
  obtain ⟨k1', σ1', sl1', n1', c1', k2', σ2', sl2', n2', c2', sl', n', c', rfl, rn', rv', rf', -⟩ := hr'
  obtain ⟨f1, f2, f3, f4⟩ := hf
  obtain rfl : n' = n := by rw [rf.1, rf'.1]
  have hb1 : Below W.heap.size W (W.alloc (.cells #[.int .i64 k1, .string σ1, .slice sl1 n1 c1, .int .i64 k2, .string σ2, .slice sl2 n2 c2, .slice sl n' c] 29)) := (Below.refl _ _).alloc (Nat.le_refl _) _
  have hX : Below W.heap.size W ((W.alloc (.cells #[.int .i64 k1, .string σ1, .slice sl1 n1 c1, .int .i64 k2, .string σ2, .slice sl2 n2 c2, .slice sl n' c] 29)).alloc (.cells #[.int .i64 k1', .string σ1', .slice sl1' n1' c1', .int .i64 k2', .string σ2', .slice sl2' n2' c2', .slice sl' n' c'] 29)) := hb1.alloc (by simp) _
  have hz1 : ∀ b, S b → b < ((W.alloc (.cells #[.int .i64 k1, .string σ1, .slice sl1 n1 c1, .int .i64 k2, .string σ2, .slice sl2 n2 c2, .slice sl n' c] 29)).alloc (.cells #[.int .i64 k1', .string σ1', .slice sl1' n1' c1', .int .i64 k2', .string σ2', .slice sl2' n2' c2', .slice sl' n' c'] 29)).heap.size := fun b hb => Nat.lt_of_lt_of_le (hS b hb) hX.size
  have hz1' : ∀ b, S' b → b < ((W.alloc (.cells #[.int .i64 k1, .string σ1, .slice sl1 n1 c1, .int .i64 k2, .string σ2, .slice sl2 n2 c2, .slice sl n' c] 29)).alloc (.cells #[.int .i64 k1', .string σ1', .slice sl1' n1' c1', .int .i64 k2', .string σ2', .slice sl2' n2' c2', .slice sl' n' c'] 29)).heap.size := fun b hb => Nat.lt_of_lt_of_le (hS' b hb) hX.size
  have hc := rsame_any f1 _ S S' _ _ hz1 hz1' (rn.keep hS hX) (rn'.keep hS' hX)
  have HV := Lib.hid (And.intro (rv.keep hS hX) (rv'.keep hS' hX))
  have HF := Lib.hid (And.intro (rf.keep hS hX) (rf'.keep hS' hX))
  have HS := Lib.hid (And.intro hz1 hz1')
  have HN := Lib.hid rf.1
  have hn' : n' ≤ 4611686018427387904 := by rw [rf.1]; exact f3
  have HX := Lib.hid hX
  have hv1 := VC.made (W.alloc (.cells #[.int .i64 k1, .string σ1, .slice sl1 n1 c1, .int .i64 k2, .string σ2, .slice sl2 n2 c2, .slice sl n' c] 29)) [.int .i64 k1', .string σ1', .slice sl1' n1' c1', .int .i64 k2', .string σ2', .slice sl2' n2' c2', .slice sl' n' c'] 29
  have hv0 := (VC.made W [.int .i64 k1, .string σ1, .slice sl1 n1 c1, .int .i64 k2, .string σ2, .slice sl2 n2 c2, .slice sl n' c] 29).alloc (.cells #[.int .i64 k1', .string σ1', .slice sl1' n1' c1', .int .i64 k2', .string σ2', .slice sl2' n2' c2', .slice sl' n' c'] 29)
  rw [show (W.alloc (.cells #[.int .i64 k1, .string σ1, .slice sl1 n1 c1, .int .i64 k2, .string σ2, .slice sl2 n2 c2, .slice sl n' c] 29)).heap.size = W.heap.size + 1 by simp] at hv1
  have HV0 := Lib.hid hv0
  have HV1 := Lib.hid hv1
  change Hid (VC ((W.alloc (.cells #[.int .i64 k1, .string σ1, .slice sl1 n1 c1, .int .i64 k2, .string σ2, .slice sl2 n2 c2, .slice sl n' c] 29)).alloc (.cells #[.int .i64 k1', .string σ1', .slice sl1' n1' c1', .int .i64 k2', .string σ2', .slice sl2' n2' c2', .slice sl' n' c'] 29)) _ _) at HV0
  change Hid (VC ((W.alloc (.cells #[.int .i64 k1, .string σ1, .slice sl1 n1 c1, .int .i64 k2, .string σ2, .slice sl2 n2 c2, .slice sl n' c] 29)).alloc (.cells #[.int .i64 k1', .string σ1', .slice sl1' n1' c1', .int .i64 k2', .string σ2', .slice sl2' n2' c2', .slice sl' n' c'] 29)) _ _) at HV1
  clear hX hb1 rn rn' rv rv' rf rf' hv0 hv1 hz1 hz1' hS hS'
  go_enter Try.func14, Try.ntmps14
  go_wp2_with fail
  generalize ((W.alloc (.cells #[.int .i64 k1, .string σ1, .slice sl1 n1 c1, .int .i64 k2, .string σ2, .slice sl2 n2 c2, .slice sl n' c] 29)).alloc (.cells #[.int .i64 k1', .string σ1', .slice sl1' n1' c1', .int .i64 k2', .string σ2', .slice sl2' n2' c2', .slice sl' n' c'] 29)) = w1 at *
  refine hc.mono ?_
  rintro e w2 ⟨rfl, hB⟩
  have hz2 : ∀ b, S b → b < w2.heap.size := fun b hb => Nat.lt_of_lt_of_le (HS.out.1 b hb) hB.size
  have hz2' : ∀ b, S' b → b < w2.heap.size := fun b hb => Nat.lt_of_lt_of_le (HS.out.2 b hb) hB.size
  have hc2 := rsame_any f2 w2 S S' _ _ hz2 hz2' (HV.out.1.keep HS.out.1 hB) (HV.out.2.keep HS.out.2 hB)
  have HF := Lib.hid (And.intro (HF.out.1.keep HS.out.1 hB) (HF.out.2.keep HS.out.2 hB))
  have HS := Lib.hid (And.intro hz2 hz2')
  have HX := Lib.hid (HX.out.trans (hB.mono HX.out.size))
  have HV0 := Lib.hid (HV0.out.keep hB)
  have HV1 := Lib.hid (HV1.out.keep hB)
  clear hc hB HV hz2 hz2'
  have a3 := HV0.out.cs 3 _ rfl
  have a4 := HV0.out.cs 4 _ rfl
  have a5 := HV0.out.cs 5 _ rfl
  have b3 := HV1.out.cs 3 _ rfl
  have b4 := HV1.out.cs 4 _ rfl
  have b5 := HV1.out.cs 5 _ rfl
  go_wp2_with fail
  refine hc2.mono ?_
  rintro e w3 ⟨rfl, hB⟩
  have HF := Lib.hid (And.intro (HF.out.1.keep HS.out.1 hB) (HF.out.2.keep HS.out.2 hB))
  have HS := Lib.hid (And.intro (fun b hb => Nat.lt_of_lt_of_le (HS.out.1 b hb) hB.size) fun b hb => Nat.lt_of_lt_of_le (HS.out.2 b hb) hB.size)
  have HX := Lib.hid (HX.out.trans (hB.mono HX.out.size))
  have HV0 := Lib.hid (HV0.out.keep hB)
  have HV1 := Lib.hid (HV1.out.keep hB)
  clear hc2 hB a3 a4 a5 b3 b4 b5
  have a6 := HV0.out.cs 6 _ rfl
  have b6 := HV1.out.cs 6 _ rfl
  have p1 : ((n' : Int) != n') = false := by simp
  go_wp2_with fail
  go_loopw [34] (fun i wr => ∃ k : Nat, k ≤ n' ∧ i = .int .i64 k ∧ Below w3.heap.size w3 wr) (fun i _ => n' - (intOf i).toNat)
  case atStart => exact ⟨0, Nat.zero_le _, rfl, Below.refl _ _⟩
  case round =>
    obtain ⟨k, hk, rfl, hb⟩ := hrel
    clear a6 b6
    by_cases hlt : k < n'
    · obtain ⟨t, ht⟩ : ∃ t, x.fields[k]? = some t := ⟨x.fields[k]'(by rw [← HN.out]; exact hlt), List.getElem?_eq_getElem _⟩
      obtain ⟨b, o, q, rfl, hbl, hq, hcs⟩ := HF.out.1.2 k t ht
      obtain ⟨b', o', q', rfl, hbl', hq', hcs'⟩ := HF.out.2.2 k t ht
      have HFW := Lib.hid (f4 t (List.mem_of_getElem? ht))
      obtain ⟨q1, ⟨q2, q3, q4⟩, q5, q6, q7⟩ := q
      obtain ⟨q1', ⟨q2', q3', q4'⟩, q5', q6', q7'⟩ := q'
      obtain ⟨z1, z2, z3⟩ := hq
      obtain ⟨z1', z2', z3'⟩ := hq'
      simp only at z1 z2 z3 z1' z2' z3'
      obtain ⟨u1, τ1, vl1, e1, d1, hv⟩ := z2.vals
      simp only [Value.agg.injEq, Array.mk.injEq, List.cons.injEq, and_true] at hv
      obtain ⟨rfl, rfl, rfl⟩ := hv
      obtain ⟨u2, τ2, vl2, e2, d2, hv⟩ := z3.vals
      simp only [Value.agg.injEq, Array.mk.injEq, List.cons.injEq, and_true] at hv
      obtain ⟨rfl, rfl, rfl⟩ := hv
      obtain ⟨u1', τ1', vl1', e1', d1', hv⟩ := z2'.vals
      simp only [Value.agg.injEq, Array.mk.injEq, List.cons.injEq, and_true] at hv
      obtain ⟨rfl, rfl, rfl⟩ := hv
      obtain ⟨u2', τ2', vl2', e2', d2', hv⟩ := z3'.vals
      simp only [Value.agg.injEq, Array.mk.injEq, List.cons.injEq, and_true] at hv
      obtain ⟨rfl, rfl, rfl⟩ := hv
      subst z1 z1'
      have HQ := Lib.hid (And.intro z2 (And.intro z2' (And.intro z3 z3')))
      clear z2 z3 z2' z3'
      have hkw : IntKind.i64.wrap ((k : Int) + 1) = (k : Int) + 1 := IntWalk.i64_in _ (by omega)
      have g0 := (hb.cell (p := ⟨b, o + k * 7, none⟩) (HS.out.1 b hbl)).trans (hcs 0 _ rfl)
      have g1 := (hb.cell (p := ⟨b, o + k * 7 + 1, none⟩) (HS.out.1 b hbl)).trans (hcs 1 _ rfl)
      have g2 := (hb.cell (p := ⟨b, o + k * 7 + 2, none⟩) (HS.out.1 b hbl)).trans (hcs 2 _ rfl)
      have g3 := (hb.cell (p := ⟨b, o + k * 7 + 3, none⟩) (HS.out.1 b hbl)).trans (hcs 3 _ rfl)
      have g4 := (hb.cell (p := ⟨b, o + k * 7 + 4, none⟩) (HS.out.1 b hbl)).trans (hcs 4 _ rfl)
      have g5 := (hb.cell (p := ⟨b, o + k * 7 + 5, none⟩) (HS.out.1 b hbl)).trans (hcs 5 _ rfl)
      have g6 := (hb.cell (p := ⟨b, o + k * 7 + 6, none⟩) (HS.out.1 b hbl)).trans (hcs 6 _ rfl)
      have g0' := (hb.cell (p := ⟨b', o' + k * 7, none⟩) (HS.out.2 b' hbl')).trans (hcs' 0 _ rfl)
      have g1' := (hb.cell (p := ⟨b', o' + k * 7 + 1, none⟩) (HS.out.2 b' hbl')).trans (hcs' 1 _ rfl)
      have g2' := (hb.cell (p := ⟨b', o' + k * 7 + 2, none⟩) (HS.out.2 b' hbl')).trans (hcs' 2 _ rfl)
      have g3' := (hb.cell (p := ⟨b', o' + k * 7 + 3, none⟩) (HS.out.2 b' hbl')).trans (hcs' 3 _ rfl)
      have g4' := (hb.cell (p := ⟨b', o' + k * 7 + 4, none⟩) (HS.out.2 b' hbl')).trans (hcs' 4 _ rfl)
      have g5' := (hb.cell (p := ⟨b', o' + k * 7 + 5, none⟩) (HS.out.2 b' hbl')).trans (hcs' 5 _ rfl)
      have g6' := (hb.cell (p := ⟨b', o' + k * 7 + 6, none⟩) (HS.out.2 b' hbl')).trans (hcs' 6 _ rfl)
      have hV0 := HV0.out.keep hb
      have hV1 := HV1.out.keep hb
      have a6 := hV0.cs 6 _ rfl
      have b6 := hV1.cs 6 _ rfl
      clear hcs hcs' hV0 hV1
      go_wp2_with fail
      have e6 := Sx.ext_cell a6
      have e6' := Sx.ext_cell b6
      have f0 := Sx.ext_cell g0
      have f1 := Sx.ext_cell g1
      have f2 := Sx.ext_cell g2
      have f3 := Sx.ext_cell g3
      have f4 := Sx.ext_cell g4
      have f5 := Sx.ext_cell g5
      have f6 := Sx.ext_cell g6
      have f0' := Sx.ext_cell g0'
      have f1' := Sx.ext_cell g1'
      have f2' := Sx.ext_cell g2'
      have f3' := Sx.ext_cell g3'
      have f4' := Sx.ext_cell g4'
      have f5' := Sx.ext_cell g5'
      have f6' := Sx.ext_cell g6'
      have hD := (Below.refl wr.heap.size wr).drew
      refine Mix.plan_region (fun u => ∃ Y, u = Sx.ext wr Y) 14 (.q [0, 1, 2, 3, 4, 5, 6, 7, 8, 9] (.two 10 (.one 11 (.one 12 (.one 13 .done))) 11 (.one 10 (.one 12 (.one 13 .done))))) (by kernel_rfl) (fun _ _ d _ _ h => by cases d <;> exact h) (by kernel_rfl) ⟨wr.drew, Sx.ext_of hD⟩ ?_
      refine Mix.plan_q (by simp only [Mix.pick, Mix.nth]; rfl) ?_
      repeat (go_big_quiet_step (fail))
      refine wpQuiet_nil ?_
      clear e6 e6' f0 f1 f2 f3 f4 f5 f6 f0' f1' f2' f3' f4' f5' f6' a6 b6 g0 g1 g2 g3 g4 g5 g6 g0' g1' g2' g3' g4' g5' g6'
      refine Mix.plan_two (by simp only [Mix.nth]; rfl) (by simp only [Mix.nth]; rfl) (fun K hK => ?_) (fun K hK => ?_)
      · go_simp
        refine hK _ _ ⟨_, Sx.ext_of (hD.alloc hD.size _)⟩ ?_
        clear hK K
        refine Mix.plan_one (by simp only [Mix.nth]; rfl) (fun K hK => ?_)
        go_simp
        refine hK _ _ ⟨_, Sx.ext_of ((hD.alloc hD.size _).alloc (by simp) _)⟩ ?_
        clear hK K
        refine Mix.plan_one (by simp only [Mix.nth]; rfl) (fun K hK => ?_)
        go_simp
        refine hK _ _ ⟨_, Sx.ext_of ((hD.alloc hD.size _).alloc (by simp) _)⟩ ?_
        clear hK K
        refine Mix.plan_one (by simp only [Mix.nth]; rfl) (fun K hK => ?_)
        go_simp
        have hB9 := (((Below.refl wr.heap.size wr).alloc (Nat.le_refl _) (.cells #[.int .i64 t.1, .int .i64 u1, .string τ1, .slice vl1 e1 d1, .int .i64 u2, .string τ2, .slice vl2 e2 d2] 47)).alloc (by simp) (.cells #[.int .i64 t.1, .int .i64 u1', .string τ1', .slice vl1' e1' d1', .int .i64 u2', .string τ2', .slice vl2' e2' d2'] 47)).drew
        refine hK _ _ ⟨_, Sx.ext_of hB9⟩ ?_
        clear hK K
        refine Mix.plan_done ?_
        simp only [List.drop_succ_cons, List.drop_nil]
        have hVa := ((VC.made wr [.int .i64 t.1, .int .i64 u1, .string τ1, .slice vl1 e1 d1, .int .i64 u2, .string τ2, .slice vl2 e2 d2] 47).alloc (.cells #[.int .i64 t.1, .int .i64 u1', .string τ1', .slice vl1' e1' d1', .int .i64 u2', .string τ2', .slice vl2' e2' d2'] 47)).keep (Below.refl _ _).drew
        have hVb := (VC.made (wr.alloc (.cells #[.int .i64 t.1, .int .i64 u1, .string τ1, .slice vl1 e1 d1, .int .i64 u2, .string τ2, .slice vl2 e2 d2] 47)) [.int .i64 t.1, .int .i64 u1', .string τ1', .slice vl1' e1' d1', .int .i64 u2', .string τ2', .slice vl2' e2' d2'] 47).keep (Below.refl _ _).drew
        rw [show (wr.alloc (.cells #[.int .i64 t.1, .int .i64 u1, .string τ1, .slice vl1 e1 d1, .int .i64 u2, .string τ2, .slice vl2 e2 d2] 47)).heap.size = wr.heap.size + 1 by simp] at hVb
        change VC (((wr.alloc (.cells #[.int .i64 t.1, .int .i64 u1, .string τ1, .slice vl1 e1 d1, .int .i64 u2, .string τ2, .slice vl2 e2 d2] 47)).alloc (.cells #[.int .i64 t.1, .int .i64 u1', .string τ1', .slice vl1' e1' d1', .int .i64 u2', .string τ2', .slice vl2' e2' d2'] 47)).drew) _ _ at hVa
        change VC (((wr.alloc (.cells #[.int .i64 t.1, .int .i64 u1, .string τ1, .slice vl1 e1 d1, .int .i64 u2, .string τ2, .slice vl2 e2 d2] 47)).alloc (.cells #[.int .i64 t.1, .int .i64 u1', .string τ1', .slice vl1' e1' d1', .int .i64 u2', .string τ2', .slice vl2' e2' d2'] 47)).drew) _ _ at hVb
        generalize ((wr.alloc (.cells #[.int .i64 t.1, .int .i64 u1, .string τ1, .slice vl1 e1 d1, .int .i64 u2, .string τ2, .slice vl2 e2 d2] 47)).alloc (.cells #[.int .i64 t.1, .int .i64 u1', .string τ1', .slice vl1' e1' d1', .int .i64 u2', .string τ2', .slice vl2' e2' d2'] 47)).drew = w9 at *
        have a0 := hVa.cs 0 _ rfl
        have b0 := hVb.cs 0 _ rfl
        have a1 := hVa.cs 1 _ rfl
        have a2 := hVa.cs 2 _ rfl
        have a3 := hVa.cs 3 _ rfl
        have b1 := hVb.cs 1 _ rfl
        have b2 := hVb.cs 2 _ rfl
        have b3 := hVb.cs 3 _ rfl
        have hBw := hb.trans (hB9.mono hb.size)
        have hs9 : ∀ b, S b → b < w9.heap.size := fun b h => Nat.lt_of_lt_of_le (HS.out.1 b h) hBw.size
        have hs9' : ∀ b, S' b → b < w9.heap.size := fun b h => Nat.lt_of_lt_of_le (HS.out.2 b h) hBw.size
        have hc := rsame_any HFW.out.1 w9 S S' _ _ hs9 hs9' (HQ.out.1.keep HS.out.1 hBw) (HQ.out.2.1.keep HS.out.2 hBw)
        have p9 : (t.1 != t.1) = false := by simp
        have HB9 := Lib.hid hBw
        have HVa := Lib.hid hVa
        have HVb := Lib.hid hVb
        clear hb hB9 hVa hVb hBw
        go_wp2_with fail
        refine hc.mono ?_
        rintro e w10 ⟨rfl, hB⟩
        have hVa := HVa.out.keep hB
        have hVb := HVb.out.keep hB
        clear a0 b0 a1 a2 a3 b1 b2 b3 hc
        have a4 := hVa.cs 4 _ rfl
        have a5 := hVa.cs 5 _ rfl
        have a6 := hVa.cs 6 _ rfl
        have b4 := hVb.cs 4 _ rfl
        have b5 := hVb.cs 5 _ rfl
        have b6 := hVb.cs 6 _ rfl
        have hBw := HB9.out.trans (hB.mono HB9.out.size)
        have hc := rsame_any HFW.out.2 w10 S S' _ _ (fun b h => Nat.lt_of_lt_of_le (HS.out.1 b h) hBw.size) (fun b h => Nat.lt_of_lt_of_le (HS.out.2 b h) hBw.size) (HQ.out.2.2.1.keep HS.out.1 hBw) (HQ.out.2.2.2.keep HS.out.2 hBw)
        have HB := Lib.hid hBw
        clear hB hBw hVa hVb hs9 hs9'
        go_wp2_with fail
        refine hc.mono ?_
        rintro e w11 ⟨rfl, hB⟩
        have HB := Lib.hid (HB.out.trans (hB.mono HB.out.size))
        clear hc hB a4 a5 a6 b4 b5 b6
        go_wp2_with fail
        go_roundw
        case rel => exact ⟨k + 1, by omega, by go_num, HB.out⟩
        case measure => simp [intOf]; omega
      · go_simp
        refine hK _ _ ⟨_, Sx.ext_of (hD.alloc hD.size _)⟩ ?_
        clear hK K
        refine Mix.plan_one (by simp only [Mix.nth]; rfl) (fun K hK => ?_)
        go_simp
        refine hK _ _ ⟨_, Sx.ext_of ((hD.alloc hD.size _).alloc (by simp) _)⟩ ?_
        clear hK K
        refine Mix.plan_one (by simp only [Mix.nth]; rfl) (fun K hK => ?_)
        go_simp
        refine hK _ _ ⟨_, Sx.ext_of ((hD.alloc hD.size _).alloc (by simp) _)⟩ ?_
        clear hK K
        refine Mix.plan_one (by simp only [Mix.nth]; rfl) (fun K hK => ?_)
        go_simp
        have hB9 := (((Below.refl wr.heap.size wr).alloc (Nat.le_refl _) (.cells #[.int .i64 t.1, .int .i64 u1', .string τ1', .slice vl1' e1' d1', .int .i64 u2', .string τ2', .slice vl2' e2' d2'] 47)).alloc (by simp) (.cells #[.int .i64 t.1, .int .i64 u1, .string τ1, .slice vl1 e1 d1, .int .i64 u2, .string τ2, .slice vl2 e2 d2] 47)).drew
        refine hK _ _ ⟨_, Sx.ext_of hB9⟩ ?_
        clear hK K
        refine Mix.plan_done ?_
        simp only [List.drop_succ_cons, List.drop_nil]
        have hVa := (VC.made (wr.alloc (.cells #[.int .i64 t.1, .int .i64 u1', .string τ1', .slice vl1' e1' d1', .int .i64 u2', .string τ2', .slice vl2' e2' d2'] 47)) [.int .i64 t.1, .int .i64 u1, .string τ1, .slice vl1 e1 d1, .int .i64 u2, .string τ2, .slice vl2 e2 d2] 47).keep (Below.refl _ _).drew
        rw [show (wr.alloc (.cells #[.int .i64 t.1, .int .i64 u1', .string τ1', .slice vl1' e1' d1', .int .i64 u2', .string τ2', .slice vl2' e2' d2'] 47)).heap.size = wr.heap.size + 1 by simp] at hVa
        have hVb := ((VC.made wr [.int .i64 t.1, .int .i64 u1', .string τ1', .slice vl1' e1' d1', .int .i64 u2', .string τ2', .slice vl2' e2' d2'] 47).alloc (.cells #[.int .i64 t.1, .int .i64 u1, .string τ1, .slice vl1 e1 d1, .int .i64 u2, .string τ2, .slice vl2 e2 d2] 47)).keep (Below.refl _ _).drew
        change VC (((wr.alloc (.cells #[.int .i64 t.1, .int .i64 u1', .string τ1', .slice vl1' e1' d1', .int .i64 u2', .string τ2', .slice vl2' e2' d2'] 47)).alloc (.cells #[.int .i64 t.1, .int .i64 u1, .string τ1, .slice vl1 e1 d1, .int .i64 u2, .string τ2, .slice vl2 e2 d2] 47)).drew) _ _ at hVa
        change VC (((wr.alloc (.cells #[.int .i64 t.1, .int .i64 u1', .string τ1', .slice vl1' e1' d1', .int .i64 u2', .string τ2', .slice vl2' e2' d2'] 47)).alloc (.cells #[.int .i64 t.1, .int .i64 u1, .string τ1, .slice vl1 e1 d1, .int .i64 u2, .string τ2, .slice vl2 e2 d2] 47)).drew) _ _ at hVb
        generalize ((wr.alloc (.cells #[.int .i64 t.1, .int .i64 u1', .string τ1', .slice vl1' e1' d1', .int .i64 u2', .string τ2', .slice vl2' e2' d2'] 47)).alloc (.cells #[.int .i64 t.1, .int .i64 u1, .string τ1, .slice vl1 e1 d1, .int .i64 u2, .string τ2, .slice vl2 e2 d2] 47)).drew = w9 at *
        have a0 := hVa.cs 0 _ rfl
        have b0 := hVb.cs 0 _ rfl
        have a1 := hVa.cs 1 _ rfl
        have a2 := hVa.cs 2 _ rfl
        have a3 := hVa.cs 3 _ rfl
        have b1 := hVb.cs 1 _ rfl
        have b2 := hVb.cs 2 _ rfl
        have b3 := hVb.cs 3 _ rfl
        have hBw := hb.trans (hB9.mono hb.size)
        have hs9 : ∀ b, S b → b < w9.heap.size := fun b h => Nat.lt_of_lt_of_le (HS.out.1 b h) hBw.size
        have hs9' : ∀ b, S' b → b < w9.heap.size := fun b h => Nat.lt_of_lt_of_le (HS.out.2 b h) hBw.size
        have hc := rsame_any HFW.out.1 w9 S S' _ _ hs9 hs9' (HQ.out.1.keep HS.out.1 hBw) (HQ.out.2.1.keep HS.out.2 hBw)
        have p9 : (t.1 != t.1) = false := by simp
        have HB9 := Lib.hid hBw
        have HVa := Lib.hid hVa
        have HVb := Lib.hid hVb
        clear hb hB9 hVa hVb hBw
        go_wp2_with fail
        refine hc.mono ?_
        rintro e w10 ⟨rfl, hB⟩
        have hVa := HVa.out.keep hB
        have hVb := HVb.out.keep hB
        clear a0 b0 a1 a2 a3 b1 b2 b3 hc
        have a4 := hVa.cs 4 _ rfl
        have a5 := hVa.cs 5 _ rfl
        have a6 := hVa.cs 6 _ rfl
        have b4 := hVb.cs 4 _ rfl
        have b5 := hVb.cs 5 _ rfl
        have b6 := hVb.cs 6 _ rfl
        have hBw := HB9.out.trans (hB.mono HB9.out.size)
        have hc := rsame_any HFW.out.2 w10 S S' _ _ (fun b h => Nat.lt_of_lt_of_le (HS.out.1 b h) hBw.size) (fun b h => Nat.lt_of_lt_of_le (HS.out.2 b h) hBw.size) (HQ.out.2.2.1.keep HS.out.1 hBw) (HQ.out.2.2.2.keep HS.out.2 hBw)
        have HB := Lib.hid hBw
        clear hB hBw hVa hVb hs9 hs9'
        go_wp2_with fail
        refine hc.mono ?_
        rintro e w11 ⟨rfl, hB⟩
        have HB := Lib.hid (HB.out.trans (hB.mono HB.out.size))
        clear hc hB a4 a5 a6 b4 b5 b6
        go_wp2_with fail
        go_roundw
        case rel => exact ⟨k + 1, by omega, by go_num, HB.out⟩
        case measure => simp [intOf]; omega
    · obtain rfl : k = n' := by omega
      have HB := Lib.hid (HX.out.trans (hb.mono HX.out.size))
      clear hb hlt
      go_wp2_with fail
      go_ret
      exact ⟨rfl, HB.out⟩
end Rc
end Go.Proofs.Ytcigggffaofkhaa
