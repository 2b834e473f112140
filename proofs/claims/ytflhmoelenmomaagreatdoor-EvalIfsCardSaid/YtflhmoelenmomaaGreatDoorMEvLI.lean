/-
  The law EvalIfs.
-/
import Derived.Test.YtflhmoelenmomaaGreatDoorMEvLA
namespace Go.Proofs.YtflhmoelenmomaaGreatDoor
open Go.RowKit Go.Lib
namespace Ev
open Rc

/-- an object of twelve cells -/
theorem obj12 {W : World} {g : Nat} {l : Array Value} {T : TypeId} (h : W.heap[g]? = some (.cells l T (0, 0))) : ∀ i, i < 12 → W.cell? ⟨g, i, none⟩ = l[i]? := fun i hi => by simp [World.cell?, h]
theorem cells12 {W : World} {g : Nat} {x0 x1 x2 x3 x4 x5 x6 x7 x8 x9 x10 x11 : Value} {T : TypeId} (h : W.heap[g]? = some (.cells #[x0, x1, x2, x3, x4, x5, x6, x7, x8, x9, x10, x11] T (0, 0))) : W.cell? ⟨g, 0, none⟩ = some x0 ∧ W.cell? ⟨g, 1, none⟩ = some x1 ∧ W.cell? ⟨g, 2, none⟩ = some x2 ∧ W.cell? ⟨g, 3, none⟩ = some x3 ∧ W.cell? ⟨g, 4, none⟩ = some x4 ∧ W.cell? ⟨g, 5, none⟩ = some x5 ∧ W.cell? ⟨g, 6, none⟩ = some x6 ∧ W.cell? ⟨g, 7, none⟩ = some x7 ∧ W.cell? ⟨g, 8, none⟩ = some x8 ∧ W.cell? ⟨g, 9, none⟩ = some x9 ∧ W.cell? ⟨g, 10, none⟩ = some x10 ∧ W.cell? ⟨g, 11, none⟩ = some x11 :=
  ⟨by simp [World.cell?, h], by simp [World.cell?, h], by simp [World.cell?, h], by simp [World.cell?, h], by simp [World.cell?, h], by simp [World.cell?, h], by simp [World.cell?, h], by simp [World.cell?, h], by simp [World.cell?, h], by simp [World.cell?, h], by simp [World.cell?, h], by simp [World.cell?, h]⟩
/-- what is left behind the kids i.. -/
def lefts : List E → Int → Int
  | [], m => m
  | k :: ks, m => lefts ks (weigh k (max m 0) 0)
theorem lefts_le (ks : List E) (m : Int) (hm : ks ≠ [] ∨ 0 ≤ m) : 0 ≤ lefts ks m → 0 ≤ m ∨ ks ≠ [] := fun _ => by
  rcases hm with h | h
  · exact .inr h
  · exact .inl h
theorem lefts_sz (ks : List E) : ∀ (m : Int), 0 ≤ lefts ks m → ks ≠ [] → lefts ks m + sizeWs ks ≤ max m 0 := by
  induction ks with
  | nil => intro m _ h; exact absurd rfl h
  | cons k ks ih =>
    intro m h _
    rw [lefts] at h ⊢
    rw [sizeWs]
    have hw := weigh_le k (max m 0) 0
    cases ks with
    | nil =>
      rw [lefts] at h ⊢
      have := hw.2 h
      rw [sizeWs]
      omega
    | cons k2 ks2 =>
      have h2 := ih (weigh k (max m 0) 0) h (by simp)
      have hs : 1 ≤ sizeWs (k2 :: ks2) := by
        rw [sizeWs]
        cases k2 with
        | mk a b c => rw [sizeW]; omega
      have := hw.2 (by omega)
      omega
theorem size_e (h : 24 < Tryz.prog.types.size) : (Tryz.prog.types[24]'h).size = 3 := by kernel_rfl
theorem ix0 (x0 x1 x2 x3 x4 x5 x6 x7 x8 x9 x10 x11 : Value) (W : World) : (Instr.index 56 (.agg #[x0, x1, x2, x3, x4, x5, x6, x7, x8, x9, x10, x11]) (.int .i64 0)).run Tryz.prog W = .ok (.agg #[x0, x1, x2]) W := by
  simp [Instr.index, run_underlying Tryz.underlying56, asIntOf, go_sem]
theorem ix1 (x0 x1 x2 x3 x4 x5 x6 x7 x8 x9 x10 x11 : Value) (W : World) : (Instr.index 56 (.agg #[x0, x1, x2, x3, x4, x5, x6, x7, x8, x9, x10, x11]) (.int .i64 1)).run Tryz.prog W = .ok (.agg #[x3, x4, x5]) W := by
  simp [Instr.index, run_underlying Tryz.underlying56, asIntOf, go_sem]
theorem ix2 (x0 x1 x2 x3 x4 x5 x6 x7 x8 x9 x10 x11 : Value) (W : World) : (Instr.index 56 (.agg #[x0, x1, x2, x3, x4, x5, x6, x7, x8, x9, x10, x11]) (.int .i64 2)).run Tryz.prog W = .ok (.agg #[x6, x7, x8]) W := by
  simp [Instr.index, run_underlying Tryz.underlying56, asIntOf, go_sem]
theorem ix3 (x0 x1 x2 x3 x4 x5 x6 x7 x8 x9 x10 x11 : Value) (W : World) : (Instr.index 56 (.agg #[x0, x1, x2, x3, x4, x5, x6, x7, x8, x9, x10, x11]) (.int .i64 3)).run Tryz.prog W = .ok (.agg #[x9, x10, x11]) W := by
  simp [Instr.index, run_underlying Tryz.underlying56, asIntOf, go_sem]
attribute [local go_sem] ix0 ix1 ix2 ix3
set_option maxHeartbeats 8000000 in
set_option maxRecDepth 100000 in
theorem ifslaw_any {a b c d : E} {k1 k2 k3 k4 : Int} {s1 s2 s3 s4 : ByteArray} {l1 l2 l3 l4 : Option Addr} {n1 n2 n3 n4 m1 m2 m3 m4 : Nat} (xa : Sml a) (xb : Sml b) (xc : Sml c) (xd : Sml d) (W : World)
    (ra : RepX W (fun b => b < W.heap.size) a (.agg #[.int .i64 k1, .string s1, .slice l1 n1 m1])) (rb : RepX W (fun b => b < W.heap.size) b (.agg #[.int .i64 k2, .string s2, .slice l2 n2 m2]))
    (rc : RepX W (fun b => b < W.heap.size) c (.agg #[.int .i64 k3, .string s3, .slice l3 n3 m3])) (rd : RepX W (fun b => b < W.heap.size) d (.agg #[.int .i64 k4, .string s4, .slice l4 n4 m4])) (hE : Vs.Env W) :
    Calls Tryz.prog 8 #[.agg #[.int .i64 k1, .string s1, .slice l1 n1 m1, .int .i64 k2, .string s2, .slice l2 n2 m2, .int .i64 k3, .string s3, .slice l3 n3 m3, .int .i64 k4, .string s4, .slice l4 n4 m4]] W fun e W' => e = .returned (.bool true) ∧ Below W.heap.size W W' := by
  obtain ⟨L, hL⟩ : ∃ L : Array Value, L = #[.int .i64 k1, .string s1, .slice l1 n1 m1, .int .i64 k2, .string s2, .slice l2 n2 m2, .int .i64 k3, .string s3, .slice l3 n3 m3, .int .i64 k4, .string s4, .slice l4 n4 m4] := ⟨_, rfl⟩
  have hA := (Below.refl W.heap.size W).alloc (Nat.le_refl _) (.cells L 56)
  have hX := heap_alloc_new W (.cells L 56)
  have hal := alive_any (W.alloc (.cells L 56)) (hE.alloc _)
  rw [hL] at hA hX hal
  have HX := Lib.hid hX
  have HS := Lib.hid (And.intro xa (And.intro xb (And.intro xc xd)))
  have HR := Lib.hid (fun (w : World) (hb : Below W.heap.size W w) => And.intro (ra.move (W' := w) (S' := fun b => b < W.heap.size) fun k hk => ⟨hk, hb.block k hk⟩) (And.intro (rb.move (W' := w) (S' := fun b => b < W.heap.size) fun k hk => ⟨hk, hb.block k hk⟩) (And.intro (rc.move (W' := w) (S' := fun b => b < W.heap.size) fun k hk => ⟨hk, hb.block k hk⟩) (rd.move (W' := w) (S' := fun b => b < W.heap.size) fun k hk => ⟨hk, hb.block k hk⟩))))
  clear hL hX ra rb rc rd xa xb xc xd hE
  go_enter Tryz.func8, Tryz.ntmps8
  go_wp2_with (first
    | (go_at_call 10; with_reducible refine hal.mono ?_; rintro e w1 ⟨he, hb1⟩; subst he; have hB := hA.trans (hb1.mono hA.size); have hX1 := (hb1.block W.heap.size (by simp)).trans HX.out; have hl0 : W.heap.size < w1.heap.size := (Array.getElem?_eq_some_iff.1 hX1).1; have hcc := obj12 hX1; have c0 := hcc 0 (by decide); have c1 := hcc 1 (by decide); have c2 := hcc 2 (by decide); have c3 := hcc 3 (by decide); have c4 := hcc 4 (by decide); have c5 := hcc 5 (by decide); have c6 := hcc 6 (by decide); have c7 := hcc 7 (by decide); have c8 := hcc 8 (by decide); have c9 := hcc 9 (by decide); have c10 := hcc 10 (by decide); have c11 := hcc 11 (by decide); simp at c0 c1 c2 c3 c4 c5 c6 c7 c8 c9 c10 c11; clear hb1 hal hcc))
  clear hA
  go_loopw [3, 23] (fun l i wr => ∃ (k : Nat) (left : Int), k ≤ 4 ∧ i = .int .i64 (k : Int) ∧ l = .int .i64 left ∧ -1000000000000000000 ≤ left ∧ left ≤ 4096 ∧ lefts ([a, b, c, d].drop k) left = lefts [a, b, c, d] 4096 ∧ Below W.heap.size W wr ∧ wr.heap[W.heap.size]? = some (.cells #[.int .i64 k1, .string s1, .slice l1 n1 m1, .int .i64 k2, .string s2, .slice l2 n2 m2, .int .i64 k3, .string s3, .slice l3 n3 m3, .int .i64 k4, .string s4, .slice l4 n4 m4] 56)) (fun _ i _ => 4 - (RowKit.intOf i).toNat)
  case atStart => exact ⟨0, 4096, by decide, rfl, rfl, by decide, by decide, rfl, hB, hX1⟩
  case round =>
    obtain ⟨k, left, hk, rfl, rfl, hl1, hl2, hwg, hb, hX2⟩ := hrel
    clear c0 c1 c2 c3 c4 c5 c6 c7 c8 c9 c10 c11 hX1 hB
    have hkc : k = 0 ∨ k = 1 ∨ k = 2 ∨ k = 3 ∨ k = 4 := by omega
    rcases hkc with rfl | rfl | rfl | rfl | rfl
    · have hb3 := hb.alloc hb.size (.cells #[.int .i64 k1, .string s1, .slice l1 n1 m1] 24)
      have hlt := (Array.getElem?_eq_some_iff.1 hX2).1
      have hX3 := (heap_alloc_old wr (.cells #[.int .i64 k1, .string s1, .slice l1 n1 m1] 24) hlt).trans hX2
      have hq := weigh_any HS.out.1 (wr.alloc (.cells #[.int .i64 k1, .string s1, .slice l1 n1 m1] 24)) (fun b => b < W.heap.size) _ (max left 0) (by omega) (by omega) (fun k hk => Nat.lt_of_lt_of_le hk hb3.size) (HR.out _ hb3).1
      have hw3 := (weigh_le a (max left 0) 0).1
      have hw4 := weigh_ge HS.out.1 (max left 0) 0
      have hwg2 : lefts ([a, b, c, d].drop 1) (weigh a (max left 0) 0) = lefts [a, b, c, d] 4096 := hwg
      have HG := Lib.hid (And.intro hwg2 (And.intro hw3 hw4))
      clear hwg hwg2 hw3 hw4 hX2
      go_wp2_with (go_at_call 11; with_reducible refine hq.mono ?_; rintro e w3 ⟨he, hb4⟩; subst he)
      refine ⟨⟨1, _, by decide, rfl, rfl, ?_, ?_, HG.out.1, hb3.trans (hb4.mono hb3.size), (hb4.block W.heap.size (by simp; omega)).trans hX3⟩, by decide⟩
      · have := HG.out.2.2; omega
      · have := HG.out.2.1; omega
    · have hb3 := hb.alloc hb.size (.cells #[.int .i64 k2, .string s2, .slice l2 n2 m2] 24)
      have hlt := (Array.getElem?_eq_some_iff.1 hX2).1
      have hX3 := (heap_alloc_old wr (.cells #[.int .i64 k2, .string s2, .slice l2 n2 m2] 24) hlt).trans hX2
      have hq := weigh_any HS.out.2.1 (wr.alloc (.cells #[.int .i64 k2, .string s2, .slice l2 n2 m2] 24)) (fun b => b < W.heap.size) _ (max left 0) (by omega) (by omega) (fun k hk => Nat.lt_of_lt_of_le hk hb3.size) (HR.out _ hb3).2.1
      have hw3 := (weigh_le b (max left 0) 0).1
      have hw4 := weigh_ge HS.out.2.1 (max left 0) 0
      have hwg2 : lefts ([a, b, c, d].drop 2) (weigh b (max left 0) 0) = lefts [a, b, c, d] 4096 := hwg
      have HG := Lib.hid (And.intro hwg2 (And.intro hw3 hw4))
      clear hwg hwg2 hw3 hw4 hX2
      go_wp2_with (go_at_call 11; with_reducible refine hq.mono ?_; rintro e w3 ⟨he, hb4⟩; subst he)
      refine ⟨⟨2, _, by decide, rfl, rfl, ?_, ?_, HG.out.1, hb3.trans (hb4.mono hb3.size), (hb4.block W.heap.size (by simp; omega)).trans hX3⟩, by decide⟩
      · have := HG.out.2.2; omega
      · have := HG.out.2.1; omega
    · have hb3 := hb.alloc hb.size (.cells #[.int .i64 k3, .string s3, .slice l3 n3 m3] 24)
      have hlt := (Array.getElem?_eq_some_iff.1 hX2).1
      have hX3 := (heap_alloc_old wr (.cells #[.int .i64 k3, .string s3, .slice l3 n3 m3] 24) hlt).trans hX2
      have hq := weigh_any HS.out.2.2.1 (wr.alloc (.cells #[.int .i64 k3, .string s3, .slice l3 n3 m3] 24)) (fun b => b < W.heap.size) _ (max left 0) (by omega) (by omega) (fun k hk => Nat.lt_of_lt_of_le hk hb3.size) (HR.out _ hb3).2.2.1
      have hw3 := (weigh_le c (max left 0) 0).1
      have hw4 := weigh_ge HS.out.2.2.1 (max left 0) 0
      have hwg2 : lefts ([a, b, c, d].drop 3) (weigh c (max left 0) 0) = lefts [a, b, c, d] 4096 := hwg
      have HG := Lib.hid (And.intro hwg2 (And.intro hw3 hw4))
      clear hwg hwg2 hw3 hw4 hX2
      go_wp2_with (go_at_call 11; with_reducible refine hq.mono ?_; rintro e w3 ⟨he, hb4⟩; subst he)
      refine ⟨⟨3, _, by decide, rfl, rfl, ?_, ?_, HG.out.1, hb3.trans (hb4.mono hb3.size), (hb4.block W.heap.size (by simp; omega)).trans hX3⟩, by decide⟩
      · have := HG.out.2.2; omega
      · have := HG.out.2.1; omega
    · have hb3 := hb.alloc hb.size (.cells #[.int .i64 k4, .string s4, .slice l4 n4 m4] 24)
      have hlt := (Array.getElem?_eq_some_iff.1 hX2).1
      have hX3 := (heap_alloc_old wr (.cells #[.int .i64 k4, .string s4, .slice l4 n4 m4] 24) hlt).trans hX2
      have hq := weigh_any HS.out.2.2.2 (wr.alloc (.cells #[.int .i64 k4, .string s4, .slice l4 n4 m4] 24)) (fun b => b < W.heap.size) _ (max left 0) (by omega) (by omega) (fun k hk => Nat.lt_of_lt_of_le hk hb3.size) (HR.out _ hb3).2.2.2
      have hw3 := (weigh_le d (max left 0) 0).1
      have hw4 := weigh_ge HS.out.2.2.2 (max left 0) 0
      have hwg2 : lefts ([a, b, c, d].drop 4) (weigh d (max left 0) 0) = lefts [a, b, c, d] 4096 := hwg
      have HG := Lib.hid (And.intro hwg2 (And.intro hw3 hw4))
      clear hwg hwg2 hw3 hw4 hX2
      go_wp2_with (go_at_call 11; with_reducible refine hq.mono ?_; rintro e w3 ⟨he, hb4⟩; subst he)
      refine ⟨⟨4, _, by decide, rfl, rfl, ?_, ?_, HG.out.1, hb3.trans (hb4.mono hb3.size), (hb4.block W.heap.size (by simp; omega)).trans hX3⟩, by decide⟩
      · have := HG.out.2.2; omega
      · have := HG.out.2.1; omega
    · obtain ⟨c0, c1, c2, c3, c4, c5, c6, c7, c8, c9, c10, c11⟩ := cells12 hX2
      have hlt := (Array.getElem?_eq_some_iff.1 hX2).1
      have hlf : left = lefts [a, b, c, d] 4096 := hwg
      by_cases hneg : left < 0
      · clear hwg hlf
        go_wp2_with fail
        go_ret
        exact ⟨rfl, (hb.alloc hb.size _).alloc (by have := hb.size; simp; omega) _⟩
      have hsz := lefts_sz [a, b, c, d] 4096 (by rw [← hlf]; omega) (by simp)
      have hB5 : Below W.heap.size W ((wr.alloc (.cells #[.int .i64 k1, .string s1, .slice l1 n1 m1, .int .i64 k2, .string s2, .slice l2 n2 m2, .int .i64 k3, .string s3, .slice l3 n3 m3, .int .i64 k4, .string s4, .slice l4 n4 m4] 24)).alloc (.cells #[.int .i64 4, .string ⟨#[]⟩, .slice (some ⟨wr.heap.size, 0, none⟩) 4 4] 24)) := (hb.alloc hb.size _).alloc (by have := hb.size; simp; omega) _
      have hX5 : ((wr.alloc (.cells #[.int .i64 k1, .string s1, .slice l1 n1 m1, .int .i64 k2, .string s2, .slice l2 n2 m2, .int .i64 k3, .string s3, .slice l3 n3 m3, .int .i64 k4, .string s4, .slice l4 n4 m4] 24)).alloc (.cells #[.int .i64 4, .string ⟨#[]⟩, .slice (some ⟨wr.heap.size, 0, none⟩) 4 4] 24)).heap[W.heap.size]? = some (.cells #[.int .i64 k1, .string s1, .slice l1 n1 m1, .int .i64 k2, .string s2, .slice l2 n2 m2, .int .i64 k3, .string s3, .slice l3 n3 m3, .int .i64 k4, .string s4, .slice l4 n4 m4] 56) := (heap_alloc_old _ _ (by simp; omega)).trans ((heap_alloc_old wr _ hlt).trans hX2)
      have hG5 : ((wr.alloc (.cells #[.int .i64 k1, .string s1, .slice l1 n1 m1, .int .i64 k2, .string s2, .slice l2 n2 m2, .int .i64 k3, .string s3, .slice l3 n3 m3, .int .i64 k4, .string s4, .slice l4 n4 m4] 24)).alloc (.cells #[.int .i64 4, .string ⟨#[]⟩, .slice (some ⟨wr.heap.size, 0, none⟩) 4 4] 24)).heap[wr.heap.size]? = some (.cells #[.int .i64 k1, .string s1, .slice l1 n1 m1, .int .i64 k2, .string s2, .slice l2 n2 m2, .int .i64 k3, .string s3, .slice l3 n3 m3, .int .i64 k4, .string s4, .slice l4 n4 m4] 24) := (heap_alloc_old _ _ (by simp)).trans (heap_alloc_new wr _)
      have hY5 : ((wr.alloc (.cells #[.int .i64 k1, .string s1, .slice l1 n1 m1, .int .i64 k2, .string s2, .slice l2 n2 m2, .int .i64 k3, .string s3, .slice l3 n3 m3, .int .i64 k4, .string s4, .slice l4 n4 m4] 24)).alloc (.cells #[.int .i64 4, .string ⟨#[]⟩, .slice (some ⟨wr.heap.size, 0, none⟩) 4 4] 24)).heap[wr.heap.size + 1]? = some (.cells #[.int .i64 4, .string ⟨#[]⟩, .slice (some ⟨wr.heap.size, 0, none⟩) 4 4] 24) := by
        have := heap_alloc_new (wr.alloc (.cells #[.int .i64 k1, .string s1, .slice l1 n1 m1, .int .i64 k2, .string s2, .slice l2 n2 m2, .int .i64 k3, .string s3, .slice l3 n3 m3, .int .i64 k4, .string s4, .slice l4 n4 m4] 24)) (.cells #[.int .i64 4, .string ⟨#[]⟩, .slice (some ⟨wr.heap.size, 0, none⟩) 4 4] 24)
        simpa using this
      have hS5 : ((wr.alloc (.cells #[.int .i64 k1, .string s1, .slice l1 n1 m1, .int .i64 k2, .string s2, .slice l2 n2 m2, .int .i64 k3, .string s3, .slice l3 n3 m3, .int .i64 k4, .string s4, .slice l4 n4 m4] 24)).alloc (.cells #[.int .i64 4, .string ⟨#[]⟩, .slice (some ⟨wr.heap.size, 0, none⟩) 4 4] 24)).heap.size = wr.heap.size + 2 := by simp
      obtain ⟨d0, d1, d2, -, -, -⟩ := obj3 hY5
      generalize hw5 : (wr.alloc (.cells #[.int .i64 k1, .string s1, .slice l1 n1 m1, .int .i64 k2, .string s2, .slice l2 n2 m2, .int .i64 k3, .string s3, .slice l3 n3 m3, .int .i64 k4, .string s4, .slice l4 n4 m4] 24)).alloc (.cells #[.int .i64 4, .string ⟨#[]⟩, .slice (some ⟨wr.heap.size, 0, none⟩) 4 4] 24) = w5 at *
      have hrr := HR.out w5 hB5
      have hmv : ∀ (y : E) (v : Value), RepX w5 (fun b => b < W.heap.size) y v → RepX w5 (fun b => b < w5.heap.size) y v := fun y v h => h.move fun k hk => ⟨Nat.lt_of_lt_of_le hk hB5.size, rfl⟩
      have hrep : RepX w5 (fun b => b < w5.heap.size) (.mk 4 ⟨#[]⟩ [a, b, c, d]) (.agg #[.int .i64 4, .string ⟨#[]⟩, .slice (some ⟨wr.heap.size, 0, none⟩) 4 4]) :=
        rep_list (S := fun k => k < w5.heap.size) (ks := [a, b, c, d]) (q := [(.int .i64 k1, .string s1, .slice l1 n1 m1), (.int .i64 k2, .string s2, .slice l2 n2 m2), (.int .i64 k3, .string s3, .slice l3 n3 m3), (.int .i64 k4, .string s4, .slice l4 n4 m4)]) 4 ⟨#[]⟩ (show wr.heap.size < _ by omega) hG5 rfl
          (fun i p hp => by
            match i, hp with
            | 0, hp => cases hp; exact ⟨rfl, rfl, rfl⟩
            | 1, hp => cases hp; exact ⟨rfl, rfl, rfl⟩
            | 2, hp => cases hp; exact ⟨rfl, rfl, rfl⟩
            | 3, hp => cases hp; exact ⟨rfl, rfl, rfl⟩)
          (fun i u p hu hp => by
            match i, hu, hp with
            | 0, hu, hp => cases hu; cases hp; exact hmv _ _ hrr.1
            | 1, hu, hp => cases hu; cases hp; exact hmv _ _ hrr.2.1
            | 2, hu, hp => cases hu; cases hp; exact hmv _ _ hrr.2.2.1
            | 3, hu, hp => cases hu; cases hp; exact hmv _ _ hrr.2.2.2)
      have hsx : Sml (.mk 4 ⟨#[]⟩ [a, b, c, d]) := .mk _ _ _ (by decide) (by decide) (by decide) (by show (4 : Nat) ≤ _; decide) fun y hy => by
        simp only [List.mem_cons, List.not_mem_nil, or_false] at hy
        rcases hy with rfl | rfl | rfl | rfl
        · exact HS.out.1
        · exact HS.out.2.1
        · exact HS.out.2.2.1
        · exact HS.out.2.2.2
      have hSz : sizeW (.mk 4 ⟨#[]⟩ [a, b, c, d]) ≤ 20000 := by rw [sizeW]; show 1 + 0 + sizeWs _ ≤ 20000; omega
      have hkz : ∀ y ∈ [a, b, c, d], sizeW y ≤ 20000 := fun y hy => Nat.le_trans (sizeW_kid (k := 4) (s := ⟨#[]⟩) hy) hSz
      have HC := Lib.hid (fun (w : World) (h : Below w5.heap.size w5 w) => And.intro (cells12 ((h.block W.heap.size (by omega)).trans hX5)) (obj3 ((h.block (wr.heap.size + 1) (by omega)).trans hY5)))
      have HV := Lib.hid (fun (w : World) (h : Below w5.heap.size w5 w) (y : E) (v : Value) (hy : Sml y) (hz : sizeW y ≤ 20000) (hr : RepX w5 (fun b => b < w5.heap.size) y v) => eval_any hy hz w (fun b => b < w5.heap.size) v (fun k hk => Nat.lt_of_lt_of_le hk h.size) (hr.move fun b hb' => ⟨hb', h.block b hb'⟩))
      have HGD := Lib.hid (fun (w : World) (h : Below w5.heap.size w5 w) => good_any hsx hSz w (fun b => b < w5.heap.size) _ (fun k hk => Nat.lt_of_lt_of_le hk h.size) (hrep.move fun b hb' => ⟨hb', h.block b hb'⟩))
      have HVA := Lib.hid (fun (w : World) (h : Below w5.heap.size w5 w) => HV.out w h a _ HS.out.1 (hkz a (by simp)) (hmv _ _ hrr.1))
      have HVB := Lib.hid (fun (w : World) (h : Below w5.heap.size w5 w) => HV.out w h b _ HS.out.2.1 (hkz b (by simp)) (hmv _ _ hrr.2.1))
      have HVC := Lib.hid (fun (w : World) (h : Below w5.heap.size w5 w) => HV.out w h c _ HS.out.2.2.1 (hkz c (by simp)) (hmv _ _ hrr.2.2.1))
      have HVD := Lib.hid (fun (w : World) (h : Below w5.heap.size w5 w) => HV.out w h d _ HS.out.2.2.2 (hkz d (by simp)) (hmv _ _ hrr.2.2.2))
      have HVX := Lib.hid (fun (w : World) (h : Below w5.heap.size w5 w) => HV.out w h _ _ hsx hSz hrep)
      have hQ := Below.refl w5.heap.size w5
      clear hwg hlf hsz hX5 hG5 hY5 hrep hsx hSz hkz hrr hmv hX2 hb HV HR HS HX hS5
      cases hgd : goodE (.mk 4 ⟨#[]⟩ [a, b, c, d]) with
      | false =>
        rw [hgd] at HGD
        clear hgd HVA HVB HVC HVD HVX
        go_wp2_with (first
          | (go_at_call 17; with_reducible refine (HGD.out _ hQ).mono ?_; rintro e w6 ⟨he, hb9⟩; subst he; replace hQ := hQ.trans (hb9.mono hQ.size); clear hb9))
        go_ret
        exact ⟨rfl, hB5.trans (hQ.mono hB5.size)⟩
      | true =>
        rw [hgd] at HGD
        have hev := eval_ans hgd
        have hks := good_kids hgd
        have ea := eval_ans (hks a (by simp))
        have eb := eval_ans (hks b (by simp))
        have ec := eval_ans (hks c (by simp))
        have ed := eval_ans (hks d (by simp))
        unfold evalV at HVA HVB HVC HVD HVX
        rw [ea] at HVA
        rw [eb] at HVB
        rw [ec] at HVC
        rw [ed] at HVD
        rw [hev] at HVX
        clear ea eb ec ed hev hgd hks
        have hra := mean_rg a [] 0 (by decide)
        have hrb := mean_rg b [] 0 (by decide)
        have hrc := mean_rg c [] 0 (by decide)
        have hrd := mean_rg d [] 0 (by decide)
        cases hma : mean a [] 0 with
        | bad m f =>
          have hf := mean_er a [] 0 m f hma
          rw [hma] at HVA
          generalize ans (mean b [] 0) = B at *
          obtain ⟨tb, jb, eb⟩ := B
          simp only [ans] at HVA
          have j1 : (f == 0) = false := beq_eq_false_iff_ne.2 (by omega)
          clear hra hrb hrc hrd hma hf HVC HVD HVX
          go_wp2_with (first
            | (go_at_call 17; with_reducible refine (HGD.out _ hQ).mono ?_; rintro e w6 ⟨he, hb9⟩; subst he; replace hQ := hQ.trans (hb9.mono hQ.size); clear c0 c1 c2 c3 c4 c5 c6 c7 c8 c9 c10 c11; obtain ⟨⟨c0, c1, c2, c3, c4, c5, c6, c7, c8, c9, c10, c11⟩, d0, d1, d2, -, -, -⟩ := HC.out _ hQ; clear hb9)
            | (go_at_call 12; with_reducible refine (HVA.out _ hQ).mono ?_; rintro e w7 ⟨he, hb9⟩; subst he; replace hQ := hQ.trans (hb9.mono hQ.size); clear c0 c1 c2 c3 c4 c5 c6 c7 c8 c9 c10 c11 d0 d1 d2; obtain ⟨⟨c0, c1, c2, c3, c4, c5, c6, c7, c8, c9, c10, c11⟩, d0, d1, d2, -, -, -⟩ := HC.out _ hQ; clear hb9)
            | (go_at_call 12; with_reducible refine (HVB.out _ hQ).mono ?_; rintro e w8 ⟨he, hb9⟩; subst he; replace hQ := hQ.trans (hb9.mono hQ.size); clear c0 c1 c2 c3 c4 c5 c6 c7 c8 c9 c10 c11 d0 d1 d2; obtain ⟨⟨c0, c1, c2, c3, c4, c5, c6, c7, c8, c9, c10, c11⟩, d0, d1, d2, -, -, -⟩ := HC.out _ hQ; clear hb9))
          go_ret
          exact ⟨rfl, hB5.trans (hQ.mono hB5.size)⟩
        | ok u i =>
          rw [hma] at HVA hra
          simp only [ans] at HVA
          have hi : i ≤ 1000 := hra.2.1
          cases hmb : mean b [] 0 with
          | bad m f =>
            have hf := mean_er b [] 0 m f hmb
            rw [hmb] at HVB
            simp only [ans] at HVB
            have j1 : (f == 0) = false := beq_eq_false_iff_ne.2 (by omega)
            clear hra hrb hrc hrd hma hmb hf hi HVC HVD HVX
            go_wp2_with (first
              | (go_at_call 17; with_reducible refine (HGD.out _ hQ).mono ?_; rintro e w6 ⟨he, hb9⟩; subst he; replace hQ := hQ.trans (hb9.mono hQ.size); clear c0 c1 c2 c3 c4 c5 c6 c7 c8 c9 c10 c11; obtain ⟨⟨c0, c1, c2, c3, c4, c5, c6, c7, c8, c9, c10, c11⟩, d0, d1, d2, -, -, -⟩ := HC.out _ hQ; clear hb9)
              | (go_at_call 12; with_reducible refine (HVA.out _ hQ).mono ?_; rintro e w7 ⟨he, hb9⟩; subst he; replace hQ := hQ.trans (hb9.mono hQ.size); clear c0 c1 c2 c3 c4 c5 c6 c7 c8 c9 c10 c11 d0 d1 d2; obtain ⟨⟨c0, c1, c2, c3, c4, c5, c6, c7, c8, c9, c10, c11⟩, d0, d1, d2, -, -, -⟩ := HC.out _ hQ; clear hb9)
              | (go_at_call 12; with_reducible refine (HVB.out _ hQ).mono ?_; rintro e w8 ⟨he, hb9⟩; subst he; replace hQ := hQ.trans (hb9.mono hQ.size); clear c0 c1 c2 c3 c4 c5 c6 c7 c8 c9 c10 c11 d0 d1 d2; obtain ⟨⟨c0, c1, c2, c3, c4, c5, c6, c7, c8, c9, c10, c11⟩, d0, d1, d2, -, -, -⟩ := HC.out _ hQ; clear hb9))
            go_ret
            exact ⟨rfl, hB5.trans (hQ.mono hB5.size)⟩
          | ok v j =>
            rw [hmb] at HVB hrb
            simp only [ans] at HVB
            have hj : j ≤ 1000 := hrb.2.1
            have hlaw := if_law (s := ⟨#[]⟩) (c := c) (d := d) hma hmb
            clear hma hmb hra hrb
            by_cases huv : u = v
            · rw [if_pos huv] at hlaw
              subst huv
              have hsh := ans_shift hrc (1 + i + j)
              have hcn := ans_cnt (mean c [] 0)
              have hrn := hrc.2.1
              rw [hlaw] at HVX
              generalize shift (1 + i + j) (mean c [] 0) = S at *
              generalize ans (mean c [] 0) = A at *
              generalize cnt (mean c [] 0) = nn at *
              obtain ⟨t, n, g⟩ := A
              dsimp only at hcn
              subst hcn
              by_cases hov : 1000 < 1 + i + j + n
              · rw [hsh.1 hov] at HVX
                have hov2 : (1000 : Int) < 1 + i + j + n := by omega
                clear hsh hlaw hov hrc hrd HVD
                go_wp2_with (first
                  | (go_at_call 17; with_reducible refine (HGD.out _ hQ).mono ?_; rintro e w6 ⟨he, hb9⟩; subst he; replace hQ := hQ.trans (hb9.mono hQ.size); clear c0 c1 c2 c3 c4 c5 c6 c7 c8 c9 c10 c11; obtain ⟨⟨c0, c1, c2, c3, c4, c5, c6, c7, c8, c9, c10, c11⟩, d0, d1, d2, -, -, -⟩ := HC.out _ hQ; clear hb9)
                  | (go_at_call 12; with_reducible refine (HVA.out _ hQ).mono ?_; rintro e w7 ⟨he, hb9⟩; subst he; replace hQ := hQ.trans (hb9.mono hQ.size); clear c0 c1 c2 c3 c4 c5 c6 c7 c8 c9 c10 c11 d0 d1 d2; obtain ⟨⟨c0, c1, c2, c3, c4, c5, c6, c7, c8, c9, c10, c11⟩, d0, d1, d2, -, -, -⟩ := HC.out _ hQ; clear hb9)
                  | (go_at_call 12; with_reducible refine (HVB.out _ hQ).mono ?_; rintro e w8 ⟨he, hb9⟩; subst he; replace hQ := hQ.trans (hb9.mono hQ.size); clear c0 c1 c2 c3 c4 c5 c6 c7 c8 c9 c10 c11 d0 d1 d2; obtain ⟨⟨c0, c1, c2, c3, c4, c5, c6, c7, c8, c9, c10, c11⟩, d0, d1, d2, -, -, -⟩ := HC.out _ hQ; clear hb9; obtain ⟨⟨-, -, -, -, -, -, g6, g7, g8, -, -, -⟩, -⟩ := HC.out _ (hQ.alloc hQ.size (.cells #[.int .i64 k4, .string s4, .slice l4 n4 m4] 24)))
                  | (go_at_call 12; with_reducible refine (HVC.out _ (hQ.alloc hQ.size (.cells #[.int .i64 k3, .string s3, .slice l3 n3 m3] 24))).mono ?_; rintro e w9 ⟨he, hb9⟩; subst he; replace hQ := (hQ.alloc hQ.size (.cells #[.int .i64 k3, .string s3, .slice l3 n3 m3] 24)).trans (hb9.mono (hQ.alloc hQ.size (.cells #[.int .i64 k3, .string s3, .slice l3 n3 m3] 24)).size); clear g6 g7 g8 c0 c1 c2 c3 c4 c5 c6 c7 c8 c9 c10 c11 d0 d1 d2; obtain ⟨⟨c0, c1, c2, c3, c4, c5, c6, c7, c8, c9, c10, c11⟩, d0, d1, d2, -, -, -⟩ := HC.out _ hQ; clear hb9)
                  | (go_at_call 12; with_reducible refine (HVX.out _ hQ).mono ?_; rintro e w10 ⟨he, hb9⟩; subst he; replace hQ := hQ.trans (hb9.mono hQ.size); clear c0 c1 c2 c3 c4 c5 c6 c7 c8 c9 c10 c11 d0 d1 d2; obtain ⟨⟨c0, c1, c2, c3, c4, c5, c6, c7, c8, c9, c10, c11⟩, d0, d1, d2, -, -, -⟩ := HC.out _ hQ; clear hb9))
                go_ret
                exact ⟨rfl, hB5.trans (hQ.mono hB5.size)⟩
              · rw [hsh.2 hov] at HVX
                have hov2 : ¬ (1000 : Int) < 1 + i + j + n := by omega
                have hM : ((n + (1 + i + j) : Nat) : Int) = 1 + i + j + n := by omega
                simp only [hM] at HVX
                clear hsh hlaw hov hrc hrd hM HVD
                go_wp2_with (first
                  | (go_at_call 17; with_reducible refine (HGD.out _ hQ).mono ?_; rintro e w6 ⟨he, hb9⟩; subst he; replace hQ := hQ.trans (hb9.mono hQ.size); clear c0 c1 c2 c3 c4 c5 c6 c7 c8 c9 c10 c11; obtain ⟨⟨c0, c1, c2, c3, c4, c5, c6, c7, c8, c9, c10, c11⟩, d0, d1, d2, -, -, -⟩ := HC.out _ hQ; clear hb9)
                  | (go_at_call 12; with_reducible refine (HVA.out _ hQ).mono ?_; rintro e w7 ⟨he, hb9⟩; subst he; replace hQ := hQ.trans (hb9.mono hQ.size); clear c0 c1 c2 c3 c4 c5 c6 c7 c8 c9 c10 c11 d0 d1 d2; obtain ⟨⟨c0, c1, c2, c3, c4, c5, c6, c7, c8, c9, c10, c11⟩, d0, d1, d2, -, -, -⟩ := HC.out _ hQ; clear hb9)
                  | (go_at_call 12; with_reducible refine (HVB.out _ hQ).mono ?_; rintro e w8 ⟨he, hb9⟩; subst he; replace hQ := hQ.trans (hb9.mono hQ.size); clear c0 c1 c2 c3 c4 c5 c6 c7 c8 c9 c10 c11 d0 d1 d2; obtain ⟨⟨c0, c1, c2, c3, c4, c5, c6, c7, c8, c9, c10, c11⟩, d0, d1, d2, -, -, -⟩ := HC.out _ hQ; clear hb9; obtain ⟨⟨-, -, -, -, -, -, g6, g7, g8, -, -, -⟩, -⟩ := HC.out _ (hQ.alloc hQ.size (.cells #[.int .i64 k4, .string s4, .slice l4 n4 m4] 24)))
                  | (go_at_call 12; with_reducible refine (HVC.out _ (hQ.alloc hQ.size (.cells #[.int .i64 k3, .string s3, .slice l3 n3 m3] 24))).mono ?_; rintro e w9 ⟨he, hb9⟩; subst he; replace hQ := (hQ.alloc hQ.size (.cells #[.int .i64 k3, .string s3, .slice l3 n3 m3] 24)).trans (hb9.mono (hQ.alloc hQ.size (.cells #[.int .i64 k3, .string s3, .slice l3 n3 m3] 24)).size); clear g6 g7 g8 c0 c1 c2 c3 c4 c5 c6 c7 c8 c9 c10 c11 d0 d1 d2; obtain ⟨⟨c0, c1, c2, c3, c4, c5, c6, c7, c8, c9, c10, c11⟩, d0, d1, d2, -, -, -⟩ := HC.out _ hQ; clear hb9)
                  | (go_at_call 12; with_reducible refine (HVX.out _ hQ).mono ?_; rintro e w10 ⟨he, hb9⟩; subst he; replace hQ := hQ.trans (hb9.mono hQ.size); clear c0 c1 c2 c3 c4 c5 c6 c7 c8 c9 c10 c11 d0 d1 d2; obtain ⟨⟨c0, c1, c2, c3, c4, c5, c6, c7, c8, c9, c10, c11⟩, d0, d1, d2, -, -, -⟩ := HC.out _ hQ; clear hb9))
                go_ret
                exact ⟨rfl, hB5.trans (hQ.mono hB5.size)⟩
            · rw [if_neg huv] at hlaw
              have huv2 : (u.toList == v.toList) = false := by
                rw [beq_eq_false_iff_ne]
                intro e
                rw [ByteArray.toList_eq, ByteArray.toList_eq] at e
                exact huv (ByteArray.ext (Array.toList_inj.1 e))
              have hsh := ans_shift hrd (1 + i + j)
              have hcn := ans_cnt (mean d [] 0)
              have hrn := hrd.2.1
              rw [hlaw] at HVX
              generalize shift (1 + i + j) (mean d [] 0) = S at *
              generalize ans (mean d [] 0) = A at *
              generalize cnt (mean d [] 0) = nn at *
              obtain ⟨t, n, g⟩ := A
              dsimp only at hcn
              subst hcn
              by_cases hov : 1000 < 1 + i + j + n
              · rw [hsh.1 hov] at HVX
                have hov2 : (1000 : Int) < 1 + i + j + n := by omega
                clear hsh hlaw hov hrc hrd HVC
                go_wp2_with (first
                  | (go_at_call 17; with_reducible refine (HGD.out _ hQ).mono ?_; rintro e w6 ⟨he, hb9⟩; subst he; replace hQ := hQ.trans (hb9.mono hQ.size); clear c0 c1 c2 c3 c4 c5 c6 c7 c8 c9 c10 c11; obtain ⟨⟨c0, c1, c2, c3, c4, c5, c6, c7, c8, c9, c10, c11⟩, d0, d1, d2, -, -, -⟩ := HC.out _ hQ; clear hb9)
                  | (go_at_call 12; with_reducible refine (HVA.out _ hQ).mono ?_; rintro e w7 ⟨he, hb9⟩; subst he; replace hQ := hQ.trans (hb9.mono hQ.size); clear c0 c1 c2 c3 c4 c5 c6 c7 c8 c9 c10 c11 d0 d1 d2; obtain ⟨⟨c0, c1, c2, c3, c4, c5, c6, c7, c8, c9, c10, c11⟩, d0, d1, d2, -, -, -⟩ := HC.out _ hQ; clear hb9)
                  | (go_at_call 12; with_reducible refine (HVB.out _ hQ).mono ?_; rintro e w8 ⟨he, hb9⟩; subst he; replace hQ := hQ.trans (hb9.mono hQ.size); clear c0 c1 c2 c3 c4 c5 c6 c7 c8 c9 c10 c11 d0 d1 d2; obtain ⟨⟨c0, c1, c2, c3, c4, c5, c6, c7, c8, c9, c10, c11⟩, d0, d1, d2, -, -, -⟩ := HC.out _ hQ; clear hb9)
                  | (go_at_call 12; with_reducible refine (HVD.out _ (hQ.alloc hQ.size (.cells #[.int .i64 k4, .string s4, .slice l4 n4 m4] 24))).mono ?_; rintro e w9 ⟨he, hb9⟩; subst he; replace hQ := (hQ.alloc hQ.size (.cells #[.int .i64 k4, .string s4, .slice l4 n4 m4] 24)).trans (hb9.mono (hQ.alloc hQ.size (.cells #[.int .i64 k4, .string s4, .slice l4 n4 m4] 24)).size); clear c0 c1 c2 c3 c4 c5 c6 c7 c8 c9 c10 c11 d0 d1 d2; obtain ⟨⟨c0, c1, c2, c3, c4, c5, c6, c7, c8, c9, c10, c11⟩, d0, d1, d2, -, -, -⟩ := HC.out _ hQ; clear hb9)
                  | (go_at_call 12; with_reducible refine (HVX.out _ hQ).mono ?_; rintro e w10 ⟨he, hb9⟩; subst he; replace hQ := hQ.trans (hb9.mono hQ.size); clear c0 c1 c2 c3 c4 c5 c6 c7 c8 c9 c10 c11 d0 d1 d2; obtain ⟨⟨c0, c1, c2, c3, c4, c5, c6, c7, c8, c9, c10, c11⟩, d0, d1, d2, -, -, -⟩ := HC.out _ hQ; clear hb9))
                go_ret
                exact ⟨rfl, hB5.trans (hQ.mono hB5.size)⟩
              · rw [hsh.2 hov] at HVX
                have hov2 : ¬ (1000 : Int) < 1 + i + j + n := by omega
                have hM : ((n + (1 + i + j) : Nat) : Int) = 1 + i + j + n := by omega
                simp only [hM] at HVX
                clear hsh hlaw hov hrc hrd hM HVC
                go_wp2_with (first
                  | (go_at_call 17; with_reducible refine (HGD.out _ hQ).mono ?_; rintro e w6 ⟨he, hb9⟩; subst he; replace hQ := hQ.trans (hb9.mono hQ.size); clear c0 c1 c2 c3 c4 c5 c6 c7 c8 c9 c10 c11; obtain ⟨⟨c0, c1, c2, c3, c4, c5, c6, c7, c8, c9, c10, c11⟩, d0, d1, d2, -, -, -⟩ := HC.out _ hQ; clear hb9)
                  | (go_at_call 12; with_reducible refine (HVA.out _ hQ).mono ?_; rintro e w7 ⟨he, hb9⟩; subst he; replace hQ := hQ.trans (hb9.mono hQ.size); clear c0 c1 c2 c3 c4 c5 c6 c7 c8 c9 c10 c11 d0 d1 d2; obtain ⟨⟨c0, c1, c2, c3, c4, c5, c6, c7, c8, c9, c10, c11⟩, d0, d1, d2, -, -, -⟩ := HC.out _ hQ; clear hb9)
                  | (go_at_call 12; with_reducible refine (HVB.out _ hQ).mono ?_; rintro e w8 ⟨he, hb9⟩; subst he; replace hQ := hQ.trans (hb9.mono hQ.size); clear c0 c1 c2 c3 c4 c5 c6 c7 c8 c9 c10 c11 d0 d1 d2; obtain ⟨⟨c0, c1, c2, c3, c4, c5, c6, c7, c8, c9, c10, c11⟩, d0, d1, d2, -, -, -⟩ := HC.out _ hQ; clear hb9)
                  | (go_at_call 12; with_reducible refine (HVD.out _ (hQ.alloc hQ.size (.cells #[.int .i64 k4, .string s4, .slice l4 n4 m4] 24))).mono ?_; rintro e w9 ⟨he, hb9⟩; subst he; replace hQ := (hQ.alloc hQ.size (.cells #[.int .i64 k4, .string s4, .slice l4 n4 m4] 24)).trans (hb9.mono (hQ.alloc hQ.size (.cells #[.int .i64 k4, .string s4, .slice l4 n4 m4] 24)).size); clear c0 c1 c2 c3 c4 c5 c6 c7 c8 c9 c10 c11 d0 d1 d2; obtain ⟨⟨c0, c1, c2, c3, c4, c5, c6, c7, c8, c9, c10, c11⟩, d0, d1, d2, -, -, -⟩ := HC.out _ hQ; clear hb9)
                  | (go_at_call 12; with_reducible refine (HVX.out _ hQ).mono ?_; rintro e w10 ⟨he, hb9⟩; subst he; replace hQ := hQ.trans (hb9.mono hQ.size); clear c0 c1 c2 c3 c4 c5 c6 c7 c8 c9 c10 c11 d0 d1 d2; obtain ⟨⟨c0, c1, c2, c3, c4, c5, c6, c7, c8, c9, c10, c11⟩, d0, d1, d2, -, -, -⟩ := HC.out _ hQ; clear hb9))
                go_ret
                exact ⟨rfl, hB5.trans (hQ.mono hB5.size)⟩
end Ev
end Go.Proofs.YtflhmoelenmomaaGreatDoor
