/-
  Walk of the reference: the instruction that a line is.
-/
import Derived.Test.YtipcockcndnipaaGreatDoorMAwE
import Derived.Test.YtipcockcndnipaaGreatDoorMAwV
import Derived.Test.YtipcockcndnipaaGreatDoorMAwC
import Derived.Test.YtipcockcndnipaaGreatDoorMAwL
import Derived.Test.YtipcockcndnipaaGreatDoorMNmA
namespace Go.Proofs.YtipcockcndnipaaGreatDoor
open Go.RowKit
namespace Aw
open As

/-- what the reference's ins answers -/
def RIV (o : Option (Cd.I × List UInt8)) (e : Ending) : Prop := match o with
  | some (x, want) => e = .returned (.tuple #[Cd.IV x, .string ⟨want.toArray⟩, .bool true])
  | none => ∃ y t, e = .returned (.tuple #[Cd.IV y, .string t, .bool false])
def RIQ (W : World) (o : Option (Cd.I × List UInt8)) (e : Ending) (W' : World) : Prop := Below W.heap.size W W' ∧ RIV o e
/-- the result's block, the instruction's block -/
structure RB (W : World) (hx : Nat) (x : Cd.I) (w : World) : Prop where
  r : ∃ y, w.heap[W.heap.size]? = some (.cells (IC y) 38 (0, 0))
  x : w.heap[hx]? = some (.cells (IC x) 38 (0, 0))
  below : Below W.heap.size W w
  ne : W.heap.size < hx
theorem RB.low {W w w' : World} {hx : Nat} {x : Cd.I} (g : RB W hx x w) (hb : Below w.heap.size w w') : RB W hx x w' := by
  obtain ⟨y, hy⟩ := g.r
  exact ⟨⟨y, (hb.block _ (Array.getElem?_eq_some_iff.1 hy).1).trans hy⟩, (hb.block _ (Array.getElem?_eq_some_iff.1 g.x).1).trans g.x, g.below.trans (hb.mono g.below.size), g.ne⟩
theorem RB.init {W w0 w1 w2 : World} {x y : Cd.I} (hb0 : Below (W.alloc (.cells #[.int .i64 y.op, .int .i64 y.n, .string y.s] 38)).heap.size (W.alloc (.cells #[.int .i64 y.op, .int .i64 y.n, .string y.s] 38)) w0) (hb1 : Below w0.heap.size w0 w1)
    (hb2 : Below (w1.alloc (.cells #[.int .i64 x.op, .int .i64 x.n, .string x.s] 38)).heap.size (w1.alloc (.cells #[.int .i64 x.op, .int .i64 x.n, .string x.s] 38)) w2) : RB W w1.heap.size x w2 := by
  have ha : Below W.heap.size W (W.alloc (.cells #[.int .i64 y.op, .int .i64 y.n, .string y.s] 38)) := (Below.refl _ _).alloc (Nat.le_refl _) _
  have s0 := hb0.size
  have s1 := hb1.size
  have s2 := ha.size
  have s3 : W.heap.size < w0.heap.size := by simp at s0; omega
  have h1 : Below w1.heap.size w1 (w1.alloc (.cells #[.int .i64 x.op, .int .i64 x.n, .string x.s] 38)) := (Below.refl _ _).alloc (Nat.le_refl _) _
  have hW2 : Below w1.heap.size w1 w2 := h1.trans (hb2.mono h1.size)
  refine ⟨⟨y, ?_⟩, (hb2.block _ (by simp)).trans (heap_alloc_new _ _), (ha.trans (hb0.mono s2)).trans ((hb1.mono (by omega)).trans (hW2.mono (by omega))), by omega⟩
  exact (hW2.block _ (by omega)).trans ((hb1.block _ s3).trans ((hb0.block _ (by simp)).trans (heap_alloc_new _ _)))
theorem RB.setN {W w : World} {hx : Nat} {x : Cd.I} (g : RB W hx x w) (v : Int) : RB W hx ⟨x.op, v, x.s⟩ (w.setCell ⟨hx, 1, none⟩ (.int .i64 v)) := by
  obtain ⟨y, hy⟩ := g.r
  have hn := g.ne
  exact ⟨⟨y, (Below.heap_setCell _ _ _ _ (by show W.heap.size ≠ hx; omega)).trans hy⟩, heap_setCell_same w hx 1 _ _ _ g.x, g.below.setCell (by show W.heap.size ≤ hx; omega) _, hn⟩
theorem RB.setS {W w : World} {hx : Nat} {x : Cd.I} (g : RB W hx x w) (s : ByteArray) : RB W hx ⟨x.op, x.n, s⟩ (w.setCell ⟨hx, 2, none⟩ (.string s)) := by
  obtain ⟨y, hy⟩ := g.r
  have hn := g.ne
  exact ⟨⟨y, (Below.heap_setCell _ _ _ _ (by show W.heap.size ≠ hx; omega)).trans hy⟩, heap_setCell_same w hx 2 _ _ _ g.x, g.below.setCell (by show W.heap.size ≤ hx; omega) _, hn⟩
/-- the instruction in the result's block -/
abbrev res3 (w : World) (h : Nat) (x : Cd.I) : World := ((w.setCell ⟨h, 0, none⟩ (.int .i64 x.op)).setCell ⟨h, 1, none⟩ (.int .i64 x.n)).setCell ⟨h, 2, none⟩ (.string x.s)
theorem res3_blk {w : World} {h : Nat} {x y : Cd.I} (hy : w.heap[h]? = some (.cells (IC y) 38 (0, 0))) : (res3 w h x).heap[h]? = some (.cells (IC x) 38 (0, 0)) :=
  heap_setCell_same _ h 2 _ _ _ (heap_setCell_same _ h 1 _ _ _ (heap_setCell_same w h 0 _ _ _ hy))
theorem rins_results {tmps : Array Value} {X : World} {h : Nat} {x : Cd.I} {σ : ByteArray} {ok : Bool} (t2 : tmps[2]? = some (.pointer (some ⟨h, 0, none⟩))) (t3 : tmps[3]? = some (.string σ)) (t4 : tmps[4]? = some (.bool ok))
    (hb : X.heap[h]? = some (.cells (IC x) 38 (0, 0))) : (results Tryz.f23 tmps).run Tryz.prog X = .ok (.tuple #[Cd.IV x, .string σ, .bool ok]) X := by
  obtain ⟨c0, c1, c2, -, -, -⟩ := obj_three hb
  simp [results, Tryz.results23, go_sem, t2, t3, t4, c0, c1, c2]
theorem rins_ret {W w : World} {hx : Nat} {x : Cd.I} {tmps : Array Value} {σ : ByteArray} {ok : Bool} {o : Option (Cd.I × List UInt8)} (g : RB W hx x w) (t2 : tmps[2]? = some (.pointer (some ⟨W.heap.size, 0, none⟩))) (t3 : tmps[3]? = some (.string σ)) (t4 : tmps[4]? = some (.bool ok))
    (hv : RIV o (.returned (.tuple #[Cd.IV x, .string σ, .bool ok]))) : bodyPost Tryz.prog Tryz.f23 (fun e W' => RIQ W o e W') .ret { tmps := tmps, defers := [] } (res3 w W.heap.size x) := by
  obtain ⟨y, hy⟩ := g.r
  exact bodyPost_ret (rins_results t2 t3 t4 (res3_blk hy)) rfl ⟨((g.below.setCell (Nat.le_refl _) _).setCell (Nat.le_refl _) _).setCell (Nat.le_refl _) _, hv⟩
set_option maxHeartbeats 8000000 in
set_option maxRecDepth 100000 in
theorem rins_any (s : ByteArray) (W : World) (hE : Env W) (hs : s.size ≤ 100000) :
    Calls Tryz.prog 23 #[.string s] W fun e W' => RIQ W (insL s.data.toList) e W' := by
  have hc : ∀ w : World, Calls Tryz.prog 45 #[.string s] w fun e w' => e = .returned (CV s.data.toList) ∧ Below w.heap.size w w' := fun w => (rsplit_any s w (by omega)).mono fun e w' ⟨he, n, hw⟩ => ⟨he, by rw [hw]; exact Sx.below_drewN (Below.refl _ _) n⟩
  have hal : (arg s.data.toList).length ≤ 100000 := by
    have := List.Sublist.length_le (List.dropWhile_sublist (fun x => x != 32) (l := s.data.toList))
    rw [Lib.size_eq] at hs
    unfold arg
    rw [List.length_drop]
    omega
  obtain ⟨σw, hσw⟩ : ∃ σ : ByteArray, σ = ⟨(word s.data.toList).toArray⟩ := ⟨_, rfl⟩
  obtain ⟨σa, hσa⟩ : ∃ σ : ByteArray, σ = ⟨(arg s.data.toList).toArray⟩ := ⟨_, rfl⟩
  have hdw : σw.data.toList = word s.data.toList := by rw [hσw]
  have hda : σa.data.toList = arg s.data.toList := by rw [hσa]
  have hza : σa.size ≤ 100000 := by rw [Lib.size_eq, hda]; exact hal
  unfold CV at hc
  rw [← hσw, ← hσa] at hc
  obtain ⟨op, hop⟩ : ∃ op : Int, op = (Cd.opN (word s.data.toList) : Int) := ⟨_, rfl⟩
  obtain ⟨mo, hmo⟩ : ∃ mo, mo = more s.data.toList := ⟨_, rfl⟩
  rw [← hmo] at hc
  have HIL := Lib.hid (show insL s.data.toList = (if op = 0 ∨ mo = decide (Cd.takes op = 0) then none
      else if Cd.takes op = 2 then (unq σa.data.toList).map fun t => (⟨op, 0, ⟨t.toArray⟩⟩, [])
      else if Cd.takes op = 4 then (if Nm.nameL σa.data.toList = true then some (⟨op, 0, ⟨#[]⟩⟩, σa.data.toList) else none)
      else if Cd.takes op = 0 then some (⟨op, 0, ⟨#[]⟩⟩, [])
      else match Lib.atoiAll σa.data.toList with
        | .ok n => if Lib.itoa n = σa.data.toList then some (⟨op, n, ⟨#[]⟩⟩, []) else none
        | _ => none) by
    rw [hda, hop, hmo]
    unfold insL
    simp only [Int.natCast_eq_zero]
    rfl)
  have hopw := fun (w : World) => Cd.opr_any σw w
  rw [hdw, ← hop] at hopw
  have htk := fun (w : World) => Cd.takesr_any op w
  clear hσw hσa hdw hda hal hop hmo
  by_cases g0 : op = 0
  · have HR := Lib.hid (show insL s.data.toList = none by rw [HIL.out, if_pos (.inl g0)])
    clear HIL
    subst g0
    go_enter Tryz.func23, Tryz.ntmps23
    go_wp2_with (first
      | (go_at_call 45; refine (hc _).mono ?_; rintro e w0 ⟨rfl, hb0⟩)
      | (go_at_call 46; refine (hopw _).mono ?_; rintro e w1 ⟨rfl, hb1⟩)
      | (go_at_call 16; refine (htk _).mono ?_; rintro e w2 ⟨rfl, hb2⟩; have hB := RB.init (x := ⟨0, 0, ⟨#[]⟩⟩) (y := ⟨0, 0, ⟨#[]⟩⟩) hb0 hb1 hb2; clear hb0 hb1 hb2; have HB := Lib.hid hB; clear hB; obtain ⟨c0, c1, c2, y0, y1, y2⟩ := obj_three HB.out.x; obtain ⟨⟨y, hy⟩, -, -, -⟩ := HB.out; obtain ⟨r0, r1, r2, z0, z1, z2⟩ := obj_three hy; clear hy))
    try simp only [Exit.inBlock, Exit.then]
    have H9 := fun tmps σ ok => rins_ret (o := insL s.data.toList) (tmps := tmps) (σ := σ) (ok := ok) HB.out
    exact H9 _ _ _ rfl rfl rfl (by rw [HR.out]; exact ⟨_, _, rfl⟩)
  have k0 : (op == 0) = false := by rw [beq_eq_false_iff_ne]; exact g0
  have ht5 := Cd.takes_5 op
  by_cases g1 : mo = decide (Cd.takes op = 0)
  · have HR := Lib.hid (show insL s.data.toList = none by rw [HIL.out, if_pos (.inr g1)])
    clear HIL
    generalize Cd.takes op = tk at *
    rcases ht5 with rfl | rfl | rfl | rfl | rfl
    · obtain rfl : mo = true := by rw [g1]; rfl
      clear g1
      go_enter Tryz.func23, Tryz.ntmps23
      go_wp2_with (first
        | (go_at_call 45; refine (hc _).mono ?_; rintro e w0 ⟨rfl, hb0⟩)
        | (go_at_call 46; refine (hopw _).mono ?_; rintro e w1 ⟨rfl, hb1⟩)
        | (go_at_call 16; refine (htk _).mono ?_; rintro e w2 ⟨rfl, hb2⟩; have hB := RB.init (x := ⟨op, 0, ⟨#[]⟩⟩) (y := ⟨0, 0, ⟨#[]⟩⟩) hb0 hb1 hb2; clear hb0 hb1 hb2; have HB := Lib.hid hB; clear hB; obtain ⟨c0, c1, c2, y0, y1, y2⟩ := obj_three HB.out.x; obtain ⟨⟨y, hy⟩, -, -, -⟩ := HB.out; obtain ⟨r0, r1, r2, z0, z1, z2⟩ := obj_three hy; clear hy))
      try simp only [Exit.inBlock, Exit.then]
      have H9 := fun tmps σ ok => rins_ret (o := insL s.data.toList) (tmps := tmps) (σ := σ) (ok := ok) HB.out
      exact H9 _ _ _ rfl rfl rfl (by rw [HR.out]; exact ⟨_, _, rfl⟩)
    · obtain rfl : mo = false := by rw [g1]; rfl
      clear g1
      go_enter Tryz.func23, Tryz.ntmps23
      go_wp2_with (first
        | (go_at_call 45; refine (hc _).mono ?_; rintro e w0 ⟨rfl, hb0⟩)
        | (go_at_call 46; refine (hopw _).mono ?_; rintro e w1 ⟨rfl, hb1⟩)
        | (go_at_call 16; refine (htk _).mono ?_; rintro e w2 ⟨rfl, hb2⟩; have hB := RB.init (x := ⟨op, 0, ⟨#[]⟩⟩) (y := ⟨0, 0, ⟨#[]⟩⟩) hb0 hb1 hb2; clear hb0 hb1 hb2; have HB := Lib.hid hB; clear hB; obtain ⟨c0, c1, c2, y0, y1, y2⟩ := obj_three HB.out.x; obtain ⟨⟨y, hy⟩, -, -, -⟩ := HB.out; obtain ⟨r0, r1, r2, z0, z1, z2⟩ := obj_three hy; clear hy))
      try simp only [Exit.inBlock, Exit.then]
      have H9 := fun tmps σ ok => rins_ret (o := insL s.data.toList) (tmps := tmps) (σ := σ) (ok := ok) HB.out
      exact H9 _ _ _ rfl rfl rfl (by rw [HR.out]; exact ⟨_, _, rfl⟩)
    · obtain rfl : mo = false := by rw [g1]; rfl
      clear g1
      go_enter Tryz.func23, Tryz.ntmps23
      go_wp2_with (first
        | (go_at_call 45; refine (hc _).mono ?_; rintro e w0 ⟨rfl, hb0⟩)
        | (go_at_call 46; refine (hopw _).mono ?_; rintro e w1 ⟨rfl, hb1⟩)
        | (go_at_call 16; refine (htk _).mono ?_; rintro e w2 ⟨rfl, hb2⟩; have hB := RB.init (x := ⟨op, 0, ⟨#[]⟩⟩) (y := ⟨0, 0, ⟨#[]⟩⟩) hb0 hb1 hb2; clear hb0 hb1 hb2; have HB := Lib.hid hB; clear hB; obtain ⟨c0, c1, c2, y0, y1, y2⟩ := obj_three HB.out.x; obtain ⟨⟨y, hy⟩, -, -, -⟩ := HB.out; obtain ⟨r0, r1, r2, z0, z1, z2⟩ := obj_three hy; clear hy))
      try simp only [Exit.inBlock, Exit.then]
      have H9 := fun tmps σ ok => rins_ret (o := insL s.data.toList) (tmps := tmps) (σ := σ) (ok := ok) HB.out
      exact H9 _ _ _ rfl rfl rfl (by rw [HR.out]; exact ⟨_, _, rfl⟩)
    · obtain rfl : mo = false := by rw [g1]; rfl
      clear g1
      go_enter Tryz.func23, Tryz.ntmps23
      go_wp2_with (first
        | (go_at_call 45; refine (hc _).mono ?_; rintro e w0 ⟨rfl, hb0⟩)
        | (go_at_call 46; refine (hopw _).mono ?_; rintro e w1 ⟨rfl, hb1⟩)
        | (go_at_call 16; refine (htk _).mono ?_; rintro e w2 ⟨rfl, hb2⟩; have hB := RB.init (x := ⟨op, 0, ⟨#[]⟩⟩) (y := ⟨0, 0, ⟨#[]⟩⟩) hb0 hb1 hb2; clear hb0 hb1 hb2; have HB := Lib.hid hB; clear hB; obtain ⟨c0, c1, c2, y0, y1, y2⟩ := obj_three HB.out.x; obtain ⟨⟨y, hy⟩, -, -, -⟩ := HB.out; obtain ⟨r0, r1, r2, z0, z1, z2⟩ := obj_three hy; clear hy))
      try simp only [Exit.inBlock, Exit.then]
      have H9 := fun tmps σ ok => rins_ret (o := insL s.data.toList) (tmps := tmps) (σ := σ) (ok := ok) HB.out
      exact H9 _ _ _ rfl rfl rfl (by rw [HR.out]; exact ⟨_, _, rfl⟩)
    · obtain rfl : mo = false := by rw [g1]; rfl
      clear g1
      go_enter Tryz.func23, Tryz.ntmps23
      go_wp2_with (first
        | (go_at_call 45; refine (hc _).mono ?_; rintro e w0 ⟨rfl, hb0⟩)
        | (go_at_call 46; refine (hopw _).mono ?_; rintro e w1 ⟨rfl, hb1⟩)
        | (go_at_call 16; refine (htk _).mono ?_; rintro e w2 ⟨rfl, hb2⟩; have hB := RB.init (x := ⟨op, 0, ⟨#[]⟩⟩) (y := ⟨0, 0, ⟨#[]⟩⟩) hb0 hb1 hb2; clear hb0 hb1 hb2; have HB := Lib.hid hB; clear hB; obtain ⟨c0, c1, c2, y0, y1, y2⟩ := obj_three HB.out.x; obtain ⟨⟨y, hy⟩, -, -, -⟩ := HB.out; obtain ⟨r0, r1, r2, z0, z1, z2⟩ := obj_three hy; clear hy))
      try simp only [Exit.inBlock, Exit.then]
      have H9 := fun tmps σ ok => rins_ret (o := insL s.data.toList) (tmps := tmps) (σ := σ) (ok := ok) HB.out
      exact H9 _ _ _ rfl rfl rfl (by rw [HR.out]; exact ⟨_, _, rfl⟩)
  have HI2 := Lib.hid (HIL.out.trans (if_neg (fun h => h.elim g0 g1)))
  clear HIL
  generalize Cd.takes op = tk at *
  rcases ht5 with rfl | rfl | rfl | rfl | rfl
  · obtain rfl : mo = false := by cases mo with | false => rfl | true => exact absurd rfl g1
    clear g1
    have HR := Lib.hid (show insL s.data.toList = some (⟨op, 0, ⟨#[]⟩⟩, []) by rw [HI2.out, if_neg (by decide), if_neg (by decide), if_pos rfl])
    clear HI2
    go_enter Tryz.func23, Tryz.ntmps23
    go_wp2_with (first
      | (go_at_call 45; refine (hc _).mono ?_; rintro e w0 ⟨rfl, hb0⟩)
      | (go_at_call 46; refine (hopw _).mono ?_; rintro e w1 ⟨rfl, hb1⟩)
      | (go_at_call 16; refine (htk _).mono ?_; rintro e w2 ⟨rfl, hb2⟩; have hB := RB.init (x := ⟨op, 0, ⟨#[]⟩⟩) (y := ⟨0, 0, ⟨#[]⟩⟩) hb0 hb1 hb2; clear hb0 hb1 hb2; have HB := Lib.hid hB; clear hB; obtain ⟨c0, c1, c2, y0, y1, y2⟩ := obj_three HB.out.x; obtain ⟨⟨y, hy⟩, -, -, -⟩ := HB.out; obtain ⟨r0, r1, r2, z0, z1, z2⟩ := obj_three hy; clear hy))
    try simp only [Exit.inBlock, Exit.then]
    have H9 := fun tmps σ ok => rins_ret (o := insL s.data.toList) (tmps := tmps) (σ := σ) (ok := ok) HB.out
    exact H9 _ _ _ rfl rfl rfl (by rw [HR.out]; exact rfl)
  · obtain rfl : mo = true := by cases mo with | true => rfl | false => exact absurd rfl g1
    clear g1
    cases hx1 : Lib.atoiAll σa.data.toList with
    | ok v =>
      obtain ⟨v0, v1⟩ := Lib.atoiAll_bounds hx1
      have HX := Lib.hid hx1
      have HB0 := Lib.hid (show -9223372036854775808 ≤ v ∧ v ≤ 9223372036854775807 from ⟨by omega, by omega⟩)
      obtain ⟨τ, hτ⟩ : ∃ τ : ByteArray, τ = ⟨(Lib.itoa v).toArray⟩ := ⟨_, rfl⟩
      have hdt : τ.data.toList = Lib.itoa v := by rw [hτ]
      have hI := fun (w : World) (hE : Env w) => itoa_any v (by omega) (by omega) w hE
      rw [← hτ] at hI
      by_cases g : τ = σa
      · have HR := Lib.hid (show insL s.data.toList = some (⟨op, v, ⟨#[]⟩⟩, []) by rw [HI2.out, if_neg (by decide), if_neg (by decide), if_neg (by decide), HX.out]; exact if_pos (by rw [← hdt, g]))
        clear HI2 hx1 v0 v1 hτ hdt
        subst g
        go_enter Tryz.func23, Tryz.ntmps23
        go_wp2_with (first
          | (go_at_call 45; refine (hc _).mono ?_; rintro e w0 ⟨rfl, hb0⟩)
          | (go_at_call 46; refine (hopw _).mono ?_; rintro e w1 ⟨rfl, hb1⟩)
          | (go_at_call 16; refine (htk _).mono ?_; rintro e w2 ⟨rfl, hb2⟩; have hB := RB.init (x := ⟨op, 0, ⟨#[]⟩⟩) (y := ⟨0, 0, ⟨#[]⟩⟩) hb0 hb1 hb2; clear hb0 hb1 hb2; have HB := Lib.hid hB; clear hB; obtain ⟨c0, c1, c2, y0, y1, y2⟩ := obj_three HB.out.x; obtain ⟨⟨y, hy⟩, -, -, -⟩ := HB.out; obtain ⟨r0, r1, r2, z0, z1, z2⟩ := obj_three hy; clear hy)
          | (go_at_call 47; refine (atoi_ok _ (by omega) v HX.out _).mono ?_; rintro e w9 ⟨rfl, hb9⟩; have HB9 := Lib.hid (HB.out.low hb9); clear hb9 HB c0 c1 c2 y0 y1 y2 r0 r1 r2 z0 z1 z2 y; have HB := HB9; clear HB9; obtain ⟨c0, c1, c2, y0, y1, y2⟩ := obj_three HB.out.x; obtain ⟨⟨y, hy⟩, -, -, -⟩ := HB.out; obtain ⟨r0, r1, r2, z0, z1, z2⟩ := obj_three hy; clear hy)
          | (go_at_call 30; refine (hI _ (hE.below (HB.out.setN v).below)).mono ?_; rintro e w9 ⟨rfl, hb9⟩; have HB9 := Lib.hid ((HB.out.setN v).low hb9); clear hb9 HB c0 c1 c2 y0 y1 y2 r0 r1 r2 z0 z1 z2 y; have HB := HB9; clear HB9; obtain ⟨c0, c1, c2, y0, y1, y2⟩ := obj_three HB.out.x; obtain ⟨⟨y, hy⟩, -, -, -⟩ := HB.out; obtain ⟨r0, r1, r2, z0, z1, z2⟩ := obj_three hy; clear hy))
        try simp only [Exit.inBlock, Exit.then]
        have H9 := fun tmps σ ok => rins_ret (o := insL s.data.toList) (tmps := tmps) (σ := σ) (ok := ok) HB.out
        exact H9 _ _ _ rfl rfl rfl (by rw [HR.out]; exact rfl)
      · have HR := Lib.hid (show insL s.data.toList = none by rw [HI2.out, if_neg (by decide), if_neg (by decide), if_neg (by decide), HX.out]; exact if_neg (fun e => g (by rw [hτ, e])))
        have hne := Sx.seq_ff g
        clear HI2 hx1 v0 v1 hτ hdt
        go_enter Tryz.func23, Tryz.ntmps23
        go_wp2_with (first
          | (go_at_call 45; refine (hc _).mono ?_; rintro e w0 ⟨rfl, hb0⟩)
          | (go_at_call 46; refine (hopw _).mono ?_; rintro e w1 ⟨rfl, hb1⟩)
          | (go_at_call 16; refine (htk _).mono ?_; rintro e w2 ⟨rfl, hb2⟩; have hB := RB.init (x := ⟨op, 0, ⟨#[]⟩⟩) (y := ⟨0, 0, ⟨#[]⟩⟩) hb0 hb1 hb2; clear hb0 hb1 hb2; have HB := Lib.hid hB; clear hB; obtain ⟨c0, c1, c2, y0, y1, y2⟩ := obj_three HB.out.x; obtain ⟨⟨y, hy⟩, -, -, -⟩ := HB.out; obtain ⟨r0, r1, r2, z0, z1, z2⟩ := obj_three hy; clear hy)
          | (go_at_call 47; refine (atoi_ok _ (by omega) v HX.out _).mono ?_; rintro e w9 ⟨rfl, hb9⟩; have HB9 := Lib.hid (HB.out.low hb9); clear hb9 HB c0 c1 c2 y0 y1 y2 r0 r1 r2 z0 z1 z2 y; have HB := HB9; clear HB9; obtain ⟨c0, c1, c2, y0, y1, y2⟩ := obj_three HB.out.x; obtain ⟨⟨y, hy⟩, -, -, -⟩ := HB.out; obtain ⟨r0, r1, r2, z0, z1, z2⟩ := obj_three hy; clear hy)
          | (go_at_call 30; refine (hI _ (hE.below (HB.out.setN v).below)).mono ?_; rintro e w9 ⟨rfl, hb9⟩; have HB9 := Lib.hid ((HB.out.setN v).low hb9); clear hb9 HB c0 c1 c2 y0 y1 y2 r0 r1 r2 z0 z1 z2 y; have HB := HB9; clear HB9; obtain ⟨c0, c1, c2, y0, y1, y2⟩ := obj_three HB.out.x; obtain ⟨⟨y, hy⟩, -, -, -⟩ := HB.out; obtain ⟨r0, r1, r2, z0, z1, z2⟩ := obj_three hy; clear hy))
        try simp only [Exit.inBlock, Exit.then]
        have H9 := fun tmps σ ok => rins_ret (o := insL s.data.toList) (tmps := tmps) (σ := σ) (ok := ok) HB.out
        exact H9 _ _ _ rfl rfl rfl (by rw [HR.out]; exact ⟨_, _, rfl⟩)
    | _ =>
      have HX := Lib.hid (show ∀ v, Lib.atoiAll σa.data.toList ≠ .ok v from fun v e => by rw [hx1] at e; cases e)
      have HR := Lib.hid (show insL s.data.toList = none by rw [HI2.out, if_neg (by decide), if_neg (by decide), if_neg (by decide), hx1])
      clear HI2 hx1
      go_enter Tryz.func23, Tryz.ntmps23
      go_wp2_with (first
        | (go_at_call 45; refine (hc _).mono ?_; rintro e w0 ⟨rfl, hb0⟩)
        | (go_at_call 46; refine (hopw _).mono ?_; rintro e w1 ⟨rfl, hb1⟩)
        | (go_at_call 16; refine (htk _).mono ?_; rintro e w2 ⟨rfl, hb2⟩; have hB := RB.init (x := ⟨op, 0, ⟨#[]⟩⟩) (y := ⟨0, 0, ⟨#[]⟩⟩) hb0 hb1 hb2; clear hb0 hb1 hb2; have HB := Lib.hid hB; clear hB; obtain ⟨c0, c1, c2, y0, y1, y2⟩ := obj_three HB.out.x; obtain ⟨⟨y, hy⟩, -, -, -⟩ := HB.out; obtain ⟨r0, r1, r2, z0, z1, z2⟩ := obj_three hy; clear hy)
        | (go_at_call 47; refine (atoi_bad _ (by omega) HX.out _ (hE.below HB.out.below)).mono ?_; rintro e w9 ⟨v, N, rfl, v0, v1, hb9⟩; have HB9 := Lib.hid (HB.out.low hb9); clear hb9 HB c0 c1 c2 y0 y1 y2 r0 r1 r2 z0 z1 z2 y; have HB := HB9; clear HB9; obtain ⟨c0, c1, c2, y0, y1, y2⟩ := obj_three HB.out.x; obtain ⟨⟨y, hy⟩, -, -, -⟩ := HB.out; obtain ⟨r0, r1, r2, z0, z1, z2⟩ := obj_three hy; clear hy)
        | (go_at_call 30; obtain ⟨τ, hτ⟩ : ∃ τ : ByteArray, τ = ⟨(Lib.itoa v).toArray⟩ := ⟨_, rfl⟩; have hI := itoa_any v (by omega) (by omega) _ (hE.below (HB.out.setN v).below); rw [← hτ] at hI; have hne := Sx.seq_ff (show τ ≠ σa from fun e => HX.out v (by rw [← e, hτ]; exact Nu.atoi_itoa v (by omega) (by omega))); clear hτ; refine hI.mono ?_; clear hI; rintro e w8 ⟨rfl, hb9⟩; have HB9 := Lib.hid ((HB.out.setN v).low hb9); clear hb9 HB c0 c1 c2 y0 y1 y2 r0 r1 r2 z0 z1 z2 y; have HB := HB9; clear HB9; obtain ⟨c0, c1, c2, y0, y1, y2⟩ := obj_three HB.out.x; obtain ⟨⟨y, hy⟩, -, -, -⟩ := HB.out; obtain ⟨r0, r1, r2, z0, z1, z2⟩ := obj_three hy; clear hy))
      try simp only [Exit.inBlock, Exit.then]
      have H9 := fun tmps σ ok => rins_ret (o := insL s.data.toList) (tmps := tmps) (σ := σ) (ok := ok) HB.out
      exact H9 _ _ _ rfl rfl rfl (by rw [HR.out]; exact ⟨_, _, rfl⟩)
  · obtain rfl : mo = true := by cases mo with | true => rfl | false => exact absurd rfl g1
    clear g1
    cases hq : unq σa.data.toList with
    | some t =>
      have hU := fun (w : World) => runq_any σa w (by omega)
      have HR := Lib.hid (show insL s.data.toList = some (⟨op, 0, ⟨t.toArray⟩⟩, []) by rw [HI2.out, if_pos rfl, hq]; rfl)
      rw [hq] at hU
      have hU : ∀ w : World, Calls Tryz.prog 48 #[.string σa] w fun e W' => e = .returned (.tuple #[.string ⟨t.toArray⟩, .bool true]) ∧ Below w.heap.size w W' := hU
      clear HI2 hq
      go_enter Tryz.func23, Tryz.ntmps23
      go_wp2_with (first
        | (go_at_call 45; refine (hc _).mono ?_; rintro e w0 ⟨rfl, hb0⟩)
        | (go_at_call 46; refine (hopw _).mono ?_; rintro e w1 ⟨rfl, hb1⟩)
        | (go_at_call 16; refine (htk _).mono ?_; rintro e w2 ⟨rfl, hb2⟩; have hB := RB.init (x := ⟨op, 0, ⟨#[]⟩⟩) (y := ⟨0, 0, ⟨#[]⟩⟩) hb0 hb1 hb2; clear hb0 hb1 hb2; have HB := Lib.hid hB; clear hB; obtain ⟨c0, c1, c2, y0, y1, y2⟩ := obj_three HB.out.x; obtain ⟨⟨y, hy⟩, -, -, -⟩ := HB.out; obtain ⟨r0, r1, r2, z0, z1, z2⟩ := obj_three hy; clear hy)
        | (go_at_call 48; refine (hU _).mono ?_; rintro e w9 ⟨rfl, hb9⟩; have HB9 := Lib.hid (HB.out.low hb9); clear hb9 HB c0 c1 c2 y0 y1 y2 r0 r1 r2 z0 z1 z2 y; have HB := HB9; clear HB9; have q1 : ¬ W.heap.size = w1.heap.size := (by have := HB.out.ne; omega); have q2 : ¬ w1.heap.size = W.heap.size := (by omega); obtain ⟨c0, c1, c2, y0, y1, y2⟩ := obj_three HB.out.x; obtain ⟨⟨y, hy⟩, -, -, -⟩ := HB.out; obtain ⟨r0, r1, r2, z0, z1, z2⟩ := obj_three hy; clear hy))
      try simp only [Exit.inBlock, Exit.then]
      have H9 := fun tmps σ ok => rins_ret (o := insL s.data.toList) (tmps := tmps) (σ := σ) (ok := ok) (HB.out.setS ⟨t.toArray⟩)
      exact H9 _ _ _ rfl rfl rfl (by rw [HR.out]; exact rfl)
    | none =>
      have hU := fun (w : World) => runq_any σa w (by omega)
      have HR := Lib.hid (show insL s.data.toList = none by rw [HI2.out, if_pos rfl, hq]; rfl)
      rw [hq] at hU
      have hU : ∀ w : World, Calls Tryz.prog 48 #[.string σa] w fun e W' => e = .returned (.tuple #[.string ⟨#[]⟩, .bool false]) ∧ Below w.heap.size w W' := hU
      clear HI2 hq
      go_enter Tryz.func23, Tryz.ntmps23
      go_wp2_with (first
        | (go_at_call 45; refine (hc _).mono ?_; rintro e w0 ⟨rfl, hb0⟩)
        | (go_at_call 46; refine (hopw _).mono ?_; rintro e w1 ⟨rfl, hb1⟩)
        | (go_at_call 16; refine (htk _).mono ?_; rintro e w2 ⟨rfl, hb2⟩; have hB := RB.init (x := ⟨op, 0, ⟨#[]⟩⟩) (y := ⟨0, 0, ⟨#[]⟩⟩) hb0 hb1 hb2; clear hb0 hb1 hb2; have HB := Lib.hid hB; clear hB; obtain ⟨c0, c1, c2, y0, y1, y2⟩ := obj_three HB.out.x; obtain ⟨⟨y, hy⟩, -, -, -⟩ := HB.out; obtain ⟨r0, r1, r2, z0, z1, z2⟩ := obj_three hy; clear hy)
        | (go_at_call 48; refine (hU _).mono ?_; rintro e w9 ⟨rfl, hb9⟩; have HB9 := Lib.hid (HB.out.low hb9); clear hb9 HB c0 c1 c2 y0 y1 y2 r0 r1 r2 z0 z1 z2 y; have HB := HB9; clear HB9; have q1 : ¬ W.heap.size = w1.heap.size := (by have := HB.out.ne; omega); have q2 : ¬ w1.heap.size = W.heap.size := (by omega); obtain ⟨c0, c1, c2, y0, y1, y2⟩ := obj_three HB.out.x; obtain ⟨⟨y, hy⟩, -, -, -⟩ := HB.out; obtain ⟨r0, r1, r2, z0, z1, z2⟩ := obj_three hy; clear hy))
      try simp only [Exit.inBlock, Exit.then]
      have H9 := fun tmps σ ok => rins_ret (o := insL s.data.toList) (tmps := tmps) (σ := σ) (ok := ok) (HB.out.setS ⟨#[]⟩)
      exact H9 _ _ _ rfl rfl rfl (by rw [HR.out]; exact ⟨_, _, rfl⟩)
  · obtain rfl : mo = true := by cases mo with | true => rfl | false => exact absurd rfl g1
    clear g1
    cases hx1 : Lib.atoiAll σa.data.toList with
    | ok v =>
      obtain ⟨v0, v1⟩ := Lib.atoiAll_bounds hx1
      have HX := Lib.hid hx1
      have HB0 := Lib.hid (show -9223372036854775808 ≤ v ∧ v ≤ 9223372036854775807 from ⟨by omega, by omega⟩)
      obtain ⟨τ, hτ⟩ : ∃ τ : ByteArray, τ = ⟨(Lib.itoa v).toArray⟩ := ⟨_, rfl⟩
      have hdt : τ.data.toList = Lib.itoa v := by rw [hτ]
      have hI := fun (w : World) (hE : Env w) => itoa_any v (by omega) (by omega) w hE
      rw [← hτ] at hI
      by_cases g : τ = σa
      · have HR := Lib.hid (show insL s.data.toList = some (⟨op, v, ⟨#[]⟩⟩, []) by rw [HI2.out, if_neg (by decide), if_neg (by decide), if_neg (by decide), HX.out]; exact if_pos (by rw [← hdt, g]))
        clear HI2 hx1 v0 v1 hτ hdt
        subst g
        go_enter Tryz.func23, Tryz.ntmps23
        go_wp2_with (first
          | (go_at_call 45; refine (hc _).mono ?_; rintro e w0 ⟨rfl, hb0⟩)
          | (go_at_call 46; refine (hopw _).mono ?_; rintro e w1 ⟨rfl, hb1⟩)
          | (go_at_call 16; refine (htk _).mono ?_; rintro e w2 ⟨rfl, hb2⟩; have hB := RB.init (x := ⟨op, 0, ⟨#[]⟩⟩) (y := ⟨0, 0, ⟨#[]⟩⟩) hb0 hb1 hb2; clear hb0 hb1 hb2; have HB := Lib.hid hB; clear hB; obtain ⟨c0, c1, c2, y0, y1, y2⟩ := obj_three HB.out.x; obtain ⟨⟨y, hy⟩, -, -, -⟩ := HB.out; obtain ⟨r0, r1, r2, z0, z1, z2⟩ := obj_three hy; clear hy)
          | (go_at_call 47; refine (atoi_ok _ (by omega) v HX.out _).mono ?_; rintro e w9 ⟨rfl, hb9⟩; have HB9 := Lib.hid (HB.out.low hb9); clear hb9 HB c0 c1 c2 y0 y1 y2 r0 r1 r2 z0 z1 z2 y; have HB := HB9; clear HB9; obtain ⟨c0, c1, c2, y0, y1, y2⟩ := obj_three HB.out.x; obtain ⟨⟨y, hy⟩, -, -, -⟩ := HB.out; obtain ⟨r0, r1, r2, z0, z1, z2⟩ := obj_three hy; clear hy)
          | (go_at_call 30; refine (hI _ (hE.below (HB.out.setN v).below)).mono ?_; rintro e w9 ⟨rfl, hb9⟩; have HB9 := Lib.hid ((HB.out.setN v).low hb9); clear hb9 HB c0 c1 c2 y0 y1 y2 r0 r1 r2 z0 z1 z2 y; have HB := HB9; clear HB9; obtain ⟨c0, c1, c2, y0, y1, y2⟩ := obj_three HB.out.x; obtain ⟨⟨y, hy⟩, -, -, -⟩ := HB.out; obtain ⟨r0, r1, r2, z0, z1, z2⟩ := obj_three hy; clear hy))
        try simp only [Exit.inBlock, Exit.then]
        have H9 := fun tmps σ ok => rins_ret (o := insL s.data.toList) (tmps := tmps) (σ := σ) (ok := ok) HB.out
        exact H9 _ _ _ rfl rfl rfl (by rw [HR.out]; exact rfl)
      · have HR := Lib.hid (show insL s.data.toList = none by rw [HI2.out, if_neg (by decide), if_neg (by decide), if_neg (by decide), HX.out]; exact if_neg (fun e => g (by rw [hτ, e])))
        have hne := Sx.seq_ff g
        clear HI2 hx1 v0 v1 hτ hdt
        go_enter Tryz.func23, Tryz.ntmps23
        go_wp2_with (first
          | (go_at_call 45; refine (hc _).mono ?_; rintro e w0 ⟨rfl, hb0⟩)
          | (go_at_call 46; refine (hopw _).mono ?_; rintro e w1 ⟨rfl, hb1⟩)
          | (go_at_call 16; refine (htk _).mono ?_; rintro e w2 ⟨rfl, hb2⟩; have hB := RB.init (x := ⟨op, 0, ⟨#[]⟩⟩) (y := ⟨0, 0, ⟨#[]⟩⟩) hb0 hb1 hb2; clear hb0 hb1 hb2; have HB := Lib.hid hB; clear hB; obtain ⟨c0, c1, c2, y0, y1, y2⟩ := obj_three HB.out.x; obtain ⟨⟨y, hy⟩, -, -, -⟩ := HB.out; obtain ⟨r0, r1, r2, z0, z1, z2⟩ := obj_three hy; clear hy)
          | (go_at_call 47; refine (atoi_ok _ (by omega) v HX.out _).mono ?_; rintro e w9 ⟨rfl, hb9⟩; have HB9 := Lib.hid (HB.out.low hb9); clear hb9 HB c0 c1 c2 y0 y1 y2 r0 r1 r2 z0 z1 z2 y; have HB := HB9; clear HB9; obtain ⟨c0, c1, c2, y0, y1, y2⟩ := obj_three HB.out.x; obtain ⟨⟨y, hy⟩, -, -, -⟩ := HB.out; obtain ⟨r0, r1, r2, z0, z1, z2⟩ := obj_three hy; clear hy)
          | (go_at_call 30; refine (hI _ (hE.below (HB.out.setN v).below)).mono ?_; rintro e w9 ⟨rfl, hb9⟩; have HB9 := Lib.hid ((HB.out.setN v).low hb9); clear hb9 HB c0 c1 c2 y0 y1 y2 r0 r1 r2 z0 z1 z2 y; have HB := HB9; clear HB9; obtain ⟨c0, c1, c2, y0, y1, y2⟩ := obj_three HB.out.x; obtain ⟨⟨y, hy⟩, -, -, -⟩ := HB.out; obtain ⟨r0, r1, r2, z0, z1, z2⟩ := obj_three hy; clear hy))
        try simp only [Exit.inBlock, Exit.then]
        have H9 := fun tmps σ ok => rins_ret (o := insL s.data.toList) (tmps := tmps) (σ := σ) (ok := ok) HB.out
        exact H9 _ _ _ rfl rfl rfl (by rw [HR.out]; exact ⟨_, _, rfl⟩)
    | _ =>
      have HX := Lib.hid (show ∀ v, Lib.atoiAll σa.data.toList ≠ .ok v from fun v e => by rw [hx1] at e; cases e)
      have HR := Lib.hid (show insL s.data.toList = none by rw [HI2.out, if_neg (by decide), if_neg (by decide), if_neg (by decide), hx1])
      clear HI2 hx1
      go_enter Tryz.func23, Tryz.ntmps23
      go_wp2_with (first
        | (go_at_call 45; refine (hc _).mono ?_; rintro e w0 ⟨rfl, hb0⟩)
        | (go_at_call 46; refine (hopw _).mono ?_; rintro e w1 ⟨rfl, hb1⟩)
        | (go_at_call 16; refine (htk _).mono ?_; rintro e w2 ⟨rfl, hb2⟩; have hB := RB.init (x := ⟨op, 0, ⟨#[]⟩⟩) (y := ⟨0, 0, ⟨#[]⟩⟩) hb0 hb1 hb2; clear hb0 hb1 hb2; have HB := Lib.hid hB; clear hB; obtain ⟨c0, c1, c2, y0, y1, y2⟩ := obj_three HB.out.x; obtain ⟨⟨y, hy⟩, -, -, -⟩ := HB.out; obtain ⟨r0, r1, r2, z0, z1, z2⟩ := obj_three hy; clear hy)
        | (go_at_call 47; refine (atoi_bad _ (by omega) HX.out _ (hE.below HB.out.below)).mono ?_; rintro e w9 ⟨v, N, rfl, v0, v1, hb9⟩; have HB9 := Lib.hid (HB.out.low hb9); clear hb9 HB c0 c1 c2 y0 y1 y2 r0 r1 r2 z0 z1 z2 y; have HB := HB9; clear HB9; obtain ⟨c0, c1, c2, y0, y1, y2⟩ := obj_three HB.out.x; obtain ⟨⟨y, hy⟩, -, -, -⟩ := HB.out; obtain ⟨r0, r1, r2, z0, z1, z2⟩ := obj_three hy; clear hy)
        | (go_at_call 30; obtain ⟨τ, hτ⟩ : ∃ τ : ByteArray, τ = ⟨(Lib.itoa v).toArray⟩ := ⟨_, rfl⟩; have hI := itoa_any v (by omega) (by omega) _ (hE.below (HB.out.setN v).below); rw [← hτ] at hI; have hne := Sx.seq_ff (show τ ≠ σa from fun e => HX.out v (by rw [← e, hτ]; exact Nu.atoi_itoa v (by omega) (by omega))); clear hτ; refine hI.mono ?_; clear hI; rintro e w8 ⟨rfl, hb9⟩; have HB9 := Lib.hid ((HB.out.setN v).low hb9); clear hb9 HB c0 c1 c2 y0 y1 y2 r0 r1 r2 z0 z1 z2 y; have HB := HB9; clear HB9; obtain ⟨c0, c1, c2, y0, y1, y2⟩ := obj_three HB.out.x; obtain ⟨⟨y, hy⟩, -, -, -⟩ := HB.out; obtain ⟨r0, r1, r2, z0, z1, z2⟩ := obj_three hy; clear hy))
      try simp only [Exit.inBlock, Exit.then]
      have H9 := fun tmps σ ok => rins_ret (o := insL s.data.toList) (tmps := tmps) (σ := σ) (ok := ok) HB.out
      exact H9 _ _ _ rfl rfl rfl (by rw [HR.out]; exact ⟨_, _, rfl⟩)
  · obtain rfl : mo = true := by cases mo with | true => rfl | false => exact absurd rfl g1
    clear g1
    have HR := Lib.hid (show insL s.data.toList = if Nm.nameL σa.data.toList = true then some (⟨op, 0, ⟨#[]⟩⟩, σa.data.toList) else none by rw [HI2.out, if_neg (by decide), if_pos rfl])
    have hN := fun (w : World) => Nm.namer_any σa w (by omega)
    obtain ⟨ok, hok⟩ : ∃ ok, ok = Nm.nameL σa.data.toList := ⟨_, rfl⟩
    rw [← hok] at hN HR
    clear HI2 hok
    go_enter Tryz.func23, Tryz.ntmps23
    go_wp2_with (first
      | (go_at_call 45; refine (hc _).mono ?_; rintro e w0 ⟨rfl, hb0⟩)
      | (go_at_call 46; refine (hopw _).mono ?_; rintro e w1 ⟨rfl, hb1⟩)
      | (go_at_call 16; refine (htk _).mono ?_; rintro e w2 ⟨rfl, hb2⟩; have hB := RB.init (x := ⟨op, 0, ⟨#[]⟩⟩) (y := ⟨0, 0, ⟨#[]⟩⟩) hb0 hb1 hb2; clear hb0 hb1 hb2; have HB := Lib.hid hB; clear hB; obtain ⟨c0, c1, c2, y0, y1, y2⟩ := obj_three HB.out.x; obtain ⟨⟨y, hy⟩, -, -, -⟩ := HB.out; obtain ⟨r0, r1, r2, z0, z1, z2⟩ := obj_three hy; clear hy))
    have e0 := fun Y => (obj_three ((keepw_blk w2 w1.heap.size Y).trans HB.out.x)).1
    have e1 := fun Y => (obj_three ((keepw_blk w2 w1.heap.size Y).trans HB.out.x)).2.1
    have e2 := fun Y => (obj_three ((keepw_blk w2 w1.heap.size Y).trans HB.out.x)).2.2.1
    refine Mix.region (fun w' => ∃ Y, w' = keepw w2 w1.heap.size Y) 7 [0, 0, 0, 1, 1, 1, 1] [true, false] (by kernel_rfl) (fun _ _ d _ _ h => by cases d <;> exact h) (by rfl) (by kernel_rfl) (keepw_of rfl) ?_
    simp only [Mix.selP_cons, Mix.selP_nil, Mix.sel_cons, Mix.sel_nil, Nat.reduceBEq, Nat.reduceAdd, cond_true, cond_false, List.drop_succ_cons, List.drop_zero]
    refine Mix.parts_q ?_
    repeat (go_big_quiet_step (fail))
    refine wpQuiet_nil ?_
    refine Mix.parts_e ?_
    refine Mix.eff_step (fun K hK => ?_)
    go_simp
    refine (hN _).mono ?_
    rintro e w3 ⟨rfl, hw⟩
    subst hw
    refine hK _ _ (keepw_of rfl) ?_
    clear hK K e0 e1 e2
    have HB9 := Lib.hid (HB.out.low (Below.refl _ _).drew)
    have q1 : w1.heap.size ≠ W.heap.size := by have := HB.out.ne; omega
    clear HB c0 c1 c2 y0 y1 y2
    refine Mix.eff_step (fun K hK => ?_)
    go_simp
    refine hK _ _ (keepw_of ((Below.heap_setCell _ _ _ _ q1).trans ((Below.heap_setCell _ _ _ _ q1).trans (Below.heap_setCell _ _ _ _ q1)))) ?_
    clear hK K
    refine Mix.eff_step (fun K hK => ?_)
    go_simp
    refine hK _ _ (keepw_of ((Below.heap_setCell _ _ _ _ q1).trans ((Below.heap_setCell _ _ _ _ q1).trans (Below.heap_setCell _ _ _ _ q1)))) ?_
    clear hK K
    refine Mix.eff_step (fun K hK => ?_)
    go_simp
    refine hK _ _ (keepw_of ((Below.heap_setCell _ _ _ _ q1).trans ((Below.heap_setCell _ _ _ _ q1).trans (Below.heap_setCell _ _ _ _ q1)))) ?_
    clear hK K
    refine Mix.eff_nil (Mix.parts_n ?_)
    have H9 := fun tmps σ ok => rins_ret (o := insL s.data.toList) (tmps := tmps) (σ := σ) (ok := ok) HB9.out
    go_wp2_with fail
    try simp only [Exit.inBlock, Exit.then]
    refine H9 _ _ _ rfl rfl rfl ?_
    rw [HR.out]
    cases ok with
    | true => exact rfl
    | false => exact ⟨_, _, rfl⟩
end Aw
end Go.Proofs.YtipcockcndnipaaGreatDoor
