/-
  Walk: strings.SplitSeq at any separator that is not empty: the iterator's contract.
-/
import Derived.Test.YtlmmhhkhoaoheaaGreatDoorRgN
import Derived.Test.YtlmmhhkhoaoheaaGreatDoorSgT
import Derived.Test.YtlmmhhkhoaoheaaGreatDoorShelf
import Derived.Shelf.Abstract
import Derived.Shelf.RegionOpen
import Derived.WalkKit
import Derived.OwnWalkIn
import Derived.TacticsInMore
import Derived.LoopNIn
import Derived.LoopIn
import Derived.Lib.IndexLaws
import Derived.Lib.Hide
namespace Go.Proofs.YtlmmhhkhoaoheaaGreatDoor
open Go.RowKit Go.Shelf
namespace Sps
attribute [local go_sem] Oper.semAt_some

def bL (x : ByteArray) : List UInt8 := x.data.toList
theorem bL_extract (r : ByteArray) (i j : Nat) : bL (r.extract i j) = ((bL r).take j).drop i := by
  unfold bL
  rw [ByteArray.data_extract, Array.toList_extract]
  simp [List.extract, List.drop_take]
/-- the iterator's three cells -/
structure Own3 (W : World) (B : Nat) (sep r : ByteArray) : Prop where
  c0 : W.cell? ⟨B, 0, none⟩ = some (.string r)
  fz : W.frozen? ⟨B, 0, none⟩ = false
  c1 : W.cell? ⟨B + 1, 0, none⟩ = some (.string sep)
  c2 : W.cell? ⟨B + 2, 0, none⟩ = some (.int .i64 0)
/-- what is kept between two rounds -/
def Kp (B : Nat) (W W' : World) : Prop := W.heap.size ≤ W'.heap.size ∧ (∀ k, B ≤ k → k < B + 3 → W'.heap[k]? = W.heap[k]?) ∧ W'.heap[(2 : Nat)]? = W.heap[(2 : Nat)]?
theorem Own3.kept {W W' : World} {B : Nat} {sep r : ByteArray} (h : Own3 W B sep r) (hk : Kp B W W') : Own3 W' B sep r :=
  ⟨(World.cell?_of_block (hk.2.1 B (Nat.le_refl _) (by omega))).trans h.c0, (World.frozen?_of_block (hk.2.1 B (Nat.le_refl _) (by omega))).trans h.fz,
    (World.cell?_of_block (hk.2.1 (B + 1) (by omega) (by omega))).trans h.c1, (World.cell?_of_block (hk.2.1 (B + 2) (by omega) (by omega))).trans h.c2⟩
theorem Own3.set {W : World} {B : Nat} {sep r : ByteArray} (h : Own3 W B sep r) (r' : ByteArray) : Own3 (W.setCell ⟨B, 0, none⟩ (.string r')) B sep r' :=
  ⟨World.cell?_setCell_same' _ _ _ (by rw [h.c0]; rfl), (World.frozen?_setCell _ _ _ _).trans h.fz, (World.cell?_setCell_other _ _ _ _ (by simp)).trans h.c1, (World.cell?_setCell_other _ _ _ _ (by simp)).trans h.c2⟩
/-- the variable that strings.Index reads -/
def Mx (W : World) : Prop := ∃ m, W.cell? ⟨2, 0, none⟩ = some (.int .i64 m)
theorem Mx.kept {W W' : World} {B : Nat} (h : Mx W) (hk : Kp B W W') : Mx W' := by
  obtain ⟨m, hm⟩ := h
  exact ⟨m, (World.cell?_of_block hk.2.2).trans hm⟩
theorem Mx.below {W W' : World} (h : Mx W) (hb : Below W.heap.size W W') : Mx W' := by
  obtain ⟨m, hm⟩ := h
  exact ⟨m, Sx.keep_cell hb hm⟩
theorem Mx.set {W : World} {B : Nat} (h : Mx W) (hB : 2 < B) (v : Value) : Mx (W.setCell ⟨B, 0, none⟩ v) := by
  obtain ⟨m, hm⟩ := h
  exact ⟨m, (World.cell?_setCell_other _ _ _ _ (fun e => by have := congrArg Addr.block e; simp only at this; omega)).trans hm⟩
def lz (B : Nat) (W : World) : Nat := match W.cell? ⟨B, 0, none⟩ with
  | some (.string r) => r.size
  | _ => 0
theorem lz_of {W : World} {B : Nat} {sep r : ByteArray} (h : Own3 W B sep r) : lz B W = r.size := by unfold lz; rw [h.c0]
/-- what has come, and what is left -/
def Left (sep s : ByteArray) (pre : List ByteArray) (r : ByteArray) : Prop := pre.map bL ++ Sg.cuts (bL sep) (bL r) = Sg.cuts (bL sep) (bL s)
theorem Left.last {sep s r : ByteArray} {pre : List ByteArray} (h : Left sep s pre r) (hi : Lib.index (bL r) (bL sep) = -1) : (pre ++ [r]).map bL = Sg.cuts (bL sep) (bL s) := by
  unfold Left at h
  rw [← h, Sg.cuts_none hi]
  simp
theorem Left.next {sep s r : ByteArray} {pre : List ByteArray} (hs : bL sep ≠ []) (h : Left sep s pre r) {o : Nat} (hi : Lib.index (bL r) (bL sep) = o) : Left sep s (pre ++ [r.extract 0 o]) (r.extract (o + sep.size) r.size) := by
  unfold Left at *
  have hz : r.size = (bL r).length := Lib.size_eq r
  have hz2 : sep.size = (bL sep).length := Lib.size_eq sep
  have e1 : bL (r.extract 0 o) = (bL r).take o := by rw [bL_extract, List.drop_zero]
  have e2 : bL (r.extract (o + sep.size) r.size) = (bL r).drop (o + (bL sep).length) := by rw [bL_extract, hz, List.take_length, hz2]
  rw [← h, Sg.cuts_some hs hi, List.map_append, List.map_cons, List.map_nil, e1, e2, List.append_assoc]
  rfl
def Pre (sep s : ByteArray) (pre : List ByteArray) : Prop := (∃ more, pre.map bL ++ more = Sg.cuts (bL sep) (bL s)) ∧ ∀ x ∈ pre, x.size ≤ s.size

set_option maxRecDepth 100000 in
set_option maxHeartbeats 2000000 in
theorem split_stops (n : Nat) (hn : 2 ≤ n) (sep s : ByteArray) (hsep : 0 < sep.size) (hs : s.size ≤ 1048576) (hsz : sep.size ≤ 1048576) (B : Nat) (hB : 2 < B) (w : World) (hw : B + 3 ≤ w.heap.size) (hO : Own3 w B sep s) (hM : Mx w) :
    Rg.SeqC Fence.wide n Tryz.prog 60 #[.pointer (some ⟨B + 1, 0, none⟩), .pointer (some ⟨B, 0, none⟩), .pointer (some ⟨B + 2, 0, none⟩)] (fun x : ByteArray => #[.string x]) ⟨B, 0, none⟩ (Kp B)
      (fun xs => xs.map bL = Sg.cuts (bL sep) (bL s)) (Pre sep s) w := fun l J Jx W hW hJ hJs hY h0 => by
  have hk0 : Kp B w W := by
    refine ⟨hW.size, fun k _ hk => hW.block k (by omega), hW.block _ ?_⟩
    show 2 < w.heap.size
    omega
  have hO1 : Own3 W B sep s := hO.kept hk0
  clear hk0
  have hM1 : Mx W := hM.below hW
  have HSP := Lib.hid (show bL sep ≠ [] by intro e; have := Lib.size_eq sep; unfold bL at e; rw [e] at this; have h9 : sep.size = 0 := this; omega)
  refine callsIn_of_wp Tryz.func60 rfl trivial ?_ rfl
  simp only [Tryz.ntmps60, List.size_toArray, List.length_cons, List.length_nil, Nat.reduceAdd, Nat.reduceSub, Array.replicate_succ, Array.replicate_zero, List.push_toArray, List.append_toArray, List.nil_append, List.cons_append]
  have d1 := hO1.c1
  have j0 : ((sep.size : Int) == 0) = false := beq_eq_false_iff_ne.2 (by omega)
  gi_wp2
  clear d1 j0
  gi_loopw [7, 8] (fun _ _ wr => ∃ (pre : List ByteArray) (r : ByteArray), Own3 wr B sep r ∧ Mx wr ∧ J pre wr ∧ Left sep s pre r ∧ r.size ≤ s.size ∧ ∀ x ∈ pre, x.size ≤ s.size) (fun _ _ wr => lz B wr)
  case atStart => exact ⟨[], s, hO1, hM1, h0, rfl, Nat.le_refl _, fun x h => by cases h⟩
  case round =>
    obtain ⟨pre, r, hR, hMr, hj, hL, hrs, hps⟩ := hrel
    have c0 := hR.c0
    have c1 := hR.c1
    have c2 := hR.c2
    have fz := hR.fz
    have hge := Lib.index_ge (bL r) (bL sep)
    obtain ⟨m, hm⟩ := id hMr
    have HMr := Lib.hid hMr
    by_cases hi : Lib.index (bL r) (bL sep) = -1
    · have HL := Lib.hid (hL.last hi)
      have hp9 : Pre sep s (pre ++ [r]) := ⟨⟨[], by rw [List.append_nil]; exact hL.last hi⟩, fun x hx => by
        rcases List.mem_append.1 hx with hx | hx
        · exact hps x hx
        · rw [List.mem_singleton.1 hx]; exact hrs⟩
      have HP := Lib.hid hp9
      have hx : Calls Tryz.prog 62 #[.string r, .string sep] wr fun e w' => e = .returned (.int .i64 (-1)) ∧ w' = wr := (Tryz.strings_Index r sep m wr (by omega) hm).mono fun e w' h => ⟨by rw [h.1]; unfold bL at hi; rw [hi], h.2⟩
      obtain ⟨fn, tmps, assign, body, hy, hYR⟩ := hY pre r wr hp9 hj
      clear hi hge hL hm hMr hps hp9
      gi_wp2_with (refine ⟨trivial, fun _ => by omega, ?_⟩; gi_at_call 62; refine (callsIn_wide.2 hx).mono ?_; rintro e w' ⟨rfl, rfl⟩)
      refine ⟨fun _ => by omega, hYR.mono ?_⟩
      rintro e W3 (⟨rfl, hJ3, hk3⟩ | ⟨rfl, hJx3⟩)
      · gi_wp2
        go_end0
        exact ⟨⟨_, rfl⟩, .inl ⟨_, HL.out, hJ3⟩⟩
      · gi_wp2
        go_end0
        exact ⟨⟨_, rfl⟩, .inr ⟨_, HP.out, hJx3⟩⟩
    · obtain ⟨o, ho⟩ : ∃ o : Nat, Lib.index (bL r) (bL sep) = o := ⟨(Lib.index (bL r) (bL sep)).toNat, by omega⟩
      have hroom := Lib.index_room (bL r) (bL sep) (by omega)
      have hz : r.size = (bL r).length := Lib.size_eq r
      have hz2 : sep.size = (bL sep).length := Lib.size_eq sep
      have hor : o + sep.size ≤ r.size := by omega
      have HL := Lib.hid (hL.next HSP.out ho)
      have hps9 : ∀ x ∈ pre ++ [r.extract 0 o], x.size ≤ s.size := fun x hx => by
        rcases List.mem_append.1 hx with hx | hx
        · exact hps x hx
        · rw [List.mem_singleton.1 hx, ByteArray.size_extract]; omega
      have hp9 : Pre sep s (pre ++ [r.extract 0 o]) := ⟨⟨_, hL.next HSP.out ho⟩, hps9⟩
      have HP := Lib.hid hp9
      have hx : Calls Tryz.prog 62 #[.string r, .string sep] wr fun e w' => e = .returned (.int .i64 (o : Int)) ∧ w' = wr := (Tryz.strings_Index r sep m wr (by omega) hm).mono fun e w' h => ⟨by rw [h.1]; unfold bL at ho; rw [ho], h.2⟩
      obtain ⟨fn, tmps, assign, body, hy, hYR⟩ := hY pre (r.extract 0 o) wr hp9 hj
      have hor1 : o ≤ r.size := by omega
      clear hi hge hL ho hroom hz hz2 hm hMr hps hps9 hp9
      gi_wp2_with (refine ⟨trivial, fun _ => by omega, ?_⟩; gi_at_call 62; refine (callsIn_wide.2 hx).mono ?_; rintro e w' ⟨rfl, rfl⟩)
      refine ⟨fun _ => by omega, hYR.mono ?_⟩
      rintro e W3 (⟨rfl, hJ3, hk3⟩ | ⟨rfl, hJx3⟩)
      · have hR3 := hR.kept hk3
        have HM3 := Lib.hid (HMr.out.kept hk3)
        clear c0 c1 c2 fz
        have c0 := hR3.c0
        have c1 := hR3.c1
        have fz := hR3.fz
        gi_wp2
        go_roundw
        case rel => exact ⟨_, _, hR3.set _, HM3.out.set hB _, hJs _ _ _ hJ3, HL.out, by simp [ByteArray.size_extract]; omega, HP.out.2⟩
        case measure => rw [lz_of hR, lz_of (hR3.set _)]; simp [ByteArray.size_extract]; omega
      · gi_wp2
        refine bodyPost_ret (results_none rfl _ _ _) rfl ?_
        exact ⟨⟨_, rfl⟩, .inr ⟨_, HP.out, hJx3⟩⟩

theorem seq_any (s sep : ByteArray) (w : World) : Calls Tryz.prog 24 #[.string s, .string sep] w fun e w' =>
    e = .returned (.func (.func 60) #[] #[.pointer (some ⟨w.heap.size + 1, 0, none⟩), .pointer (some ⟨w.heap.size, 0, none⟩), .pointer (some ⟨w.heap.size + 2, 0, none⟩)]) ∧
      w' = ((w.alloc (.cells #[.string s] 9)).alloc (.cells #[.string sep] 9)).alloc (.cells #[.int .i64 0] 3) := by
  go_enter Tryz.func24, Tryz.ntmps24
  go_wp2_with go_in
  go_ret
  exact ⟨rfl, rfl⟩
theorem own3_new (s sep : ByteArray) (w : World) : Own3 (((w.alloc (.cells #[.string s] 9)).alloc (.cells #[.string sep] 9)).alloc (.cells #[.int .i64 0] 3)) w.heap.size sep s := by
  have z1 : (w.alloc (.cells #[.string s] 9)).heap.size = w.heap.size + 1 := World.size_alloc _ _
  have z2 : ((w.alloc (.cells #[.string s] 9)).alloc (.cells #[.string sep] 9)).heap.size = w.heap.size + 2 := by rw [World.size_alloc, z1]
  exact ⟨by rw [World.cell?_alloc_past _ _ _ (by omega), World.cell?_alloc_past _ _ _ (by omega), World.cell?_alloc_at _ _ _ _ rfl]; rfl,
    by rw [World.frozen?_alloc_past _ _ _ (by omega), World.frozen?_alloc_past _ _ _ (by omega), World.frozen?_alloc_at _ _ _ _ rfl],
    by rw [World.cell?_alloc_past _ _ _ (by omega), World.cell?_alloc_at _ _ _ _ z1.symm]; rfl,
    by rw [World.cell?_alloc_at _ _ _ _ z2.symm]; rfl⟩

end Sps
end Go.Proofs.YtlmmhhkhoaoheaaGreatDoor
