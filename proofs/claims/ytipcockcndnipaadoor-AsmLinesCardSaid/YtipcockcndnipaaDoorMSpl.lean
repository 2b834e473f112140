/-
  Walk: strings.SplitSeq at a line feed: the iterator's contract.
-/
import Derived.Test.YtipcockcndnipaaDoorRg
import Derived.Test.YtipcockcndnipaaDoorMNmP
import Derived.Test.YtipcockcndnipaaDoorShelf
import Derived.Shelf.Abstract
import Derived.Shelf.RegionOpen
import Derived.WalkKit
import Derived.OwnWalkIn
import Derived.TacticsInMore
import Derived.LoopNIn
import Derived.LoopIn
import Derived.Lib.IndexLaws
import Derived.Lib.Hide
namespace Go.Proofs.YtipcockcndnipaaDoor
open Go.RowKit Go.Shelf
namespace Spl
attribute [local go_sem] Oper.semAt_some

def bL (x : ByteArray) : List UInt8 := x.data.toList
theorem bL_extract (r : ByteArray) (i j : Nat) : bL (r.extract i j) = ((bL r).take j).drop i := by
  unfold bL
  rw [ByteArray.data_extract, Array.toList_extract]
  simp [List.extract, List.drop_take]
/-- where the first line feed stands -/
theorem cut_at {l : List UInt8} {o : Nat} (h : Lib.indexByte l 10 = o) : o < l.length ∧ As.linesL l = l.take o :: As.linesL (l.drop (o + 1)) := by
  obtain ⟨h1, h2⟩ := Lib.indexByte_some h
  have hl := (List.getElem?_eq_some_iff.1 h1).1
  refine ⟨hl, ?_⟩
  have e : l = l.take o ++ 10 :: l.drop (o + 1) := by
    conv => lhs; rw [← List.take_append_drop o l]
    rw [List.drop_eq_getElem_cons hl]
    rw [List.getElem?_eq_getElem hl] at h1
    rw [Option.some.inj h1]
  conv => lhs; rw [e]
  refine As.lines_cat _ _ fun c hc e => ?_
  subst e
  obtain ⟨k, hk⟩ := List.mem_iff_getElem?.1 hc
  rw [List.getElem?_take] at hk
  split at hk
  · exact h2 k (by assumption) hk
  · cases hk
theorem cut_none {l : List UInt8} (h : Lib.indexByte l 10 = -1) : As.linesL l = [l] := As.lines_one l fun c hc e => by
  subst e
  obtain ⟨k, hk⟩ := List.mem_iff_getElem?.1 hc
  exact Lib.indexByte_none h k hk
/-- the iterator's three cells -/
structure Own3 (W : World) (B : Nat) (r : ByteArray) : Prop where
  c0 : W.cell? ⟨B, 0, none⟩ = some (.string r)
  fz : W.frozen? ⟨B, 0, none⟩ = false
  c1 : W.cell? ⟨B + 1, 0, none⟩ = some (.string ⟨#[10]⟩)
  c2 : W.cell? ⟨B + 2, 0, none⟩ = some (.int .i64 0)
def Kp (B : Nat) (W W' : World) : Prop := W.heap.size ≤ W'.heap.size ∧ ∀ k, B ≤ k → k < B + 3 → W'.heap[k]? = W.heap[k]?
theorem Own3.kept {W W' : World} {B : Nat} {r : ByteArray} (h : Own3 W B r) (hk : Kp B W W') : Own3 W' B r :=
  ⟨(World.cell?_of_block (hk.2 B (Nat.le_refl _) (by omega))).trans h.c0, (World.frozen?_of_block (hk.2 B (Nat.le_refl _) (by omega))).trans h.fz,
    (World.cell?_of_block (hk.2 (B + 1) (by omega) (by omega))).trans h.c1, (World.cell?_of_block (hk.2 (B + 2) (by omega) (by omega))).trans h.c2⟩
theorem Own3.set {W : World} {B : Nat} {r : ByteArray} (h : Own3 W B r) (r' : ByteArray) : Own3 (W.setCell ⟨B, 0, none⟩ (.string r')) B r' :=
  ⟨World.cell?_setCell_same' _ _ _ (by rw [h.c0]; rfl), (World.frozen?_setCell _ _ _ _).trans h.fz, (World.cell?_setCell_other _ _ _ _ (by simp)).trans h.c1, (World.cell?_setCell_other _ _ _ _ (by simp)).trans h.c2⟩
def lz (B : Nat) (W : World) : Nat := match W.cell? ⟨B, 0, none⟩ with
  | some (.string r) => r.size
  | _ => 0
theorem lz_of {W : World} {B : Nat} {r : ByteArray} (h : Own3 W B r) : lz B W = r.size := by unfold lz; rw [h.c0]
/-- what has come, and what is left -/
def Left (s : ByteArray) (pre : List ByteArray) (r : ByteArray) : Prop := pre.map bL ++ As.linesL (bL r) = As.linesL (bL s)
theorem Left.last {s r : ByteArray} {pre : List ByteArray} (h : Left s pre r) (hi : Lib.indexByte (bL r) 10 = -1) : (pre ++ [r]).map bL = As.linesL (bL s) := by
  unfold Left at h
  rw [← h, cut_none hi]
  simp
theorem Left.next {s r : ByteArray} {pre : List ByteArray} (h : Left s pre r) {o : Nat} (hi : Lib.indexByte (bL r) 10 = o) : Left s (pre ++ [r.extract 0 o]) (r.extract (o + 1) r.size) := by
  unfold Left at *
  have hz : r.size = (bL r).length := Lib.size_eq r
  have e1 : bL (r.extract 0 o) = (bL r).take o := by rw [bL_extract, List.drop_zero]
  have e2 : bL (r.extract (o + 1) r.size) = (bL r).drop (o + 1) := by rw [bL_extract, hz, List.take_length]
  rw [← h, (cut_at hi).2, List.map_append, List.map_cons, List.map_nil, e1, e2, List.append_assoc]
  rfl
def Pre (s : ByteArray) (pre : List ByteArray) : Prop := ∃ more, pre.map bL ++ more = As.linesL (bL s)
theorem Left.pre {s r : ByteArray} {pre : List ByteArray} (h : Left s pre r) : Pre s pre := ⟨_, h⟩

set_option maxRecDepth 100000 in
set_option maxHeartbeats 2000000 in
theorem split_stops (n : Nat) (hn : 2 ≤ n) (s : ByteArray) (hs : s.size ≤ maxLen) (B : Nat) (w : World) (hw : B + 3 ≤ w.heap.size) (hO : Own3 w B s) :
    Rg.SeqC Fence.wide n Tryd.prog 40 #[.pointer (some ⟨B + 1, 0, none⟩), .pointer (some ⟨B, 0, none⟩), .pointer (some ⟨B + 2, 0, none⟩)] (fun x : ByteArray => #[.string x]) ⟨B, 0, none⟩ (Kp B)
      (fun xs => xs.map bL = As.linesL (bL s)) (Pre s) w := fun l J Jx W hW hJ hJs hY h0 => by
  unfold maxLen at hs
  have hO1 : Own3 W B s := hO.kept ⟨hW.size, fun k _ hk => hW.block k (by omega)⟩
  refine callsIn_of_wp Tryd.func40 rfl trivial ?_ rfl
  simp only [Tryd.ntmps40, List.size_toArray, List.length_cons, List.length_nil, Nat.reduceAdd, Nat.reduceSub, Array.replicate_succ, Array.replicate_zero, List.push_toArray, List.append_toArray, List.nil_append, List.cons_append]
  have d1 := hO1.c1
  gi_wp2
  clear d1
  gi_loopw [7, 8] (fun _ _ wr => ∃ (pre : List ByteArray) (r : ByteArray), Own3 wr B r ∧ J pre wr ∧ Left s pre r ∧ r.size ≤ s.size) (fun _ _ wr => lz B wr)
  case atStart => exact ⟨[], s, hO1, h0, rfl, Nat.le_refl _⟩
  case round =>
    obtain ⟨pre, r, hR, hj, hL, hrs⟩ := hrel
    have c0 := hR.c0
    have c1 := hR.c1
    have c2 := hR.c2
    have fz := hR.fz
    have hge := Lib.indexByte_ge (bL r) 10
    by_cases hi : Lib.indexByte (bL r) 10 = -1
    · have HL := Lib.hid (hL.last hi)
      have HP := Lib.hid hL.pre
      have hx : Calls Tryd.prog 42 #[.string r, .string ⟨#[10]⟩] wr fun e w' => e = .returned (.int .i64 (-1)) ∧ w' = wr := (Tryd.strings_Index_one r 10 wr).mono fun e w' h => ⟨by rw [h.1]; unfold bL at hi; rw [hi], h.2⟩
      obtain ⟨fn, tmps, assign, body, hy, hYR⟩ := hY pre r wr ⟨[], by rw [List.append_nil]; exact hL.last hi⟩ hj
      clear hi hge hL
      gi_wp2_with (refine ⟨trivial, fun _ => by omega, ?_⟩; gi_at_call 42; refine (callsIn_wide.2 hx).mono ?_; rintro e w' ⟨rfl, rfl⟩)
      refine ⟨fun _ => by omega, hYR.mono ?_⟩
      rintro e W3 (⟨rfl, hJ3, hk3⟩ | ⟨rfl, hJx3⟩)
      · gi_wp2
        go_end0
        exact ⟨⟨_, rfl⟩, .inl ⟨_, HL.out, hJ3⟩⟩
      · gi_wp2
        go_end0
        exact ⟨⟨_, rfl⟩, .inr ⟨_, ⟨[], by rw [List.append_nil]; exact HL.out⟩, hJx3⟩⟩
    · obtain ⟨o, ho⟩ : ∃ o : Nat, Lib.indexByte (bL r) 10 = o := ⟨(Lib.indexByte (bL r) 10).toNat, by omega⟩
      have hlt := (cut_at ho).1
      have hz : r.size = (bL r).length := Lib.size_eq r
      have HL := Lib.hid (hL.next ho)
      have HP := Lib.hid hL.pre
      have hx : Calls Tryd.prog 42 #[.string r, .string ⟨#[10]⟩] wr fun e w' => e = .returned (.int .i64 (o : Int)) ∧ w' = wr := (Tryd.strings_Index_one r 10 wr).mono fun e w' h => ⟨by rw [h.1]; unfold bL at ho; rw [ho], h.2⟩
      obtain ⟨fn, tmps, assign, body, hy, hYR⟩ := hY pre (r.extract 0 o) wr (hL.next ho).pre hj
      have hor : o < r.size := by omega
      clear hi hge hL ho hlt hz
      gi_wp2_with (refine ⟨trivial, fun _ => by omega, ?_⟩; gi_at_call 42; refine (callsIn_wide.2 hx).mono ?_; rintro e w' ⟨rfl, rfl⟩)
      refine ⟨fun _ => by omega, hYR.mono ?_⟩
      rintro e W3 (⟨rfl, hJ3, hk3⟩ | ⟨rfl, hJx3⟩)
      · have hR3 := hR.kept hk3
        clear c0 c1 c2 fz
        have c0 := hR3.c0
        have c1 := hR3.c1
        have fz := hR3.fz
        gi_wp2
        go_roundw
        case rel => exact ⟨_, _, hR3.set _, hJs _ _ _ hJ3, HL.out, by simp [ByteArray.size_extract]; omega⟩
        case measure => rw [lz_of hR, lz_of (hR3.set _)]; simp [ByteArray.size_extract]; omega
      · gi_wp2
        refine bodyPost_ret (results_none rfl _ _ _) rfl ?_
        exact ⟨⟨_, rfl⟩, .inr ⟨_, HL.out.pre, hJx3⟩⟩

theorem seq_any (s sep : ByteArray) (w : World) : Calls Tryd.prog 18 #[.string s, .string sep] w fun e w' =>
    e = .returned (.func (.func 40) #[] #[.pointer (some ⟨w.heap.size + 1, 0, none⟩), .pointer (some ⟨w.heap.size, 0, none⟩), .pointer (some ⟨w.heap.size + 2, 0, none⟩)]) ∧
      w' = ((w.alloc (.cells #[.string s] 9)).alloc (.cells #[.string sep] 9)).alloc (.cells #[.int .i64 0] 3) := by
  go_enter Tryd.func18, Tryd.ntmps18
  go_wp2_with go_in
  go_ret
  exact ⟨rfl, rfl⟩
theorem own3_new (s : ByteArray) (w : World) : Own3 (((w.alloc (.cells #[.string s] 9)).alloc (.cells #[.string ⟨#[10]⟩] 9)).alloc (.cells #[.int .i64 0] 3)) w.heap.size s := by
  have z1 : (w.alloc (.cells #[.string s] 9)).heap.size = w.heap.size + 1 := World.size_alloc _ _
  have z2 : ((w.alloc (.cells #[.string s] 9)).alloc (.cells #[.string ⟨#[10]⟩] 9)).heap.size = w.heap.size + 2 := by rw [World.size_alloc, z1]
  exact ⟨by rw [World.cell?_alloc_past _ _ _ (by omega), World.cell?_alloc_past _ _ _ (by omega), World.cell?_alloc_at _ _ _ _ rfl]; rfl,
    by rw [World.frozen?_alloc_past _ _ _ (by omega), World.frozen?_alloc_past _ _ _ (by omega), World.frozen?_alloc_at _ _ _ _ rfl],
    by rw [World.cell?_alloc_past _ _ _ (by omega), World.cell?_alloc_at _ _ _ _ z1.symm]; rfl,
    by rw [World.cell?_alloc_at _ _ _ _ z2.symm]; rfl⟩

end Spl
end Go.Proofs.YtipcockcndnipaaDoor
