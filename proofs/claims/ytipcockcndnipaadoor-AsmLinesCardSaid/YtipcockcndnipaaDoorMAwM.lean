/-
  The region of two appends (an instruction, the label that it names), whose order is open: what holds on the way.
-/
import Derived.Test.YtipcockcndnipaaDoorMAwW
import Derived.Test.YtipcockcndnipaaDoorInv2
namespace Go.Proofs.YtipcockcndnipaaDoor
open Go.RowKit
namespace Aw
open As

/-- what the region knows -/
structure MV where
  bw : Nat
  bx : Nat
  bl : Nat
  B : Nat
  p : List Cd.I
  ws : List (List UInt8)
  x : Cd.I
  want : List UInt8
  vp : Value
  vl : Value
  vw : Value
abbrev IC (x : Cd.I) : Array Value := #[.int .i64 x.op, .int .i64 x.n, .string x.s]
def MV.quiet (i : Nat) : Bool := decide (i ≤ 6) || (decide (9 ≤ i) && decide (i ≤ 13)) || decide (i = 16) || decide (i = 17) || decide (i = 19) || decide (i = 20)
def MV.slot (i : Nat) : Nat := if i ≤ 17 then 67 + i else 66 + i
def MV.own (k : Nat) : Bool := decide (67 ≤ k) && decide (k ≤ 86)
def MV.V (m : MV) : Nat → Value
  | 5 => m.vp
  | 6 => .agg (IC m.x)
  | 11 => .pointer (some ⟨m.bw, 2, none⟩)
  | 12 => m.vw
  | 13 => .string ⟨m.want.toArray⟩
  | 20 => .pointer (some ⟨m.bw, 2, none⟩)
  | _ => .pointer (some ⟨m.bw, 0, none⟩)
theorem slot_inj (i j : Nat) (hi : MV.quiet i = true) (hj : MV.quiet j = true) (h : MV.slot j = MV.slot i) : j = i := by
  simp only [MV.quiet, Bool.or_eq_true, Bool.and_eq_true, decide_eq_true_eq] at hi hj
  unfold MV.slot at h
  split at h <;> split at h <;> omega
theorem slot_own (i : Nat) (hi : MV.quiet i = true) : MV.own (MV.slot i) = true := by
  simp only [MV.quiet, Bool.or_eq_true, Bool.and_eq_true, decide_eq_true_eq] at hi
  have h : 67 ≤ MV.slot i ∧ MV.slot i ≤ 86 := by
    unfold MV.slot
    split <;> omega
  simp only [MV.own, Bool.and_eq_true, decide_eq_true_eq]
  exact h
theorem slot_ne (i : Nat) (hi : MV.quiet i = true) : MV.slot i ≠ 74 ∧ MV.slot i ≠ 75 ∧ MV.slot i ≠ 81 ∧ MV.slot i ≠ 82 ∧ MV.slot i ≤ 86 := by
  simp only [MV.quiet, Bool.or_eq_true, Bool.and_eq_true, decide_eq_true_eq] at hi
  unfold MV.slot
  split <;> omega
/-- what holds of memory, and of the values that the appends left -/
structure S2 (m : MV) (w0 : World) (d : Mix.Done) (a : Act) (w : World) (c8 c15 : Value) (b7 b14 : Nat) : Prop where
  os : w.os = w0.os
  tape : w.tape = w0.tape
  output : w.output = w0.output
  size : w0.heap.size ≤ w.heap.size
  keep : ∀ k, k < w0.heap.size → k ≠ m.bw → m.vp.ownBlock ≠ some k → m.vw.ownBlock ≠ some k → w.heap[k]? = w0.heap[k]?
  bwk : w.heap[m.bw]? = some (.cells #[if d 18 = true then c8 else m.vp, m.vl, if d 21 = true then c15 else m.vw, .pointer (some ⟨m.bl, 0, none⟩)] 57 (0, 0))
  bxk : w.heap[m.bx]? = some (.cells (IC m.x) 23 (0, 0))
  p0 : d 8 = false → OI w m.B m.vp m.p
  p1 : d 8 = true → a.tmps[75]? = some c8 ∧ OI w m.B c8 (m.p ++ [m.x])
  w0_ : d 15 = false → OS w m.B m.vw m.ws
  w1_ : d 15 = true → a.tmps[82]? = some c15 ∧ OS w m.B c15 (m.ws ++ [m.want])
  s7 : d 7 = true → d 8 = false → a.tmps[74]? = some (.slice (some ⟨b7, 0, none⟩) 1 1) ∧ w.heap[b7]? = some (.cells (IC m.x) 23 (0, 0)) ∧ w0.heap.size ≤ b7
  s14 : d 14 = true → d 15 = false → a.tmps[81]? = some (.slice (some ⟨b14, 0, none⟩) 1 1) ∧ w.heap[b14]? = some (.cells #[.string ⟨m.want.toArray⟩] 9 (0, 0)) ∧ w0.heap.size ≤ b14
  l74 : d 7 = true → ∃ u, a.tmps[74]? = some u
  l81 : d 14 = true → ∃ u, a.tmps[81]? = some u
def SJ (m : MV) (w0 : World) (d : Mix.Done) (a : Act) (w : World) : Prop := ∃ c8 c15 b7 b14, S2 m w0 d a w c8 c15 b7 b14
def JM (m : MV) (a0 : Act) (w0 : World) : Mix.Done → Act → World → Prop := Mix.RJ MV.quiet MV.slot m.V MV.own (SJ m w0) a0
/-- what must hold at the start -/
structure M0 (m : MV) (w0 : World) : Prop where
  bwk : w0.heap[m.bw]? = some (.cells #[m.vp, m.vl, m.vw, .pointer (some ⟨m.bl, 0, none⟩)] 57 (0, 0))
  bxk : w0.heap[m.bx]? = some (.cells (IC m.x) 23 (0, 0))
  op : OI w0 m.B m.vp m.p
  ow : OS w0 m.B m.vw m.ws
  bx : m.vp.ownBlock ≠ some m.bx
theorem JM.start {m : MV} {a0 : Act} {w0 : World} (h : M0 m w0) : JM m a0 w0 (fun _ => false) a0 w0.drew :=
  ⟨rfl, rfl, fun _ _ => rfl, fun _ _ h => (by cases h), .slice none 0 0, .slice none 0 0, 0, 0, rfl, rfl, rfl, Nat.le_refl _, fun _ _ _ _ _ => rfl, h.bwk, h.bxk, fun _ => h.op, (fun h => by cases h), fun _ => h.ow, (fun h => by cases h), (fun h => by cases h), (fun h => by cases h), (fun h => by cases h), (fun h => by cases h)⟩
theorem add_ne {d : Mix.Done} {i j : Nat} (h : j ≠ i) : d.add i j = d j := by simp [Mix.Done.add, h]
/-- an operation that but reads -/
theorem JM.read {m : MV} {a0 a : Act} {w0 w : World} {d : Mix.Done} (h : JM m a0 w0 d a w) (hz : 87 ≤ a0.tmps.size) {i : Nat} (hq : MV.quiet i = true) : JM m a0 w0 (d.add i) (a.put (some (MV.slot i)) (m.V i)) w := by
  obtain ⟨h1, h2, h3, h4, h5⟩ := slot_ne i hq
  have hi : i ≠ 7 ∧ i ≠ 8 ∧ i ≠ 14 ∧ i ≠ 15 ∧ i ≠ 18 ∧ i ≠ 21 := by
    simp only [MV.quiet, Bool.or_eq_true, Bool.and_eq_true, decide_eq_true_eq] at hq
    omega
  obtain ⟨c8, c15, b7, b14, s⟩ := h.st
  refine Mix.RJ.read h hq (slot_own i hq) (by omega) (fun j hj e => slot_inj i j hq hj e) ⟨c8, c15, b7, b14, s.os, s.tape, s.output, s.size, s.keep, ?_, s.bxk, fun x => s.p0 ?_, fun x => ?_, fun x => s.w0_ ?_, fun x => ?_, fun x y => ?_, fun x y => ?_, fun x => ?_, fun x => ?_⟩
  · rw [add_ne (by omega), add_ne (by omega)]; exact s.bwk
  · rwa [add_ne (by omega)] at x
  · rw [add_ne (by omega)] at x
    rw [Mix.put_ne (by omega)]
    exact s.p1 x
  · rwa [add_ne (by omega)] at x
  · rw [add_ne (by omega)] at x
    rw [Mix.put_ne (by omega)]
    exact s.w1_ x
  · rw [add_ne (by omega)] at x y
    rw [Mix.put_ne (by omega)]
    exact s.s7 x y
  · rw [add_ne (by omega)] at x y
    rw [Mix.put_ne (by omega)]
    exact s.s14 x y
  · rw [add_ne (by omega)] at x
    rw [Mix.put_ne (by omega)]
    exact s.l74 x
  · rw [add_ne (by omega)] at x
    rw [Mix.put_ne (by omega)]
    exact s.l81 x
/-- the instruction laid -/
theorem JM.lay7 {m : MV} {a0 a : Act} {w0 w : World} {d : Mix.Done} (h : JM m a0 w0 d a w) (hz : 87 ≤ a0.tmps.size) (n8 : d 8 = false) :
    JM m a0 w0 (d.add 7) (a.put (some 74) (.slice (some ⟨w.heap.size, 0, none⟩) 1 1)) (w.alloc (.cells (IC m.x) 23)) := by
  obtain ⟨c8, c15, b7, b14, s⟩ := h.st
  have hs := h.sz
  refine Mix.RJ.eff h (by decide) (by decide) (fun j hj => (slot_ne j hj).1) ⟨c8, c15, w.heap.size, b14, s.os, s.tape, s.output, by simp; have := s.size; omega, fun k hk h1 h2 h3 => (heap_alloc_old _ _ (Nat.lt_of_lt_of_le hk s.size)).trans (s.keep k hk h1 h2 h3), ?_, (heap_alloc_old _ _ (Array.getElem?_eq_some_iff.1 s.bxk).1).trans s.bxk, fun _ => (s.p0 n8).alloc _, fun x => ?_, fun x => ?_, fun x => ?_, fun _ _ => ⟨Mix.put_eq (by omega), heap_alloc_new _ _, s.size⟩, fun x y => ?_, fun _ => ⟨_, Mix.put_eq (by omega)⟩, fun x => ?_⟩
  · rw [add_ne (by omega), add_ne (by omega)]
    exact (heap_alloc_old _ _ (Array.getElem?_eq_some_iff.1 s.bwk).1).trans s.bwk
  · rw [add_ne (by omega), n8] at x; cases x
  · rw [add_ne (by omega)] at x
    exact (s.w0_ x).alloc _
  · rw [add_ne (by omega)] at x
    rw [Mix.put_ne (by omega)]
    exact ⟨(s.w1_ x).1, (s.w1_ x).2.alloc _⟩
  · rw [add_ne (by omega)] at x y
    rw [Mix.put_ne (by omega)]
    obtain ⟨z1, z2, z3⟩ := s.s14 x y
    exact ⟨z1, (heap_alloc_old _ _ (Array.getElem?_eq_some_iff.1 z2).1).trans z2, z3⟩
  · rw [add_ne (by omega)] at x
    rw [Mix.put_ne (by omega)]
    exact s.l81 x
/-- the label's name laid -/
theorem JM.lay14 {m : MV} {a0 a : Act} {w0 w : World} {d : Mix.Done} (h : JM m a0 w0 d a w) (hz : 87 ≤ a0.tmps.size) (n15 : d 15 = false) :
    JM m a0 w0 (d.add 14) (a.put (some 81) (.slice (some ⟨w.heap.size, 0, none⟩) 1 1)) (w.alloc (.cells #[.string ⟨m.want.toArray⟩] 9)) := by
  obtain ⟨c8, c15, b7, b14, s⟩ := h.st
  have hs := h.sz
  refine Mix.RJ.eff h (by decide) (by decide) (fun j hj => (slot_ne j hj).2.2.1) ⟨c8, c15, b7, w.heap.size, s.os, s.tape, s.output, by simp; have := s.size; omega, fun k hk h1 h2 h3 => (heap_alloc_old _ _ (Nat.lt_of_lt_of_le hk s.size)).trans (s.keep k hk h1 h2 h3), ?_, (heap_alloc_old _ _ (Array.getElem?_eq_some_iff.1 s.bxk).1).trans s.bxk, fun x => ?_, fun x => ?_, fun _ => (s.w0_ n15).alloc _, fun x => ?_, fun x y => ?_, fun _ _ => ⟨Mix.put_eq (by omega), heap_alloc_new _ _, s.size⟩, fun x => ?_, fun _ => ⟨_, Mix.put_eq (by omega)⟩⟩
  · rw [add_ne (by omega), add_ne (by omega)]
    exact (heap_alloc_old _ _ (Array.getElem?_eq_some_iff.1 s.bwk).1).trans s.bwk
  · rw [add_ne (by omega)] at x
    exact (s.p0 x).alloc _
  · rw [add_ne (by omega)] at x
    rw [Mix.put_ne (by omega)]
    exact ⟨(s.p1 x).1, (s.p1 x).2.alloc _⟩
  · rw [add_ne (by omega), n15] at x; cases x
  · rw [add_ne (by omega)] at x y
    rw [Mix.put_ne (by omega)]
    obtain ⟨z1, z2, z3⟩ := s.s7 x y
    exact ⟨z1, (heap_alloc_old _ _ (Array.getElem?_eq_some_iff.1 z2).1).trans z2, z3⟩
  · rw [add_ne (by omega)] at x
    rw [Mix.put_ne (by omega)]
    exact s.l74 x
/-- the instruction appended -/
theorem JM.app8 {m : MV} {a0 a : Act} {w0 w w' : World} {d : Mix.Done} (h : JM m a0 w0 d a w) (hz : 87 ≤ a0.tmps.size) (h0 : M0 m w0) (n8 : d 8 = false) (n15 : d 15 = false) (n18 : d 18 = false) (n21 : d 21 = false) {v' : Value}
    (hown : OI w' m.B v' (m.p ++ [m.x])) (hg : w.grownBy w' m.vp.ownBlock) : JM m a0 w0 (d.add 8) (a.put (some 75) v') w' := by
  obtain ⟨c8, c15, b7, b14, s⟩ := h.st
  have hs := h.sz
  have hbw : w.heap[m.bw]? = _ := s.bwk
  have hp := s.p0 n8
  refine Mix.RJ.eff h (by decide) (by decide) (fun j hj => (slot_ne j hj).2.1) ⟨v', c15, b7, b14, hg.os.trans s.os, hg.tape.trans s.tape, hg.output.trans s.output, Nat.le_trans s.size hg.size, fun k hk h1 h2 h3 => (hg.block k (Nat.lt_of_lt_of_le hk s.size) (fun e => h2 e.symm)).trans (s.keep k hk h1 h2 h3), ?_, ?_, fun x => ?_, fun _ => ⟨Mix.put_eq (by omega), hown⟩, fun _ => ?_, fun x => ?_, fun x y => ?_, fun x y => ?_, fun x => ?_, fun x => ?_⟩
  · rw [add_ne (by omega), add_ne (by omega), n18, n21]
    rw [n18, n21] at hbw
    exact (hg.block m.bw (Array.getElem?_eq_some_iff.1 hbw).1 (fun e => ne_type hp hbw (by decide) e.symm)).trans hbw
  · exact (hg.block m.bx (Array.getElem?_eq_some_iff.1 s.bxk).1 (fun e => h0.bx e.symm)).trans s.bxk
  · rw [Mix.Done.add_same] at x; cases x
  · exact own_block (s.w0_ n15) fun k hk => hg.block k ((s.w0_ n15).lt k hk).2 (fun e => own_apart (s.w0_ n15) hp (by decide) hk e.symm)
  · rw [add_ne (by omega), n15] at x; cases x
  · rw [Mix.Done.add_same] at y; cases y
  · rw [add_ne (by omega)] at x y
    rw [Mix.put_ne (by omega)]
    obtain ⟨z1, z2, z3⟩ := s.s14 x y
    exact ⟨z1, (hg.block b14 (Array.getElem?_eq_some_iff.1 z2).1 (fun e => ne_type hp z2 (by decide) e.symm)).trans z2, z3⟩
  · rw [add_ne (by omega)] at x
    rw [Mix.put_ne (by omega)]
    exact s.l74 x
  · rw [add_ne (by omega)] at x
    rw [Mix.put_ne (by omega)]
    exact s.l81 x
/-- the label's name appended -/
theorem JM.app15 {m : MV} {a0 a : Act} {w0 w w' : World} {d : Mix.Done} (h : JM m a0 w0 d a w) (hz : 87 ≤ a0.tmps.size) (y8 : d 8 = true) (n15 : d 15 = false) (n18 : d 18 = false) (n21 : d 21 = false) {v' : Value}
    (hown : OS w' m.B v' (m.ws ++ [m.want])) (hg : w.grownBy w' m.vw.ownBlock) : JM m a0 w0 (d.add 15) (a.put (some 82) v') w' := by
  obtain ⟨c8, c15, b7, b14, s⟩ := h.st
  have hs := h.sz
  have hbw : w.heap[m.bw]? = _ := s.bwk
  have hp := s.w0_ n15
  refine Mix.RJ.eff h (by decide) (by decide) (fun j hj => (slot_ne j hj).2.2.2.1) ⟨c8, v', b7, b14, hg.os.trans s.os, hg.tape.trans s.tape, hg.output.trans s.output, Nat.le_trans s.size hg.size, fun k hk h1 h2 h3 => (hg.block k (Nat.lt_of_lt_of_le hk s.size) (fun e => h3 e.symm)).trans (s.keep k hk h1 h2 h3), ?_, ?_, fun x => ?_, fun x => ?_, fun x => ?_, fun _ => ⟨Mix.put_eq (by omega), hown⟩, fun x y => ?_, fun x y => ?_, fun x => ?_, fun x => ?_⟩
  · rw [add_ne (by omega), add_ne (by omega), n18, n21]
    rw [n18, n21] at hbw
    exact (hg.block m.bw (Array.getElem?_eq_some_iff.1 hbw).1 (fun e => ne_type hp hbw (by decide) e.symm)).trans hbw
  · exact (hg.block m.bx (Array.getElem?_eq_some_iff.1 s.bxk).1 (fun e => ne_type hp s.bxk (by decide) e.symm)).trans s.bxk
  · rw [add_ne (by omega), y8] at x; cases x
  · rw [Mix.put_ne (by omega)]
    exact ⟨(s.p1 y8).1, own_block (s.p1 y8).2 fun k hk => hg.block k ((s.p1 y8).2.lt k hk).2 (fun e => own_apart (s.p1 y8).2 hp (by decide) hk e.symm)⟩
  · rw [Mix.Done.add_same] at x; cases x
  · rw [add_ne (by omega), y8] at y; cases y
  · rw [Mix.Done.add_same] at y; cases y
  · rw [add_ne (by omega)] at x
    rw [Mix.put_ne (by omega)]
    exact s.l74 x
  · rw [add_ne (by omega)] at x
    rw [Mix.put_ne (by omega)]
    exact s.l81 x
/-- the first store -/
theorem JM.st18 {m : MV} {a0 a : Act} {w0 w : World} {d : Mix.Done} (h : JM m a0 w0 d a w) (y8 : d 8 = true) (y15 : d 15 = true) (n18 : d 18 = false) (n21 : d 21 = false) {c : Value} (hc : a.tmps[75]? = some c) :
    JM m a0 w0 (d.add 18) a (w.setCell ⟨m.bw, 0, none⟩ c) := by
  obtain ⟨c8, c15, b7, b14, s⟩ := h.st
  obtain ⟨hc8, hO8⟩ := s.p1 y8
  obtain ⟨hc15, hO15⟩ := s.w1_ y15
  rw [hc8] at hc
  have e : c = c8 := (Option.some.inj hc).symm
  subst e
  have hbw := s.bwk
  rw [n18, n21] at hbw
  refine Mix.RJ.skip h (by decide) ⟨c, c15, b7, b14, s.os, s.tape, s.output, by simpa [World.setCell] using s.size, fun k hk h1 h2 h3 => (Below.heap_setCell _ _ _ _ h1).trans (s.keep k hk h1 h2 h3), ?_, ?_, fun x => ?_, fun _ => ⟨hc8, ?_⟩, fun x => ?_, fun _ => ⟨hc15, ?_⟩, fun x y => ?_, fun x y => ?_, fun x => ?_, fun x => ?_⟩
  · rw [Mix.Done.add_same, add_ne (by omega), n21]
    exact heap_setCell_same w m.bw 0 _ _ _ hbw
  · have hne : m.bx ≠ m.bw := fun e => by
      have h1 := s.bxk
      rw [e, hbw] at h1
      injection h1 with h1
      injection h1 with _ h1 _
      exact absurd h1 (by decide)
    exact (Below.heap_setCell _ _ _ _ hne).trans s.bxk
  · rw [add_ne (by omega), y8] at x; cases x
  · exact own_block hO8 fun k hk => Below.heap_setCell _ _ _ _ (fun e => ne_type hO8 hbw (by decide) (by have e' : k = m.bw := e; rw [← e']; exact hk))
  · rw [add_ne (by omega), y15] at x; cases x
  · exact own_block hO15 fun k hk => Below.heap_setCell _ _ _ _ (fun e => ne_type hO15 hbw (by decide) (by have e' : k = m.bw := e; rw [← e']; exact hk))
  · rw [add_ne (by omega), y8] at y; cases y
  · rw [add_ne (by omega), y15] at y; cases y
  · rw [add_ne (by omega)] at x; exact s.l74 x
  · rw [add_ne (by omega)] at x; exact s.l81 x
/-- the second store -/
theorem JM.st21 {m : MV} {a0 a : Act} {w0 w : World} {d : Mix.Done} (h : JM m a0 w0 d a w) (y8 : d 8 = true) (y15 : d 15 = true) (y18 : d 18 = true) (n21 : d 21 = false) {c : Value} (hc : a.tmps[82]? = some c) :
    JM m a0 w0 (d.add 21) a (w.setCell ⟨m.bw, 2, none⟩ c) := by
  obtain ⟨c8, c15, b7, b14, s⟩ := h.st
  obtain ⟨hc8, hO8⟩ := s.p1 y8
  obtain ⟨hc15, hO15⟩ := s.w1_ y15
  rw [hc15] at hc
  have e : c = c15 := (Option.some.inj hc).symm
  subst e
  have hbw := s.bwk
  rw [y18, n21] at hbw
  refine Mix.RJ.skip h (by decide) ⟨c8, c, b7, b14, s.os, s.tape, s.output, by simpa [World.setCell] using s.size, fun k hk h1 h2 h3 => (Below.heap_setCell _ _ _ _ h1).trans (s.keep k hk h1 h2 h3), ?_, ?_, fun x => ?_, fun _ => ⟨hc8, ?_⟩, fun x => ?_, fun _ => ⟨hc15, ?_⟩, fun x y => ?_, fun x y => ?_, fun x => ?_, fun x => ?_⟩
  · rw [Mix.Done.add_same, add_ne (by omega), y18]
    exact heap_setCell_same w m.bw 2 _ _ _ hbw
  · have hne : m.bx ≠ m.bw := fun e => by
      have h1 := s.bxk
      rw [e, hbw] at h1
      injection h1 with h1
      injection h1 with _ h1 _
      exact absurd h1 (by decide)
    exact (Below.heap_setCell _ _ _ _ hne).trans s.bxk
  · rw [add_ne (by omega), y8] at x; cases x
  · exact own_block hO8 fun k hk => Below.heap_setCell _ _ _ _ (fun e => ne_type hO8 hbw (by decide) (by have e' : k = m.bw := e; rw [← e']; exact hk))
  · rw [add_ne (by omega), y15] at x; cases x
  · exact own_block hO15 fun k hk => Below.heap_setCell _ _ _ _ (fun e => ne_type hO15 hbw (by decide) (by have e' : k = m.bw := e; rw [← e']; exact hk))
  · rw [add_ne (by omega), y8] at y; cases y
  · rw [add_ne (by omega), y15] at y; cases y
  · rw [add_ne (by omega)] at x; exact s.l74 x
  · rw [add_ne (by omega)] at x; exact s.l81 x
end Aw
end Go.Proofs.YtipcockcndnipaaDoor
