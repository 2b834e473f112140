/-
  One field more: the region with two appends, whose order is open. (printed by gen_RpO.py)
-/
import Derived.Test.YtcigggffaofkhaaMRpN
import Derived.Test.YtcigggffaofkhaaInv
namespace Go.Proofs.Ytcigggffaofkhaa
open Go.RowKit
namespace Rc

theorem put_ne {a : Act} {k j : Nat} {v : Value} (h : j ≠ k) : (a.put (some k) v).tmps[j]? = a.tmps[j]? := by
  simp [Act.put, Ne.symm h]
theorem put_eq {a : Act} {k : Nat} {v : Value} (h : k < a.tmps.size) : (a.put (some k) v).tmps[k]? = some v := by
  simp [Act.put, h]
theorem put_size (a : Act) (k : Nat) (v : Value) : (a.put (some k) v).tmps.size = a.tmps.size := by simp [Act.put]
theorem put_defers (a : Act) (k : Nat) (v : Value) : (a.put (some k) v).defers = a.defers := rfl
theorem eval_of {a : Act} {k : Nat} {v : Value} (h : a.tmps[k]? = some v) : a.eval (.tmp k) = v := by
  obtain ⟨hk, e⟩ := Array.getElem?_eq_some_iff.1 h
  simp [Act.eval, Array.getD, hk, e]
theorem info_field : (Try.prog.info? 47).map (fun i => (i.zero, i.size, i.bytes)) = some (some (.agg #[.int .i64 0, .int .i64 0, .string ⟨#[]⟩, .slice none 0 0, .int .i64 0, .string ⟨#[]⟩, .slice none 0 0]), 7, 104) := by kernel_rfl
/-- the values that the region knows -/
structure MV where
  X : Nat
  F : Nat
  k1 : Int
  σ1 : ByteArray
  sl1 : Option Addr
  n1 : Nat
  c1 : Nat
  k2 : Int
  σ2 : ByteArray
  sl2 : Option Addr
  n2 : Nat
  c2 : Nat
  sl : Option Addr
  n : Nat
  c : Nat
  fq : F7
  qs : List F7
abbrev MV.cs (m : MV) : Array Value := #[.int .i64 m.k1, .string m.σ1, .slice m.sl1 m.n1 m.c1, .int .i64 m.k2, .string m.σ2, .slice m.sl2 m.n2 m.c2, .slice m.sl m.n m.c]
abbrev MV.fin (m : MV) (cv : Value) : Array Value := #[.int .i64 m.k1, .string m.σ1, .slice m.sl1 m.n1 m.c1, .int .i64 m.k2, .string m.σ2, .slice m.sl2 m.n2 m.c2, cv]
def MV.len (m : MV) (d : Mix.Done) : Nat := if d 10 = true then m.n + 1 else if d 7 = true then m.n else 0
def MV.row (m : MV) (d : Mix.Done) : List Value := if d 10 = true then row7 (m.qs ++ [m.fq]) else if d 7 = true then row7 m.qs else []
/-- a block's cells -/
structure CC (w : World) (g : Nat) (cs : Array Value) : Prop where
  at_ : ∀ j v, cs[j]? = some v → w.cell? ⟨g, j, none⟩ = some v
  fz : ∀ j, w.frozen? ⟨g, j, none⟩ = false
theorem CC.block {w w' : World} {g : Nat} {cs : Array Value} (h : CC w g cs) (hb : w'.heap[g]? = w.heap[g]?) : CC w' g cs :=
  ⟨fun j v hv => (World.cell?_of_block hb).trans (h.at_ j v hv), fun j => (World.frozen?_of_block hb).trans (h.fz j)⟩
theorem CC.made (w : World) (cs : Array Value) (T : TypeId) : CC (w.alloc (.cells cs T)) w.heap.size cs :=
  ⟨fun j v hv => obj_cell (heap_alloc_new w (.cells cs T)) hv, fun j => by have hn := heap_alloc_new w (.cells cs T); simp only [World.frozen?, hn]; simp⟩
structure MM (m : MV) (w0 : World) (d : Mix.Done) (a : Act) (w : World) (cv : Value) (g9 g12 : Nat) : Prop where
  own : w.ownsRow w0.heap.size 47 7 cv (m.len d) (m.row d)
  c0 : d 4 = false → cv = .slice none 0 0
  t4 : d 4 = true → d 7 = false → a.tmps[28]? = some cv
  t7 : d 7 = true → d 10 = false → a.tmps[31]? = some cv
  t10 : d 10 = true → a.tmps[34]? = some cv
  b9 : d 9 = true → d 10 = false → a.tmps[33]? = some (.slice (some ⟨g9, 0, none⟩) 1 1) ∧ w.heap[g9]? = some (.cells (cells7 m.fq).toArray 47 (0, 0)) ∧ cv.ownBlock ≠ some g9
  b12 : d 12 = true → a.tmps[5]? = some (.pointer (some ⟨g12, 0, none⟩)) ∧ w0.heap.size ≤ g12 ∧ g12 < w.heap.size ∧ CC w g12 (if d 13 = true then m.fin cv else zeroS) ∧ cv.ownBlock ≠ some g12
  t11 : d 11 = true → a.tmps[35]? = some (.agg (m.fin cv))
structure JM (m : MV) (a0 : Act) (w0 : World) (d : Mix.Done) (a : Act) (w : World) : Prop where
  df : a.defers = a0.defers
  sz : a.tmps.size = a0.tmps.size
  oth : ∀ j, (j < 24 ∧ j ≠ 5) ∨ 35 < j → a.tmps[j]? = a0.tmps[j]?
  e0 : d 0 = true → a.tmps[24]? = some (.pointer (some ⟨m.X, 0, none⟩))
  e1 : d 1 = true → a.tmps[25]? = some (.agg #[.int .i64 m.k1, .string m.σ1, .slice m.sl1 m.n1 m.c1])
  e2 : d 2 = true → a.tmps[26]? = some (.pointer (some ⟨m.X, 3, none⟩))
  e3 : d 3 = true → a.tmps[27]? = some (.agg #[.int .i64 m.k2, .string m.σ2, .slice m.sl2 m.n2 m.c2])
  e5 : d 5 = true → a.tmps[29]? = some (.pointer (some ⟨m.X, 6, none⟩))
  e6 : d 6 = true → a.tmps[30]? = some (.slice m.sl m.n m.c)
  e8 : d 8 = true → a.tmps[32]? = some (.agg (cells7 m.fq).toArray)
  ext : Below w0.heap.size w0 w
  mem : ∃ cv g9 g12, MM m w0 d a w cv g9 g12
theorem JM.start (m : MV) (a0 : Act) (w0 : World) : JM m a0 w0 (fun _ => false) a0 w0.drew :=
  ⟨rfl, rfl, fun _ _ => rfl, (fun h => by cases h), (fun h => by cases h), (fun h => by cases h), (fun h => by cases h), (fun h => by cases h), (fun h => by cases h), (fun h => by cases h), (Below.refl _ _).drew,
    .slice none 0 0, 0, 0, World.ownsRow_nil _ _ _ _, fun _ => rfl, (fun h => by cases h), (fun h => by cases h), (fun h => by cases h), (fun h => by cases h), (fun h => by cases h), (fun h => by cases h)⟩
theorem JM.q0 {m : MV} {a0 a : Act} {w0 w : World} {d : Mix.Done} (h : JM m a0 w0 d a w) (hz : 36 ≤ a0.tmps.size) : JM m a0 w0 (d.add 0) (a.put (some 24) (.pointer (some ⟨m.X, 0, none⟩))) w := by
  obtain ⟨cv, g9, g12, mm⟩ := h.mem
  exact ⟨(put_defers _ _ _).trans h.df, (put_size _ _ _).trans h.sz, fun j hj => (put_ne (by omega)).trans (h.oth j hj), fun _ => put_eq (by rw [h.sz]; omega), fun hd => (put_ne (by decide)).trans (h.e1 (by simpa [Mix.Done.add] using hd)), fun hd => (put_ne (by decide)).trans (h.e2 (by simpa [Mix.Done.add] using hd)), fun hd => (put_ne (by decide)).trans (h.e3 (by simpa [Mix.Done.add] using hd)), fun hd => (put_ne (by decide)).trans (h.e5 (by simpa [Mix.Done.add] using hd)), fun hd => (put_ne (by decide)).trans (h.e6 (by simpa [Mix.Done.add] using hd)), fun hd => (put_ne (by decide)).trans (h.e8 (by simpa [Mix.Done.add] using hd)), h.ext, cv, g9, g12, by simpa [MV.len, MV.row, Mix.Done.add] using mm.own, fun hd => mm.c0 (by simpa [Mix.Done.add] using hd), fun h1 h2 => (put_ne (by decide)).trans (mm.t4 (by simpa [Mix.Done.add] using h1) (by simpa [Mix.Done.add] using h2)), fun h1 h2 => (put_ne (by decide)).trans (mm.t7 (by simpa [Mix.Done.add] using h1) (by simpa [Mix.Done.add] using h2)), fun h1 => (put_ne (by decide)).trans (mm.t10 (by simpa [Mix.Done.add] using h1)),
    fun h1 h2 => ⟨(put_ne (by decide)).trans (mm.b9 (by simpa [Mix.Done.add] using h1) (by simpa [Mix.Done.add] using h2)).1, (mm.b9 (by simpa [Mix.Done.add] using h1) (by simpa [Mix.Done.add] using h2)).2⟩, fun h1 => ⟨(put_ne (by decide)).trans (mm.b12 (by simpa [Mix.Done.add] using h1)).1, by simpa [Mix.Done.add] using (mm.b12 (by simpa [Mix.Done.add] using h1)).2⟩, fun h1 => (put_ne (by decide)).trans (mm.t11 (by simpa [Mix.Done.add] using h1))⟩
theorem JM.q1 {m : MV} {a0 a : Act} {w0 w : World} {d : Mix.Done} (h : JM m a0 w0 d a w) (hz : 36 ≤ a0.tmps.size) : JM m a0 w0 (d.add 1) (a.put (some 25) (.agg #[.int .i64 m.k1, .string m.σ1, .slice m.sl1 m.n1 m.c1])) w := by
  obtain ⟨cv, g9, g12, mm⟩ := h.mem
  exact ⟨(put_defers _ _ _).trans h.df, (put_size _ _ _).trans h.sz, fun j hj => (put_ne (by omega)).trans (h.oth j hj), fun hd => (put_ne (by decide)).trans (h.e0 (by simpa [Mix.Done.add] using hd)), fun _ => put_eq (by rw [h.sz]; omega), fun hd => (put_ne (by decide)).trans (h.e2 (by simpa [Mix.Done.add] using hd)), fun hd => (put_ne (by decide)).trans (h.e3 (by simpa [Mix.Done.add] using hd)), fun hd => (put_ne (by decide)).trans (h.e5 (by simpa [Mix.Done.add] using hd)), fun hd => (put_ne (by decide)).trans (h.e6 (by simpa [Mix.Done.add] using hd)), fun hd => (put_ne (by decide)).trans (h.e8 (by simpa [Mix.Done.add] using hd)), h.ext, cv, g9, g12, by simpa [MV.len, MV.row, Mix.Done.add] using mm.own, fun hd => mm.c0 (by simpa [Mix.Done.add] using hd), fun h1 h2 => (put_ne (by decide)).trans (mm.t4 (by simpa [Mix.Done.add] using h1) (by simpa [Mix.Done.add] using h2)), fun h1 h2 => (put_ne (by decide)).trans (mm.t7 (by simpa [Mix.Done.add] using h1) (by simpa [Mix.Done.add] using h2)), fun h1 => (put_ne (by decide)).trans (mm.t10 (by simpa [Mix.Done.add] using h1)),
    fun h1 h2 => ⟨(put_ne (by decide)).trans (mm.b9 (by simpa [Mix.Done.add] using h1) (by simpa [Mix.Done.add] using h2)).1, (mm.b9 (by simpa [Mix.Done.add] using h1) (by simpa [Mix.Done.add] using h2)).2⟩, fun h1 => ⟨(put_ne (by decide)).trans (mm.b12 (by simpa [Mix.Done.add] using h1)).1, by simpa [Mix.Done.add] using (mm.b12 (by simpa [Mix.Done.add] using h1)).2⟩, fun h1 => (put_ne (by decide)).trans (mm.t11 (by simpa [Mix.Done.add] using h1))⟩
theorem JM.q2 {m : MV} {a0 a : Act} {w0 w : World} {d : Mix.Done} (h : JM m a0 w0 d a w) (hz : 36 ≤ a0.tmps.size) : JM m a0 w0 (d.add 2) (a.put (some 26) (.pointer (some ⟨m.X, 3, none⟩))) w := by
  obtain ⟨cv, g9, g12, mm⟩ := h.mem
  exact ⟨(put_defers _ _ _).trans h.df, (put_size _ _ _).trans h.sz, fun j hj => (put_ne (by omega)).trans (h.oth j hj), fun hd => (put_ne (by decide)).trans (h.e0 (by simpa [Mix.Done.add] using hd)), fun hd => (put_ne (by decide)).trans (h.e1 (by simpa [Mix.Done.add] using hd)), fun _ => put_eq (by rw [h.sz]; omega), fun hd => (put_ne (by decide)).trans (h.e3 (by simpa [Mix.Done.add] using hd)), fun hd => (put_ne (by decide)).trans (h.e5 (by simpa [Mix.Done.add] using hd)), fun hd => (put_ne (by decide)).trans (h.e6 (by simpa [Mix.Done.add] using hd)), fun hd => (put_ne (by decide)).trans (h.e8 (by simpa [Mix.Done.add] using hd)), h.ext, cv, g9, g12, by simpa [MV.len, MV.row, Mix.Done.add] using mm.own, fun hd => mm.c0 (by simpa [Mix.Done.add] using hd), fun h1 h2 => (put_ne (by decide)).trans (mm.t4 (by simpa [Mix.Done.add] using h1) (by simpa [Mix.Done.add] using h2)), fun h1 h2 => (put_ne (by decide)).trans (mm.t7 (by simpa [Mix.Done.add] using h1) (by simpa [Mix.Done.add] using h2)), fun h1 => (put_ne (by decide)).trans (mm.t10 (by simpa [Mix.Done.add] using h1)),
    fun h1 h2 => ⟨(put_ne (by decide)).trans (mm.b9 (by simpa [Mix.Done.add] using h1) (by simpa [Mix.Done.add] using h2)).1, (mm.b9 (by simpa [Mix.Done.add] using h1) (by simpa [Mix.Done.add] using h2)).2⟩, fun h1 => ⟨(put_ne (by decide)).trans (mm.b12 (by simpa [Mix.Done.add] using h1)).1, by simpa [Mix.Done.add] using (mm.b12 (by simpa [Mix.Done.add] using h1)).2⟩, fun h1 => (put_ne (by decide)).trans (mm.t11 (by simpa [Mix.Done.add] using h1))⟩
theorem JM.q3 {m : MV} {a0 a : Act} {w0 w : World} {d : Mix.Done} (h : JM m a0 w0 d a w) (hz : 36 ≤ a0.tmps.size) : JM m a0 w0 (d.add 3) (a.put (some 27) (.agg #[.int .i64 m.k2, .string m.σ2, .slice m.sl2 m.n2 m.c2])) w := by
  obtain ⟨cv, g9, g12, mm⟩ := h.mem
  exact ⟨(put_defers _ _ _).trans h.df, (put_size _ _ _).trans h.sz, fun j hj => (put_ne (by omega)).trans (h.oth j hj), fun hd => (put_ne (by decide)).trans (h.e0 (by simpa [Mix.Done.add] using hd)), fun hd => (put_ne (by decide)).trans (h.e1 (by simpa [Mix.Done.add] using hd)), fun hd => (put_ne (by decide)).trans (h.e2 (by simpa [Mix.Done.add] using hd)), fun _ => put_eq (by rw [h.sz]; omega), fun hd => (put_ne (by decide)).trans (h.e5 (by simpa [Mix.Done.add] using hd)), fun hd => (put_ne (by decide)).trans (h.e6 (by simpa [Mix.Done.add] using hd)), fun hd => (put_ne (by decide)).trans (h.e8 (by simpa [Mix.Done.add] using hd)), h.ext, cv, g9, g12, by simpa [MV.len, MV.row, Mix.Done.add] using mm.own, fun hd => mm.c0 (by simpa [Mix.Done.add] using hd), fun h1 h2 => (put_ne (by decide)).trans (mm.t4 (by simpa [Mix.Done.add] using h1) (by simpa [Mix.Done.add] using h2)), fun h1 h2 => (put_ne (by decide)).trans (mm.t7 (by simpa [Mix.Done.add] using h1) (by simpa [Mix.Done.add] using h2)), fun h1 => (put_ne (by decide)).trans (mm.t10 (by simpa [Mix.Done.add] using h1)),
    fun h1 h2 => ⟨(put_ne (by decide)).trans (mm.b9 (by simpa [Mix.Done.add] using h1) (by simpa [Mix.Done.add] using h2)).1, (mm.b9 (by simpa [Mix.Done.add] using h1) (by simpa [Mix.Done.add] using h2)).2⟩, fun h1 => ⟨(put_ne (by decide)).trans (mm.b12 (by simpa [Mix.Done.add] using h1)).1, by simpa [Mix.Done.add] using (mm.b12 (by simpa [Mix.Done.add] using h1)).2⟩, fun h1 => (put_ne (by decide)).trans (mm.t11 (by simpa [Mix.Done.add] using h1))⟩
theorem JM.q5 {m : MV} {a0 a : Act} {w0 w : World} {d : Mix.Done} (h : JM m a0 w0 d a w) (hz : 36 ≤ a0.tmps.size) : JM m a0 w0 (d.add 5) (a.put (some 29) (.pointer (some ⟨m.X, 6, none⟩))) w := by
  obtain ⟨cv, g9, g12, mm⟩ := h.mem
  exact ⟨(put_defers _ _ _).trans h.df, (put_size _ _ _).trans h.sz, fun j hj => (put_ne (by omega)).trans (h.oth j hj), fun hd => (put_ne (by decide)).trans (h.e0 (by simpa [Mix.Done.add] using hd)), fun hd => (put_ne (by decide)).trans (h.e1 (by simpa [Mix.Done.add] using hd)), fun hd => (put_ne (by decide)).trans (h.e2 (by simpa [Mix.Done.add] using hd)), fun hd => (put_ne (by decide)).trans (h.e3 (by simpa [Mix.Done.add] using hd)), fun _ => put_eq (by rw [h.sz]; omega), fun hd => (put_ne (by decide)).trans (h.e6 (by simpa [Mix.Done.add] using hd)), fun hd => (put_ne (by decide)).trans (h.e8 (by simpa [Mix.Done.add] using hd)), h.ext, cv, g9, g12, by simpa [MV.len, MV.row, Mix.Done.add] using mm.own, fun hd => mm.c0 (by simpa [Mix.Done.add] using hd), fun h1 h2 => (put_ne (by decide)).trans (mm.t4 (by simpa [Mix.Done.add] using h1) (by simpa [Mix.Done.add] using h2)), fun h1 h2 => (put_ne (by decide)).trans (mm.t7 (by simpa [Mix.Done.add] using h1) (by simpa [Mix.Done.add] using h2)), fun h1 => (put_ne (by decide)).trans (mm.t10 (by simpa [Mix.Done.add] using h1)),
    fun h1 h2 => ⟨(put_ne (by decide)).trans (mm.b9 (by simpa [Mix.Done.add] using h1) (by simpa [Mix.Done.add] using h2)).1, (mm.b9 (by simpa [Mix.Done.add] using h1) (by simpa [Mix.Done.add] using h2)).2⟩, fun h1 => ⟨(put_ne (by decide)).trans (mm.b12 (by simpa [Mix.Done.add] using h1)).1, by simpa [Mix.Done.add] using (mm.b12 (by simpa [Mix.Done.add] using h1)).2⟩, fun h1 => (put_ne (by decide)).trans (mm.t11 (by simpa [Mix.Done.add] using h1))⟩
theorem JM.q6 {m : MV} {a0 a : Act} {w0 w : World} {d : Mix.Done} (h : JM m a0 w0 d a w) (hz : 36 ≤ a0.tmps.size) : JM m a0 w0 (d.add 6) (a.put (some 30) (.slice m.sl m.n m.c)) w := by
  obtain ⟨cv, g9, g12, mm⟩ := h.mem
  exact ⟨(put_defers _ _ _).trans h.df, (put_size _ _ _).trans h.sz, fun j hj => (put_ne (by omega)).trans (h.oth j hj), fun hd => (put_ne (by decide)).trans (h.e0 (by simpa [Mix.Done.add] using hd)), fun hd => (put_ne (by decide)).trans (h.e1 (by simpa [Mix.Done.add] using hd)), fun hd => (put_ne (by decide)).trans (h.e2 (by simpa [Mix.Done.add] using hd)), fun hd => (put_ne (by decide)).trans (h.e3 (by simpa [Mix.Done.add] using hd)), fun hd => (put_ne (by decide)).trans (h.e5 (by simpa [Mix.Done.add] using hd)), fun _ => put_eq (by rw [h.sz]; omega), fun hd => (put_ne (by decide)).trans (h.e8 (by simpa [Mix.Done.add] using hd)), h.ext, cv, g9, g12, by simpa [MV.len, MV.row, Mix.Done.add] using mm.own, fun hd => mm.c0 (by simpa [Mix.Done.add] using hd), fun h1 h2 => (put_ne (by decide)).trans (mm.t4 (by simpa [Mix.Done.add] using h1) (by simpa [Mix.Done.add] using h2)), fun h1 h2 => (put_ne (by decide)).trans (mm.t7 (by simpa [Mix.Done.add] using h1) (by simpa [Mix.Done.add] using h2)), fun h1 => (put_ne (by decide)).trans (mm.t10 (by simpa [Mix.Done.add] using h1)),
    fun h1 h2 => ⟨(put_ne (by decide)).trans (mm.b9 (by simpa [Mix.Done.add] using h1) (by simpa [Mix.Done.add] using h2)).1, (mm.b9 (by simpa [Mix.Done.add] using h1) (by simpa [Mix.Done.add] using h2)).2⟩, fun h1 => ⟨(put_ne (by decide)).trans (mm.b12 (by simpa [Mix.Done.add] using h1)).1, by simpa [Mix.Done.add] using (mm.b12 (by simpa [Mix.Done.add] using h1)).2⟩, fun h1 => (put_ne (by decide)).trans (mm.t11 (by simpa [Mix.Done.add] using h1))⟩
theorem JM.q8 {m : MV} {a0 a : Act} {w0 w : World} {d : Mix.Done} (h : JM m a0 w0 d a w) (hz : 36 ≤ a0.tmps.size) : JM m a0 w0 (d.add 8) (a.put (some 32) (.agg (cells7 m.fq).toArray)) w := by
  obtain ⟨cv, g9, g12, mm⟩ := h.mem
  exact ⟨(put_defers _ _ _).trans h.df, (put_size _ _ _).trans h.sz, fun j hj => (put_ne (by omega)).trans (h.oth j hj), fun hd => (put_ne (by decide)).trans (h.e0 (by simpa [Mix.Done.add] using hd)), fun hd => (put_ne (by decide)).trans (h.e1 (by simpa [Mix.Done.add] using hd)), fun hd => (put_ne (by decide)).trans (h.e2 (by simpa [Mix.Done.add] using hd)), fun hd => (put_ne (by decide)).trans (h.e3 (by simpa [Mix.Done.add] using hd)), fun hd => (put_ne (by decide)).trans (h.e5 (by simpa [Mix.Done.add] using hd)), fun hd => (put_ne (by decide)).trans (h.e6 (by simpa [Mix.Done.add] using hd)), fun _ => put_eq (by rw [h.sz]; omega), h.ext, cv, g9, g12, by simpa [MV.len, MV.row, Mix.Done.add] using mm.own, fun hd => mm.c0 (by simpa [Mix.Done.add] using hd), fun h1 h2 => (put_ne (by decide)).trans (mm.t4 (by simpa [Mix.Done.add] using h1) (by simpa [Mix.Done.add] using h2)), fun h1 h2 => (put_ne (by decide)).trans (mm.t7 (by simpa [Mix.Done.add] using h1) (by simpa [Mix.Done.add] using h2)), fun h1 => (put_ne (by decide)).trans (mm.t10 (by simpa [Mix.Done.add] using h1)),
    fun h1 h2 => ⟨(put_ne (by decide)).trans (mm.b9 (by simpa [Mix.Done.add] using h1) (by simpa [Mix.Done.add] using h2)).1, (mm.b9 (by simpa [Mix.Done.add] using h1) (by simpa [Mix.Done.add] using h2)).2⟩, fun h1 => ⟨(put_ne (by decide)).trans (mm.b12 (by simpa [Mix.Done.add] using h1)).1, by simpa [Mix.Done.add] using (mm.b12 (by simpa [Mix.Done.add] using h1)).2⟩, fun h1 => (put_ne (by decide)).trans (mm.t11 (by simpa [Mix.Done.add] using h1))⟩
theorem JM.s4 {m : MV} {a0 a : Act} {w0 w : World} {d : Mix.Done} (h : JM m a0 w0 d a w) (hz : 36 ≤ a0.tmps.size) (n7 : d 7 = false) (n10 : d 10 = false) (n11 : d 11 = false) (n13 : d 13 = false) :
    JM m a0 w0 (d.add 4) (a.put (some 28) (.slice (some ⟨w.heap.size, 0, none⟩) 0 0)) (w.alloc (.cells #[] 47)) := by
  obtain ⟨cv, g9, g12, mm⟩ := h.mem
  have hsz := h.ext.size
  have hnew := World.ownsRow_lit (base := w0.heap.size) (e := 47) (size := 7) w #[] 0 hsz (by unfold maxLen; omega) rfl
  have hob : (Value.slice (some ⟨w.heap.size, 0, none⟩) 0 0).ownBlock = some w.heap.size := rfl
  refine ⟨(put_defers _ _ _).trans h.df, (put_size _ _ _).trans h.sz, fun j hj => (put_ne (by omega)).trans (h.oth j hj), fun hd => (put_ne (by decide)).trans (h.e0 (by simpa [Mix.Done.add] using hd)), fun hd => (put_ne (by decide)).trans (h.e1 (by simpa [Mix.Done.add] using hd)), fun hd => (put_ne (by decide)).trans (h.e2 (by simpa [Mix.Done.add] using hd)), fun hd => (put_ne (by decide)).trans (h.e3 (by simpa [Mix.Done.add] using hd)), fun hd => (put_ne (by decide)).trans (h.e5 (by simpa [Mix.Done.add] using hd)), fun hd => (put_ne (by decide)).trans (h.e6 (by simpa [Mix.Done.add] using hd)), fun hd => (put_ne (by decide)).trans (h.e8 (by simpa [Mix.Done.add] using hd)), h.ext.alloc hsz _, .slice (some ⟨w.heap.size, 0, none⟩) 0 0, g9, g12, by simpa [MV.len, MV.row, Mix.Done.add, n7, n10] using hnew, (fun hd => by simp [Mix.Done.add] at hd), fun _ _ => put_eq (by rw [h.sz]; omega), (fun h1 => by simp [Mix.Done.add, n7] at h1), (fun h1 => by simp [Mix.Done.add, n10] at h1), fun h1 h2 => ?_, fun h1 => ?_, (fun h1 => by simp [Mix.Done.add, n11] at h1)⟩
  · obtain ⟨x1, x2, x3⟩ := mm.b9 (by simpa [Mix.Done.add] using h1) (by simpa [Mix.Done.add] using h2)
    have hlt : g9 < w.heap.size := (Array.getElem?_eq_some_iff.1 x2).1
    exact ⟨(put_ne (by decide)).trans x1, (heap_alloc_old w _ hlt).trans x2, by rw [hob]; intro e; cases e; omega⟩
  · obtain ⟨x1, x2, hlt, x3, x4⟩ := mm.b12 (by simpa [Mix.Done.add] using h1)
    have e13 : d.add 4 13 = false := by simpa [Mix.Done.add] using n13
    rw [n13] at x3
    rw [e13]
    exact ⟨(put_ne (by decide)).trans x1, x2, by simp; omega, x3.block (heap_alloc_old w _ hlt), by rw [hob]; intro e; cases e; omega⟩
theorem JM.s9 {m : MV} {a0 a : Act} {w0 w : World} {d : Mix.Done} (h : JM m a0 w0 d a w) (hz : 36 ≤ a0.tmps.size) :
    JM m a0 w0 (d.add 9) (a.put (some 33) (.slice (some ⟨w.heap.size, 0, none⟩) 1 1)) (w.alloc (.cells (cells7 m.fq).toArray 47)) := by
  obtain ⟨cv, g9, g12, mm⟩ := h.mem
  have hsz := h.ext.size
  refine ⟨(put_defers _ _ _).trans h.df, (put_size _ _ _).trans h.sz, fun j hj => (put_ne (by omega)).trans (h.oth j hj), fun hd => (put_ne (by decide)).trans (h.e0 (by simpa [Mix.Done.add] using hd)), fun hd => (put_ne (by decide)).trans (h.e1 (by simpa [Mix.Done.add] using hd)), fun hd => (put_ne (by decide)).trans (h.e2 (by simpa [Mix.Done.add] using hd)), fun hd => (put_ne (by decide)).trans (h.e3 (by simpa [Mix.Done.add] using hd)), fun hd => (put_ne (by decide)).trans (h.e5 (by simpa [Mix.Done.add] using hd)), fun hd => (put_ne (by decide)).trans (h.e6 (by simpa [Mix.Done.add] using hd)), fun hd => (put_ne (by decide)).trans (h.e8 (by simpa [Mix.Done.add] using hd)), h.ext.alloc hsz _, cv, w.heap.size, g12, by simpa [MV.len, MV.row, Mix.Done.add] using mm.own.alloc _, fun hd => mm.c0 (by simpa [Mix.Done.add] using hd), fun h1 h2 => (put_ne (by decide)).trans (mm.t4 (by simpa [Mix.Done.add] using h1) (by simpa [Mix.Done.add] using h2)), fun h1 h2 => (put_ne (by decide)).trans (mm.t7 (by simpa [Mix.Done.add] using h1) (by simpa [Mix.Done.add] using h2)), fun h1 => (put_ne (by decide)).trans (mm.t10 (by simpa [Mix.Done.add] using h1)), fun h1 h2 => ?_, fun h1 => ?_, fun h1 => (put_ne (by decide)).trans (mm.t11 (by simpa [Mix.Done.add] using h1))⟩
  · exact ⟨put_eq (by rw [h.sz]; omega), heap_alloc_new w _, fun e => by have := (mm.own.lt _ e).2; omega⟩
  · obtain ⟨x1, x2, hlt, x3, x4⟩ := mm.b12 (by simpa [Mix.Done.add] using h1)
    exact ⟨(put_ne (by decide)).trans x1, x2, by simp; omega, by simpa [Mix.Done.add] using x3.block (heap_alloc_old w _ hlt), x4⟩
theorem JM.s12 {m : MV} {a0 a : Act} {w0 w : World} {d : Mix.Done} (h : JM m a0 w0 d a w) (hz : 36 ≤ a0.tmps.size) (n13 : d 13 = false) :
    JM m a0 w0 (d.add 12) (a.put (some 5) (.pointer (some ⟨w.heap.size, 0, none⟩))) (w.alloc (.cells zeroS 29)) := by
  obtain ⟨cv, g9, g12, mm⟩ := h.mem
  have hsz := h.ext.size
  refine ⟨(put_defers _ _ _).trans h.df, (put_size _ _ _).trans h.sz, fun j hj => (put_ne (by omega)).trans (h.oth j hj), fun hd => (put_ne (by decide)).trans (h.e0 (by simpa [Mix.Done.add] using hd)), fun hd => (put_ne (by decide)).trans (h.e1 (by simpa [Mix.Done.add] using hd)), fun hd => (put_ne (by decide)).trans (h.e2 (by simpa [Mix.Done.add] using hd)), fun hd => (put_ne (by decide)).trans (h.e3 (by simpa [Mix.Done.add] using hd)), fun hd => (put_ne (by decide)).trans (h.e5 (by simpa [Mix.Done.add] using hd)), fun hd => (put_ne (by decide)).trans (h.e6 (by simpa [Mix.Done.add] using hd)), fun hd => (put_ne (by decide)).trans (h.e8 (by simpa [Mix.Done.add] using hd)), h.ext.alloc hsz _, cv, g9, w.heap.size, by simpa [MV.len, MV.row, Mix.Done.add] using mm.own.alloc _, fun hd => mm.c0 (by simpa [Mix.Done.add] using hd), fun h1 h2 => (put_ne (by decide)).trans (mm.t4 (by simpa [Mix.Done.add] using h1) (by simpa [Mix.Done.add] using h2)), fun h1 h2 => (put_ne (by decide)).trans (mm.t7 (by simpa [Mix.Done.add] using h1) (by simpa [Mix.Done.add] using h2)), fun h1 => (put_ne (by decide)).trans (mm.t10 (by simpa [Mix.Done.add] using h1)), fun h1 h2 => ?_, fun h1 => ?_, fun h1 => (put_ne (by decide)).trans (mm.t11 (by simpa [Mix.Done.add] using h1))⟩
  · obtain ⟨x1, x2, x3⟩ := mm.b9 (by simpa [Mix.Done.add] using h1) (by simpa [Mix.Done.add] using h2)
    have hlt : g9 < w.heap.size := (Array.getElem?_eq_some_iff.1 x2).1
    exact ⟨(put_ne (by decide)).trans x1, (heap_alloc_old w _ hlt).trans x2, x3⟩
  · exact ⟨put_eq (by rw [h.sz]; omega), hsz, by simp, by simpa [Mix.Done.add, n13] using CC.made w zeroS 29, fun e => by have := (mm.own.lt _ e).2; omega⟩
/-- an append to the row -/
theorem JM.app {m : MV} {a0 a : Act} {w0 w w' : World} {d : Mix.Done} (h : JM m a0 w0 d a w) (hz : 36 ≤ a0.tmps.size) {i k : Nat} (hik : (i = 7 ∧ k = 31 ∧ d 10 = false) ∨ (i = 10 ∧ k = 34 ∧ d 7 = true)) (n11 : d 11 = false) (n13 : d 13 = false) {cv v' : Value} {g9 g12 : Nat} (mm : MM m w0 d a w cv g9 g12) (n4 : d 4 = true)
    (hown : w'.ownsRow w0.heap.size 47 7 v' (m.len (d.add i)) (m.row (d.add i))) (hg : w.grownBy w' cv.ownBlock) (hat : v' = cv ∨ (v'.ownBlock = cv.ownBlock ∨ ∀ g, v'.ownBlock = some g → w.heap.size ≤ g)) : JM m a0 w0 (d.add i) (a.put (some k) v') w' := by
  have hsz := h.ext.size
  have hext : Below w0.heap.size w0 w' := h.ext.grown hg hsz (fun g e => (mm.own.lt g e).1)
  have hob : ∀ g, g < w.heap.size → cv.ownBlock ≠ some g → v'.ownBlock ≠ some g := fun g hlt hne e => by
    rcases hat with rfl | hat | hat
    · exact hne e
    · exact hne (hat ▸ e)
    · have := hat g e; omega
  have hi : i = 7 ∨ i = 10 := by rcases hik with ⟨h, -, -⟩ | ⟨h, -, -⟩ <;> omega
  have hk : k = 31 ∨ k = 34 := by rcases hik with ⟨-, h, -⟩ | ⟨-, h, -⟩ <;> omega
  have hd : ∀ j, j ≠ 7 → j ≠ 10 → d.add i j = true → d j = true := fun j h1 h2 hd => by
    rcases Mix.Done.add_inv hd with e | e
    · omega
    · exact e
  refine ⟨(put_defers _ _ _).trans h.df, (put_size _ _ _).trans h.sz, fun j hj => (put_ne (by omega)).trans (h.oth j hj), fun x => (put_ne (by omega)).trans (h.e0 (hd _ (by decide) (by decide) x)), fun x => (put_ne (by omega)).trans (h.e1 (hd _ (by decide) (by decide) x)), fun x => (put_ne (by omega)).trans (h.e2 (hd _ (by decide) (by decide) x)), fun x => (put_ne (by omega)).trans (h.e3 (hd _ (by decide) (by decide) x)), fun x => (put_ne (by omega)).trans (h.e5 (hd _ (by decide) (by decide) x)), fun x => (put_ne (by omega)).trans (h.e6 (hd _ (by decide) (by decide) x)), fun x => (put_ne (by omega)).trans (h.e8 (hd _ (by decide) (by decide) x)), hext, v', g9, g12, hown, (fun hd => by simp [Mix.Done.add, n4] at hd), fun h1 h2 => ?_, fun h1 h2 => ?_, fun h1 => ?_, fun h1 h2 => ?_, fun h1 => ?_, (fun h1 => by have := hd 11 (by decide) (by decide) h1; rw [n11] at this; cases this)⟩
  · rcases hik with ⟨rfl, rfl, -⟩ | ⟨rfl, rfl, n7⟩
    · simp [Mix.Done.add] at h2
    · have : d 7 = false := by simpa [Mix.Done.add] using h2
      rw [n7] at this
      cases this
  · rcases hik with ⟨rfl, rfl, -⟩ | ⟨rfl, rfl, n7⟩
    · exact put_eq (by rw [h.sz]; omega)
    · simp [Mix.Done.add] at h2
  · rcases hik with ⟨rfl, rfl, n10⟩ | ⟨rfl, rfl, n7⟩
    · simp [Mix.Done.add, n10] at h1
    · exact put_eq (by rw [h.sz]; omega)
  · rcases hik with ⟨rfl, rfl, n10⟩ | ⟨rfl, rfl, n7⟩
    · obtain ⟨x1, x2, x3⟩ := mm.b9 (by simpa [Mix.Done.add] using h1) n10
      have hlt : g9 < w.heap.size := (Array.getElem?_eq_some_iff.1 x2).1
      exact ⟨(put_ne (by decide)).trans x1, (hg.block g9 hlt (fun e => x3 e.symm)).trans x2, hob g9 hlt x3⟩
    · simp [Mix.Done.add] at h2
  · obtain ⟨x1, x2, hlt, x3, x4⟩ := mm.b12 (hd 12 (by decide) (by decide) h1)
    have e13 : d.add i 13 = false := by unfold Mix.Done.add; rw [n13]; rcases hi with rfl | rfl <;> rfl
    rw [n13] at x3
    refine ⟨(put_ne (by omega)).trans x1, x2, Nat.lt_of_lt_of_le hlt hg.size, ?_, hob g12 hlt x4⟩
    rw [e13]
    exact x3.block (hg.block g12 hlt (fun e => x4 e.symm))
theorem JM.s11 {m : MV} {a0 a : Act} {w0 w : World} {d : Mix.Done} (h : JM m a0 w0 d a w) (hz : 36 ≤ a0.tmps.size) {cv : Value} {g9 g12 : Nat} (mm : MM m w0 d a w cv g9 g12) :
    JM m a0 w0 (d.add 11) (a.put (some 35) (.agg (m.fin cv))) w := by
  refine ⟨(put_defers _ _ _).trans h.df, (put_size _ _ _).trans h.sz, fun j hj => (put_ne (by omega)).trans (h.oth j hj), fun hd => (put_ne (by decide)).trans (h.e0 (by simpa [Mix.Done.add] using hd)), fun hd => (put_ne (by decide)).trans (h.e1 (by simpa [Mix.Done.add] using hd)), fun hd => (put_ne (by decide)).trans (h.e2 (by simpa [Mix.Done.add] using hd)), fun hd => (put_ne (by decide)).trans (h.e3 (by simpa [Mix.Done.add] using hd)), fun hd => (put_ne (by decide)).trans (h.e5 (by simpa [Mix.Done.add] using hd)), fun hd => (put_ne (by decide)).trans (h.e6 (by simpa [Mix.Done.add] using hd)), fun hd => (put_ne (by decide)).trans (h.e8 (by simpa [Mix.Done.add] using hd)), h.ext, cv, g9, g12, by simpa [MV.len, MV.row, Mix.Done.add] using mm.own, fun hd => mm.c0 (by simpa [Mix.Done.add] using hd), fun h1 h2 => (put_ne (by decide)).trans (mm.t4 (by simpa [Mix.Done.add] using h1) (by simpa [Mix.Done.add] using h2)), fun h1 h2 => (put_ne (by decide)).trans (mm.t7 (by simpa [Mix.Done.add] using h1) (by simpa [Mix.Done.add] using h2)), fun h1 => (put_ne (by decide)).trans (mm.t10 (by simpa [Mix.Done.add] using h1)),
    fun h1 h2 => ⟨(put_ne (by decide)).trans (mm.b9 (by simpa [Mix.Done.add] using h1) (by simpa [Mix.Done.add] using h2)).1, (mm.b9 (by simpa [Mix.Done.add] using h1) (by simpa [Mix.Done.add] using h2)).2⟩, fun h1 => ⟨(put_ne (by decide)).trans (mm.b12 (by simpa [Mix.Done.add] using h1)).1, by simpa [Mix.Done.add] using (mm.b12 (by simpa [Mix.Done.add] using h1)).2⟩, fun _ => put_eq (by rw [h.sz]; omega)⟩
theorem JM.s13 {m : MV} {a0 a : Act} {w0 w : World} {d : Mix.Done} (h : JM m a0 w0 d a w) (n13 : d 13 = false) (n12 : d 12 = true) (n10 : d 10 = true) {sl : Option Addr} {n c : Nat} {g9 g12 : Nat} (mm : MM m w0 d a w (.slice sl n c) g9 g12) :
    JM m a0 w0 (d.add 13) a (((((((w.setCell ⟨g12, 0, none⟩ (.int .i64 m.k1)).setCell ⟨g12, 1, none⟩ (.string m.σ1)).setCell ⟨g12, 2, none⟩ (.slice m.sl1 m.n1 m.c1)).setCell ⟨g12, 3, none⟩ (.int .i64 m.k2)).setCell ⟨g12, 4, none⟩ (.string m.σ2)).setCell ⟨g12, 5, none⟩ (.slice m.sl2 m.n2 m.c2)).setCell ⟨g12, 6, none⟩ (.slice sl n c)) := by
  obtain ⟨x1, x2, hlt, x3, x4⟩ := mm.b12 n12
  rw [n13] at x3
  have hd : ∀ j, j ≠ 13 → d.add 13 j = true → d j = true := fun j hj hd => by
    rcases Mix.Done.add_inv hd with e | e
    · omega
    · exact e
  have hob : ∀ b, b ≠ g12 → (((((((w.setCell ⟨g12, 0, none⟩ (.int .i64 m.k1)).setCell ⟨g12, 1, none⟩ (.string m.σ1)).setCell ⟨g12, 2, none⟩ (.slice m.sl1 m.n1 m.c1)).setCell ⟨g12, 3, none⟩ (.int .i64 m.k2)).setCell ⟨g12, 4, none⟩ (.string m.σ2)).setCell ⟨g12, 5, none⟩ (.slice m.sl2 m.n2 m.c2)).setCell ⟨g12, 6, none⟩ (.slice sl n c)).heap[b]? = w.heap[b]? := fun b hb => by
    rw [Below.heap_setCell _ _ _ _ hb, Below.heap_setCell _ _ _ _ hb, Below.heap_setCell _ _ _ _ hb, Below.heap_setCell _ _ _ _ hb, Below.heap_setCell _ _ _ _ hb, Below.heap_setCell _ _ _ _ hb, Below.heap_setCell _ _ _ _ hb]
  have hall := set7 (v0 := .int .i64 m.k1) (v1 := .string m.σ1) (v2 := .slice m.sl1 m.n1 m.c1) (v3 := .int .i64 m.k2) (v4 := .string m.σ2) (v5 := .slice m.sl2 m.n2 m.c2) (v6 := .slice sl n c) (x3.at_ 0 _ rfl) (x3.at_ 1 _ rfl) (x3.at_ 2 _ rfl) (x3.at_ 3 _ rfl) (x3.at_ 4 _ rfl) (x3.at_ 5 _ rfl) (x3.at_ 6 _ rfl)
  have hext : Below w0.heap.size w0 (((((((w.setCell ⟨g12, 0, none⟩ (.int .i64 m.k1)).setCell ⟨g12, 1, none⟩ (.string m.σ1)).setCell ⟨g12, 2, none⟩ (.slice m.sl1 m.n1 m.c1)).setCell ⟨g12, 3, none⟩ (.int .i64 m.k2)).setCell ⟨g12, 4, none⟩ (.string m.σ2)).setCell ⟨g12, 5, none⟩ (.slice m.sl2 m.n2 m.c2)).setCell ⟨g12, 6, none⟩ (.slice sl n c)) :=
    ((((((h.ext.setCell (p := ⟨g12, 0, none⟩) x2 _).setCell (p := ⟨g12, 1, none⟩) x2 _).setCell (p := ⟨g12, 2, none⟩) x2 _).setCell (p := ⟨g12, 3, none⟩) x2 _).setCell (p := ⟨g12, 4, none⟩) x2 _).setCell (p := ⟨g12, 5, none⟩) x2 _).setCell (p := ⟨g12, 6, none⟩) x2 _
  have hsz : (((((((w.setCell ⟨g12, 0, none⟩ (.int .i64 m.k1)).setCell ⟨g12, 1, none⟩ (.string m.σ1)).setCell ⟨g12, 2, none⟩ (.slice m.sl1 m.n1 m.c1)).setCell ⟨g12, 3, none⟩ (.int .i64 m.k2)).setCell ⟨g12, 4, none⟩ (.string m.σ2)).setCell ⟨g12, 5, none⟩ (.slice m.sl2 m.n2 m.c2)).setCell ⟨g12, 6, none⟩ (.slice sl n c)).heap.size = w.heap.size := by simp [World.setCell]
  have hfz : ∀ j, (((((((w.setCell ⟨g12, 0, none⟩ (.int .i64 m.k1)).setCell ⟨g12, 1, none⟩ (.string m.σ1)).setCell ⟨g12, 2, none⟩ (.slice m.sl1 m.n1 m.c1)).setCell ⟨g12, 3, none⟩ (.int .i64 m.k2)).setCell ⟨g12, 4, none⟩ (.string m.σ2)).setCell ⟨g12, 5, none⟩ (.slice m.sl2 m.n2 m.c2)).setCell ⟨g12, 6, none⟩ (.slice sl n c)).frozen? ⟨g12, j, none⟩ = false := fun j => by
    rw [World.frozen?_setCell, World.frozen?_setCell, World.frozen?_setCell, World.frozen?_setCell, World.frozen?_setCell, World.frozen?_setCell, World.frozen?_setCell]
    exact x3.fz j
  generalize (((((((w.setCell ⟨g12, 0, none⟩ (.int .i64 m.k1)).setCell ⟨g12, 1, none⟩ (.string m.σ1)).setCell ⟨g12, 2, none⟩ (.slice m.sl1 m.n1 m.c1)).setCell ⟨g12, 3, none⟩ (.int .i64 m.k2)).setCell ⟨g12, 4, none⟩ (.string m.σ2)).setCell ⟨g12, 5, none⟩ (.slice m.sl2 m.n2 m.c2)).setCell ⟨g12, 6, none⟩ (.slice sl n c)) = w' at *
  have e10 : d.add 13 10 = true := by simpa [Mix.Done.add] using n10
  refine ⟨h.df, h.sz, h.oth, fun x => h.e0 (hd _ (by decide) x), fun x => h.e1 (hd _ (by decide) x), fun x => h.e2 (hd _ (by decide) x), fun x => h.e3 (hd _ (by decide) x), fun x => h.e5 (hd _ (by decide) x), fun x => h.e6 (hd _ (by decide) x), fun x => h.e8 (hd _ (by decide) x), hext, .slice sl n c, g9, g12,
    own_block (by simpa [MV.len, MV.row, Mix.Done.add] using mm.own) (fun k hk => hob k (fun e => x4 (by rw [← e]; exact hk))), fun hd => mm.c0 (by simpa [Mix.Done.add] using hd), fun h1 h2 => mm.t4 (hd _ (by decide) h1) (by simpa [Mix.Done.add] using h2), (fun _ h2 => by rw [e10] at h2; cases h2), fun h1 => mm.t10 n10, (fun _ h2 => by rw [e10] at h2; cases h2),
    fun _ => ⟨x1, x2, by rw [hsz]; exact hlt, ?_, x4⟩, fun x => mm.t11 (hd _ (by decide) x)⟩
  rw [Mix.Done.add_same]
  exact ⟨hall, hfz⟩
/-- all is done -/
theorem JM.done {m : MV} {a0 a : Act} {w0 w : World} {d : Mix.Done} (h : JM m a0 w0 d a w) (hd : ∀ i, i < 14 → d i = true) : ∃ (u28 u31 u33 : Value) (sl : Option Addr) (c g12 : Nat),
    a = ((((((((((((a0.put (some 24) (.pointer (some ⟨m.X, 0, none⟩))).put (some 25) (.agg #[.int .i64 m.k1, .string m.σ1, .slice m.sl1 m.n1 m.c1])).put (some 26) (.pointer (some ⟨m.X, 3, none⟩))).put (some 27) (.agg #[.int .i64 m.k2, .string m.σ2, .slice m.sl2 m.n2 m.c2])).put (some 28) u28).put (some 29) (.pointer (some ⟨m.X, 6, none⟩))).put (some 30) (.slice m.sl m.n m.c)).put (some 31) u31).put (some 32) (.agg (cells7 m.fq).toArray)).put (some 33) u33).put (some 34) (.slice sl (m.n + 1) c)).put (some 35) (.agg (m.fin (.slice sl (m.n + 1) c)))).put (some 5) (.pointer (some ⟨g12, 0, none⟩)) ∧
    w0.heap.size ≤ g12 ∧ g12 < w.heap.size ∧ CC w g12 (m.fin (.slice sl (m.n + 1) c)) ∧ w.ownsRow w0.heap.size 47 7 (.slice sl (m.n + 1) c) (m.n + 1) (row7 (m.qs ++ [m.fq])) ∧ Below w0.heap.size w0 w := by
  obtain ⟨cv, g9, g12, mm⟩ := h.mem
  have hown := mm.own
  simp only [MV.len, MV.row, hd 10 (by decide), if_true] at hown
  obtain ⟨sl, c, rfl⟩ := own_form hown
  obtain ⟨x1, x2, x3, x4, x5⟩ := mm.b12 (hd 12 (by decide))
  rw [hd 13 (by decide)] at x4
  refine ⟨a.tmps.getD 28 undef, a.tmps.getD 31 undef, a.tmps.getD 33 undef, sl, c, g12, ?_, x2, x3, x4, hown, h.ext⟩
  have y34 := mm.t10 (hd 10 (by decide))
  have y35 := mm.t11 (hd 11 (by decide))
  have z0 := h.e0 (hd 0 (by decide))
  have z1 := h.e1 (hd 1 (by decide))
  have z2 := h.e2 (hd 2 (by decide))
  have z3 := h.e3 (hd 3 (by decide))
  have z5 := h.e5 (hd 5 (by decide))
  have z6 := h.e6 (hd 6 (by decide))
  have z8 := h.e8 (hd 8 (by decide))
  have hsz : 35 < a.tmps.size := (Array.getElem?_eq_some_iff.1 y35).1
  have ho := h.oth
  have hs0 := h.sz
  have hdf := h.df
  clear h mm hown hd x2 x3 x4 x5
  obtain ⟨ts, ds⟩ := a
  obtain ⟨t0, d0⟩ := a0
  simp only at *
  subst hdf
  simp only [Act.put, Act.mk.injEq, and_true]
  refine Array.ext_getElem? fun j => ?_
  simp only [Array.getElem?_setIfInBounds, Array.size_setIfInBounds]
  by_cases hj : j = 5 ∨ (24 ≤ j ∧ j ≤ 35)
  · obtain rfl | rfl | rfl | rfl | rfl | rfl | rfl | rfl | rfl | rfl | rfl | rfl | rfl : j = 5 ∨ j = 24 ∨ j = 25 ∨ j = 26 ∨ j = 27 ∨ j = 28 ∨ j = 29 ∨ j = 30 ∨ j = 31 ∨ j = 32 ∨ j = 33 ∨ j = 34 ∨ j = 35 := by omega
    · simp [show 5 < t0.size by omega, x1]
    · simp [show 24 < t0.size by omega, z0]
    · simp [show 25 < t0.size by omega, z1]
    · simp [show 26 < t0.size by omega, z2]
    · simp [show 27 < t0.size by omega, z3]
    · simp [show 28 < t0.size by omega, show 28 < ts.size by omega]
    · simp [show 29 < t0.size by omega, z5]
    · simp [show 30 < t0.size by omega, z6]
    · simp [show 31 < t0.size by omega, show 31 < ts.size by omega]
    · simp [show 32 < t0.size by omega, z8]
    · simp [show 33 < t0.size by omega, show 33 < ts.size by omega]
    · simp [show 34 < t0.size by omega, y34]
    · simp [show 35 < t0.size by omega, y35]
  · rw [if_neg (by omega), if_neg (by omega), if_neg (by omega), if_neg (by omega), if_neg (by omega), if_neg (by omega), if_neg (by omega), if_neg (by omega), if_neg (by omega), if_neg (by omega), if_neg (by omega), if_neg (by omega), if_neg (by omega)]
    exact ho j (by omega)
end Rc
end Go.Proofs.Ytcigggffaofkhaa
