/-
  The reader's term: its deferred call, its state, a drawn region that holds reads and a reading.
-/
import Derived.Test.YtcigggffaofkhaaRcF
import Derived.Test.YtcigggffaofkhaaMix
namespace Go.Proofs.Ytcigggffaofkhaa
open Go.RowKit
namespace Rc

theorem shut_any (p : Addr) (b : Nat) (d : Int) (u : FrameMode) (w : World) (hp : w.cell? p = some (.pointer (some ⟨b, 0, none⟩))) (h5 : w.cell? ⟨b, 5, none⟩ = some (.int .i64 d)) (hz : w.frozen? ⟨b, 5, none⟩ = false) :
    CallsD Try.prog 62 #[.pointer (some p)] u w fun e u' w' => u' = u ∧ (e = .returned (.tuple #[]) ∧ w' = w.setCell ⟨b, 5, none⟩ (.int .i64 (wrap64 (d - 1)))) := by
  go_enter_d Try.func62, Try.ntmps62
  go_wp2_with fail
  go_end0
  exact ⟨rfl, rfl⟩
/-- within a term's call: the box of the reader's address, the result's three cells -/
structure TX (W wr : World) (b : Nat) (s : ByteArray) (dp : Int) (t : Tk) : Prop where
  rk : RK wr b s t dp
  tv : TV s t
  fq : Fq W wr b
  bx : wr.heap[W.heap.size]? = some (.cells #[.pointer (some ⟨b, 0, none⟩)] 57 (0, 0))
  ox : wr.heap[W.heap.size + 1]? = some (.cells zeroX 26 (0, 0))
abbrev entry (W : World) (b : Nat) : World := (W.alloc (.cells #[.pointer (some ⟨b, 0, none⟩)] 57)).alloc (.cells zeroX 26)
section
variable {W wr w1 : World} {b : Nat} {s : ByteArray} {dp : Int} {t t1 : Tk}
theorem TX.start (h : RK W b s t dp) (hv : TV s t) : TX W (entry W b) b s dp t := by
  have hA : Below W.heap.size W (entry W b) := ((Below.refl _ _).alloc (Nat.le_refl _) _).alloc (by simp) _
  refine ⟨h.keep hA, hv, Fq.of_below hA (Nat.le_of_lt h.lt), ?_, ?_⟩
  · rw [heap_alloc_old _ _ (by simp)]
    exact heap_alloc_new W _
  · have := heap_alloc_new (W.alloc (.cells #[.pointer (some ⟨b, 0, none⟩)] 57)) (.cells zeroX 26)
    simpa using this
theorem TX.lt (h : TX W wr b s dp t) : W.heap.size + 1 < wr.heap.size := by
  rcases Nat.lt_or_ge (W.heap.size + 1) wr.heap.size with h' | h'
  · exact h'
  · have hb := h.ox
    rw [Array.getElem?_eq_none h'] at hb; cases hb
theorem TX.keep (h : TX W wr b s dp t) (hlt : b < W.heap.size) (hb : Below wr.heap.size wr w1) : TX W w1 b s dp t := by
  have := h.lt
  exact ⟨h.rk.keep hb, h.tv, h.fq.step hlt hb, (hb.block _ (by omega)).trans h.bx, (hb.block _ (by omega)).trans h.ox⟩
theorem TX.drewN (h : TX W wr b s dp t) (n : Nat) : TX W (wr.drewN n) b s dp t := ⟨h.rk.drewN n, h.tv, h.fq.drew n, h.bx, h.ox⟩
theorem TX.dep (h : TX W wr b s dp t) (hlt : b < W.heap.size) (d : Int) : TX W (wr.setCell ⟨b, 5, none⟩ (.int .i64 d)) b s d t :=
  ⟨h.rk.dep d, h.tv, h.fq.set 5 _, (Below.heap_setCell _ _ _ _ (by show W.heap.size ≠ b; omega)).trans h.bx, (Below.heap_setCell _ _ _ _ (by show W.heap.size + 1 ≠ b; omega)).trans h.ox⟩
theorem TX.read (h : TX W wr b s dp t) (hlt : b < W.heap.size) (hk : RK w1 b s t1 dp) (hv : TV s t1) (hf : Fq wr w1 b) : TX W w1 b s dp t1 := by
  have := h.lt
  exact ⟨hk, hv, h.fq.trans hf, (hf.block _ (by omega) (by omega)).trans h.bx, (hf.block _ (by omega) (by omega)).trans h.ox⟩
theorem TX.q0 (h : TX W wr b s dp t) : wr.cell? ⟨W.heap.size, 0, none⟩ = some (.pointer (some ⟨b, 0, none⟩)) := by simp [World.cell?, h.bx]
theorem TX.o0 (h : TX W wr b s dp t) : wr.cell? ⟨W.heap.size + 1, 0, none⟩ = some (.int .i64 0) := by simp [World.cell?, h.ox]
theorem TX.o1 (h : TX W wr b s dp t) : wr.cell? ⟨W.heap.size + 1, 1, none⟩ = some (.string ⟨#[]⟩) := by simp [World.cell?, h.ox]
theorem TX.o2 (h : TX W wr b s dp t) : wr.cell? ⟨W.heap.size + 1, 2, none⟩ = some (.slice none 0 0) := by simp [World.cell?, h.ox]
theorem TX.of (h : TX W wr b s dp t) (j : Nat) : wr.frozen? ⟨W.heap.size + 1, j, none⟩ = false := by simp [World.frozen?, h.ox]
end
/-- three cells that a call has made: an expression that is read -/
structure BX (W wr : World) (g : Nat) (x : E) (k : Int) (σ : ByteArray) (sl : Option Addr) (n cap : Nat) : Prop where
  lo : W.heap.size + 2 ≤ g
  c0 : wr.cell? ⟨g, 0, none⟩ = some (.int .i64 k)
  c1 : wr.cell? ⟨g, 1, none⟩ = some (.string σ)
  c2 : wr.cell? ⟨g, 2, none⟩ = some (.slice sl n cap)
  rep : RepX wr (fun j => W.heap.size + 2 ≤ j ∧ j < wr.heap.size) x (.agg #[.int .i64 k, .string σ, .slice sl n cap])
section
variable {W wr w1 : World} {b g : Nat} {x : E} {k : Int} {σ : ByteArray} {sl : Option Addr} {n cap : Nat}
theorem BX.lt (h : BX W wr g x k σ sl n cap) : g < wr.heap.size := World.block_lt_of_cell? wr _ h.c0
theorem BX.keep (h : BX W wr g x k σ sl n cap) (hlt : b < W.heap.size) (hf : Fq wr w1 b) : BX W w1 g x k σ sl n cap := by
  have hl := h.lt
  have hlo := h.lo
  have hg := hf.block g hl (by omega)
  have hs := hf.below.size
  exact ⟨h.lo, (World.cell?_of_block hg).trans h.c0, (World.cell?_of_block hg).trans h.c1, (World.cell?_of_block hg).trans h.c2, h.rep.move fun j hj => ⟨⟨hj.1, by omega⟩, hf.block j hj.2 (by omega)⟩⟩
/-- made: an allocation with a value -/
theorem BX.made (hlo : W.heap.size + 2 ≤ wr.heap.size) (hr : RepX wr (fun j => W.heap.size + 2 ≤ j ∧ j < wr.heap.size) x (.agg #[.int .i64 k, .string σ, .slice sl n cap])) :
    BX W (wr.alloc (.cells #[.int .i64 k, .string σ, .slice sl n cap] 26)) wr.heap.size x k σ sl n cap := by
  have hn := heap_alloc_new wr (.cells #[.int .i64 k, .string σ, .slice sl n cap] 26)
  refine ⟨hlo, by simp only [World.cell?, hn]; rfl, by simp only [World.cell?, hn]; rfl, by simp only [World.cell?, hn]; rfl, hr.move fun j hj => ⟨⟨hj.1, ?_⟩, heap_alloc_old wr _ hj.2⟩⟩
  simp; omega
theorem TX.made {s : ByteArray} {dp : Int} {t : Tk} (h : TX W wr b s dp t) (hlt : b < W.heap.size) (o : Obj) : TX W (wr.alloc o) b s dp t :=
  h.keep hlt ((Below.refl _ _).alloc (Nat.le_refl _) _)
theorem fq_alloc (wr : World) (b : Nat) (hb : b ≤ wr.heap.size) (o : Obj) : Fq wr (wr.alloc o) b := Fq.of_below ((Below.refl _ _).alloc (Nat.le_refl _) _) hb
end
/-- the result of a term, behind its deferred call -/
theorem TX.done {W wr : World} {b : Nat} {s : ByteArray} {dp : Int} {t : Tk} (h : TX W wr b s (dp + 1) t) (hlt : b < W.heap.size) {x : E} {k : Int} {σ : ByteArray} {sl : Option Addr} {n cap : Nat}
    (hr : RepX wr (fun j => W.heap.size + 2 ≤ j ∧ j < wr.heap.size) x (.agg #[.int .i64 k, .string σ, .slice sl n cap])) {R : Res E} (hR : R = .ok x t) {z : Int} (hz : z = dp) :
    PX W b s dp R (valE W) (.returned (.agg #[.int .i64 k, .string σ, .slice sl n cap])) ((put3 wr (W.heap.size + 1) (.int .i64 k) (.string σ) (.slice sl n cap)).setCell ⟨b, 5, none⟩ (.int .i64 z)) := by
  subst hz
  have hl := h.lt
  have hR2 := h.rk.far (g := W.heap.size + 1) (by omega) (.int .i64 k) (.string σ) (.slice sl n cap)
  refine px_ok hR ⟨_, _, _, _, _, rfl, ?_⟩ (hR2.dep _) ((h.fq.put3 hlt (Nat.le_succ _) _ _ _).set 5 _) h.tv
  refine hr.move fun j hj => ⟨⟨by omega, ?_⟩, ?_⟩
  · rw [Below.heap_setCell _ _ _ _ (by show j ≠ b; omega), put3_heap _ _ _ _ _ (by omega)]
  · have := hj.2
    simp [World.setCell]
    omega
/-- a reading that gave up, behind the deferred call -/
theorem TX.gave {W wr w1 : World} {b : Nat} {s : ByteArray} {dp : Int} {t : Tk} (h : TX W wr b s (dp + 1) t) {p : Nat} {f : Int} {m : Nat} {tx : Bool} {ts : ByteArray} {tp : Nat} {d z : Int} (hS : RD w1 b s m tx ts tp d) (hf : Fq wr w1 b) {R : Res E} (hR : R = .bad p f) :
    PX W b s dp R (valE W) (.panicked (stopC p f)) (w1.setCell ⟨b, 5, none⟩ (.int .i64 z)) :=
  px_bad hR ⟨rfl, ⟨_, _, _, _, _, hS.dep _⟩, (h.fq.trans hf).set 5 _⟩
abbrev defs (W : World) : List Deferred := [{ target := .fn (.func 62) #[.pointer (some ⟨W.heap.size, 0, none⟩)], args := #[] }]
/-- the door, behind a reading that gave up -/
theorem door_bad {W wr w1 : World} {b : Nat} {s : ByteArray} {dp : Int} {t : Tk} (h : TX W wr b s (dp + 1) t) (hlt : b < W.heap.size) {p : Nat} {f : Int} (hS : ∃ m tx ts tp d, RD w1 b s m tx ts tp d) (hf : Fq wr w1 b) {R : Res E} (hR : R = .bad p f) (tmps : Array Value) :
    bodyPostD Try.prog Try.f58 (fun e W' => PX W b s dp R (valE W) e W') (.panic (stopC p f)) { tmps := tmps, defers := defs W } w1 := by
  obtain ⟨m, tx, ts, tp, d, hS⟩ := hS
  have hl := h.lt
  refine leaves_cons (f := 62) (args := #[.pointer (some ⟨W.heap.size, 0, none⟩)]) (by simp) (by simp [go_sem]) ?_
  refine (shut_any ⟨W.heap.size, 0, none⟩ b d _ _ ((World.cell?_of_block (hf.block W.heap.size (by omega) (by omega))).trans h.q0) hS.c5 (hS.fz 5)).mono ?_
  rintro e u' w'' ⟨rfl, rfl, rfl⟩
  exact h.gave hS hf hR
/-- the door, behind a reading -/
theorem door_ok {W wr : World} {b : Nat} {s : ByteArray} {dp : Int} {t : Tk} (h : TX W wr b s (dp + 1) t) (hlt : b < W.heap.size) (h0 : 0 ≤ dp) (h1 : dp < 32) {x : E} {k : Int} {σ : ByteArray} {sl : Option Addr} {n cap : Nat}
    (hr : RepX wr (fun j => W.heap.size + 2 ≤ j ∧ j < wr.heap.size) x (.agg #[.int .i64 k, .string σ, .slice sl n cap])) {R : Res E} (hR : R = .ok x t) (tmps : Array Value) (ht : tmps[2]? = some (.pointer (some ⟨W.heap.size + 1, 0, none⟩))) :
    bodyPostD Try.prog Try.f58 (fun e W' => PX W b s dp R (valE W) e W') .ret { tmps := tmps, defers := defs W } (put3 wr (W.heap.size + 1) (.int .i64 k) (.string σ) (.slice sl n cap)) := by
  have hl := h.lt
  have hR2 := h.rk.far (g := W.heap.size + 1) (by omega) (.int .i64 k) (.string σ) (.slice sl n cap)
  have hc := put3_cells (x := .int .i64 k) (y := .string σ) (z := .slice sl n cap) h.o0 h.o1 h.o2
  refine leaves_cons (f := 62) (args := #[.pointer (some ⟨W.heap.size, 0, none⟩)]) (by simp) (by simp [go_sem]) ?_
  refine (shut_any ⟨W.heap.size, 0, none⟩ b (dp + 1) _ _ ((World.cell?_of_block (put3_heap _ _ _ _ _ (by show W.heap.size ≠ W.heap.size + 1; omega))).trans h.q0) hR2.c5 (hR2.fz 5)).mono ?_
  rintro e u' w'' ⟨rfl, rfl, rfl⟩
  have z0 := (World.cell?_setCell_other (put3 wr (W.heap.size + 1) (.int .i64 k) (.string σ) (.slice sl n cap)) ⟨b, 5, none⟩ ⟨W.heap.size + 1, 0, none⟩ (.int .i64 (wrap64 (dp + 1 - 1))) (by simp)).trans hc.1
  have z1 := (World.cell?_setCell_other (put3 wr (W.heap.size + 1) (.int .i64 k) (.string σ) (.slice sl n cap)) ⟨b, 5, none⟩ ⟨W.heap.size + 1, 1, none⟩ (.int .i64 (wrap64 (dp + 1 - 1))) (by simp)).trans hc.2.1
  have z2 := (World.cell?_setCell_other (put3 wr (W.heap.size + 1) (.int .i64 k) (.string σ) (.slice sl n cap)) ⟨b, 5, none⟩ ⟨W.heap.size + 1, 2, none⟩ (.int .i64 (wrap64 (dp + 1 - 1))) (by simp)).trans hc.2.2
  have hres := h.done hlt hr hR (z := wrap64 (dp + 1 - 1)) (by rw [IntWalk.wrap64_in _ (by omega)]; omega)
  generalize (put3 wr (W.heap.size + 1) (.int .i64 k) (.string σ) (.slice sl n cap)).setCell ⟨b, 5, none⟩ (.int .i64 (wrap64 (dp + 1 - 1))) = w9 at *
  refine ⟨_, ?_, hres⟩
  simp [results, Try.results58, go_sem, ht, z0, z1, z2]
/-- a world that is wr, but for block b and what is new -/
noncomputable def kq (wr : World) (b : Nat) (Y : World) : World := open Classical in if ∀ j, j < wr.heap.size → j ≠ b → Y.heap[j]? = wr.heap[j]? then Y else wr
theorem kq_spec (wr : World) (b : Nat) (Y : World) : ∀ j, j < wr.heap.size → j ≠ b → (kq wr b Y).heap[j]? = wr.heap[j]? := by
  unfold kq
  split
  · assumption
  · exact fun _ _ _ => rfl
theorem kq_cell {wr : World} {b g o : Nat} {v : Value} (h : wr.cell? ⟨g, o, none⟩ = some v) (hne : g ≠ b) : ∀ Y, (kq wr b Y).cell? ⟨g, o, none⟩ = some v :=
  fun Y => (World.cell?_of_block (kq_spec wr b Y g (World.block_lt_of_cell? wr _ h) hne)).trans h
theorem kq_of {wr Y : World} {b : Nat} (h : ∀ j, j < wr.heap.size → j ≠ b → Y.heap[j]? = wr.heap[j]?) : Y = kq wr b Y := by
  unfold kq
  rw [if_pos h]
theorem kq_drew (wr : World) (b : Nat) : ∃ Y, wr.drew = kq wr b Y := ⟨wr.drew, kq_of fun _ _ _ => rfl⟩
end Rc
end Go.Proofs.Ytcigggffaofkhaa
