/-
  A range over a function whose iterator stores into a cell of its own (strings.SplitSeq): its contract, and the law of the statement. No program in sight.
-/
import Derived.RangeFuncWrites
import Derived.RangeFuncBound
import Derived.RangeFuncCalls
import Derived.RangeFuncLeaves
import Derived.RangeFuncNested
import Derived.Test.YtflhmoelenmomaaGreatDoorMSgT
import Derived.Test.YtflhmoelenmomaaGreatDoorShelf
import Derived.Shelf.Abstract
import Derived.Shelf.RegionOpen
import Derived.WalkKit
import Derived.OwnWalkIn
import Derived.TacticsInMore
import Derived.LoopNIn
import Derived.LoopIn
import Derived.Lib.IndexLaws
import Derived.Lib.Hide
namespace Go.Proofs.YtflhmoelenmomaaGreatDoor
open Go.RowKit
namespace Rg
variable {F : Fence} {n : Nat} {P : Program}

/-- the contract: between two rounds the iterator lays blocks, draws, and stores into its own cell c -/
def SeqC {α : Type} (F : Fence) (n : Nat) (P : Program) (g : Nat) (lb : Array Value) (encs : α → Array Value) (c : Addr) (Kp : World → World → Prop) (S Sp : List α → Prop) (w : World) : Prop :=
  ∀ (l : Nat) (J Jx : List α → World → Prop) (W : World), Below w.heap.size w W → AbidesFrom W.heap.size J → (∀ s X v, J s X → J s (X.setCell c v)) →
    (∀ pre x W1, Sp (pre ++ [x]) → J pre W1 → YieldAt F (n - 1) P l (encs x) W1 fun e W' =>
      (e = .returned (.bool true) ∧ J (pre ++ [x]) W' ∧ Kp W1 W') ∨ (e = .returned (.bool false) ∧ Jx (pre ++ [x]) W')) →
    J [] W →
    CallsIn F n P g (#[.func (.yield l) #[] #[]] ++ lb) W fun e W' => (∃ v, e = .returned v) ∧ ((∃ xs, S xs ∧ J xs W') ∨ (∃ pre, Sp pre ∧ Jx pre W'))

/-- the loop's two blocks: the record in state st with the jump pe, and the deferred calls' block -/
def Bk (rec : LoopState → Option Code → Loop) (D : Nat) (st : LoopState) (pe : Option Code) (W : World) : Prop :=
  W.heap[D + 1]? = some (.loop (rec st pe)) ∧ W.heap[D]? = some (.deferred (some []))
theorem Bk.grown {rec : LoopState → Option Code → Loop} {D : Nat} {st : LoopState} {pe : Option Code} {A B : World} {row : Option Nat} (h : Bk rec D st pe A) (hg : A.grownBy B row)
    (hr : ∀ r, row = some r → ∃ o : Obj, A.heap[r]? = some o ∧ o.isWalk = true) : Bk rec D st pe B :=
  ⟨(grownBy_keeps hg hr h.1 rfl).trans h.1, (grownBy_keeps hg hr h.2 rfl).trans h.2⟩
theorem Bk.stored {rec : LoopState → Option Code → Loop} {D : Nat} {st : LoopState} {pe : Option Code} {A : World} (h : Bk rec D st pe A) {c : Addr} (hc : c.block < D) (v : Value) : Bk rec D st pe (A.setCell c v) :=
  ⟨(Below.heap_setCell A c v _ (by omega)).trans h.1, (Below.heap_setCell A c v _ (by omega)).trans h.2⟩
theorem Bk.turned {rec : LoopState → Option Code → Loop} {D : Nat} {st : LoopState} {pe : Option Code} {A : World} (h : Bk rec D st pe A) (st' : LoopState) (pe' : Option Code) : Bk rec D st' pe' (A.putObj (D + 1) (.loop (rec st' pe'))) :=
  ⟨World.putObj_heap_same (Array.getElem?_eq_some_iff.1 h.1).1, (World.putObj_heap_other (by omega)).trans h.2⟩
theorem Bk.kept {rec : LoopState → Option Code → Loop} {D : Nat} {st : LoopState} {pe : Option Code} {A B : World} (h : Bk rec D st pe A) (hk : KeepsFrom D A B) : Bk rec D st pe B :=
  ⟨hk.same _ _ (by omega) h.1 rfl, hk.same _ _ (Nat.le_refl _) h.2 rfl⟩

theorem wpIn_range {α : Type} {g : Operand} {ps : Array Tmp} {assign body : Code} {Q : Exit → Act → World → Prop} {a : Act} {w : World}
    (hro : F.round = none) (h1 : 1 ≤ n) {gf : Nat} {lb : Array Value} (hg : a.eval g = .func (.func gf) #[] lb) (hFg : F.fn gf) (eg : ∀ args w, (callFunc gf args).run P w = .ok (.enter gf args) w)
    {encs : α → Array Value} {c : Addr} {Kp : World → World → Prop} {S Sp : List α → Prop} {w0 : World} (hseq : SeqC F (n - 1) P gf lb encs c Kp S Sp w0)
    (hKt : ∀ {A B C : World}, Kp A B → Kp B C → Kp A C) (hKb : ∀ (W : World) (l : Nat) (o o' : Obj), w.heap.size ≤ l → W.heap[l]? = some o → o.isCells = false → Kp W (W.putObj l o')) (hb0 : Below w0.heap.size w0 w) (hc : c.block < w.heap.size) (hps : ∀ x, (encs x).size = ps.size)
    (I : List α → World → Prop) (Ix : Code → List α → World → Prop) (hI : OwnFrom w.heap.size I) (hIc : ∀ s X v, I s X → I s (X.setCell c v)) (hIx : ∀ k, OwnFrom w.heap.size (Ix k)) (h0 : I [] w) (a₁ : α → Act)
    (hassign : ∀ (l : Nat) (x : α) (W : World) (K : Act → World → Prop), K (a₁ x) W →
      assign.wpIn (F.inRound l) (n - 1 - 1) P (Exit.then K (fun _ _ _ => False)) { tmps := (ps.zip (encs x)).foldl (fun t (p, v) => t.setIfInBounds p v) a.tmps, defers := [] } W)
    (hbody : ∀ (l : Nat) (pre : List α) (x : α) (W : World), Sp (pre ++ [x]) → I pre W → body.wpIn (F.inRound l) (n - 1 - 1) P (ownPostG w.heap.size Kp I Ix (pre ++ [x]) W) (a₁ x) W)
    (hdone : ∀ (xs : List α) (W : World), S xs → I xs W → W.heap[w.heap.size]? = some (.deferred (some [])) → Q .normal { a with defers := { target := .collected w.heap.size, args := #[] } :: a.defers } W)
    (hstop : ∀ (k : Code) (pre : List α) (W : World), Sp pre → Ix k pre W → W.heap[w.heap.size]? = some (.deferred (some [])) → k.wpIn F n P Q { a with defers := { target := .collected w.heap.size, args := #[] } :: a.defers } W) :
    (Code.rangeFunc g ps assign body).wpIn F n P Q a w := by
  refine wpIn_rangeFunc ?_
  intro fn hfn
  rw [hro]
  generalize hD : w.heap.size = D at *
  obtain ⟨rec, hrec⟩ : ∃ rec : LoopState → Option Code → Loop, rec = fun st pe => { state := st, pending := pe, fn, tmps := a.tmps, params := ps, assign, body, defers := D } := ⟨_, rfl⟩
  obtain ⟨W1, hW1⟩ : ∃ W1, (w.alloc (.deferred (some []))).alloc (.loop (rec .ready none)) = W1 := ⟨_, rfl⟩
  have hs1 : W1.heap.size = D + 2 := by rw [← hW1]; simp [hD]
  have hB1 : Bk rec D .ready none W1 := by
    rw [← hW1, ← hD]
    refine ⟨?_, ?_⟩
    · have h := World.alloc_heap_new (w.alloc (.deferred (some []))) (.loop (rec .ready none))
      rwa [World.size_alloc] at h
    · exact (Below.heap_alloc _ _ _ (by simp)).trans (World.alloc_heap_new w _)
  have hI1 : I [] W1 := by rw [← hW1]; exact hI.alloc _ (hI.alloc _ h0)
  have hb1 : Below w0.heap.size w0 W1 := by
    rw [← hW1]
    exact hb0.trans ((((Below.refl _ w).alloc (Nat.le_refl _) _).alloc (by simp) _).mono hb0.size)
  refine ⟨D + 1, [{ target := .collected D, args := #[] }], W1, { target := .fn (.func gf) lb, args := #[.func (.yield (D + 1)) #[] #[]] }, W1, gf, #[.func (.yield (D + 1)) #[] #[]] ++ lb, W1, ?_, ?_, ?_, ?_, fun _ => h1, ?_⟩
  · rw [← hW1, hrec, ← hD]
    exact run_enterLoop_outer _ _ _ _ _
  · simp only [resolve, hg]
    simp [go_sem]
  · intro f' hf'
    simp [Target.leads] at hf'
    subst hf'
    exact hFg
  · simp [invoke, go_sem, eg]
  · refine (hseq (D + 1) (fun pre W => I pre W ∧ Bk rec D .ready none W) (fun pre W => ∃ k, Ix k pre W ∧ Bk rec D .done (some k) W) W1 hb1
      (fun s A B row hs hg' hr => ⟨hI s A B row hs.1 hg' (fun r e => by
        obtain ⟨hB, o, ho, hw⟩ := hr r e
        exact ⟨by omega, o, ho, Obj.not_cells_of_walk hw⟩), hs.2.grown hg' (fun r e => (hr r e).2)⟩)
      (fun s X v hs => ⟨hIc s X v hs.1, hs.2.stored hc v⟩) ?_ ⟨hI1, hB1⟩).mono ?_
    · rintro pre x W hsp ⟨hi, hk⟩
      have hy := run_yield (P := P) (args := encs x) hk.1 (by rw [hrec]; exact hps x)
      refine ⟨fn, (ps.zip (encs x)).foldl (fun t (p, v) => t.setIfInBounds p v) a.tmps, assign, body, by rw [hrec] at hy; exact hy, roundIn_of_wpIn hfn (hassign _ x W _ ⟨W.putObj (D + 1) (.loop (rec .busy none)), ?_, ?_⟩)⟩
      · have h := run_beginRound (P := P) hk.1 (by rw [hrec])
        rw [hrec] at h ⊢
        exact h
      have hk2 : Bk rec D .busy none (W.putObj (D + 1) (.loop (rec .busy none))) := hk.turned .busy none
      have hK2 : Kp W (W.putObj (D + 1) (.loop (rec .busy none))) := hKb _ _ _ _ (by omega) hk.1 rfl
      refine wpIn_mono (hbody _ pre x _ hsp (hI.putObj _ hi (by omega) hk.1 rfl)) ?_
      have fin : ∀ (jump : Option Code) (W3 : World), KeepsFrom D (W.putObj (D + 1) (.loop (rec .busy none))) W3 →
          Bk rec D .busy none W3 ∧ ∃ W4, W4 = W3.putObj (D + 1) (.loop (rec (if jump.isNone then .ready else .done) jump)) ∧ (Instr.endRound (D + 1) jump).run P W3 = .ok (.bool jump.isNone) W4 ∧ Bk rec D (if jump.isNone then .ready else .done) jump W4 := fun jump W3 hk3 => by
        have h3 := hk2.kept hk3
        refine ⟨h3, _, rfl, ?_, h3.turned _ jump⟩
        have h := run_endRound (P := P) jump h3.1
        rw [hrec] at h ⊢
        exact h
      rintro e a3 W3 hp
      cases e with
      | normal =>
        obtain ⟨hk3, hkp, hi3⟩ := hp
        obtain ⟨h3, W4, hW4, hr, h4⟩ := fin none W3 hk3
        refine ⟨_, _, hr, .inl ⟨rfl, ⟨?_, h4⟩, ?_⟩⟩
        · rw [hW4]; exact hI.putObj _ hi3 (by omega) h3.1 rfl
        · rw [hW4]; exact hKt (hKt hK2 hkp) (hKb _ _ _ _ (by omega) h3.1 rfl)
      | ret =>
        obtain ⟨hk3, hi3⟩ := hp
        obtain ⟨h3, W4, hW4, hr, h4⟩ := fin (some .ret) W3 hk3
        exact ⟨_, _, hr, .inr ⟨rfl, .ret, by rw [hW4]; exact (hIx _).putObj _ hi3 (by omega) h3.1 rfl, h4⟩⟩
      | exit id =>
        obtain ⟨hk3, hi3⟩ := hp
        obtain ⟨h3, W4, hW4, hr, h4⟩ := fin (some (.exit id)) W3 hk3
        exact ⟨_, _, hr, .inr ⟨rfl, .exit id, by rw [hW4]; exact (hIx _).putObj _ hi3 (by omega) h3.1 rfl, h4⟩⟩
      | goto t =>
        obtain ⟨hk3, hi3⟩ := hp
        obtain ⟨h3, W4, hW4, hr, h4⟩ := fin (some (.goto t)) W3 hk3
        exact ⟨_, _, hr, .inr ⟨rfl, .goto t, by rw [hW4]; exact (hIx _).putObj _ hi3 (by omega) h3.1 rfl, h4⟩⟩
      | panic ch => exact hp.elim
      | outgrown => exact hp.elim
    · rintro e W2 ⟨⟨v, rfl⟩, (⟨xs, hS, hi, hk⟩ | ⟨pre, hSp, k, hi, hk⟩)⟩
      · have h := run_endLoop (P := P) hk.1 (by rw [hrec]; simp)
        refine ⟨none, W2.putObj (D + 1) (.loop (rec .exhausted none)), by rw [hrec] at h ⊢; exact h, hdone xs _ hS (hI.putObj _ hi (by omega) hk.1 rfl) ((World.putObj_heap_other (by omega)).trans hk.2)⟩
      · have h := run_endLoop (P := P) hk.1 (by rw [hrec]; simp)
        refine ⟨some k, W2.putObj (D + 1) (.loop (rec .exhausted (some k))), by rw [hrec] at h ⊢; exact h, hstop k pre _ hSp ((hIx k).putObj _ hi (by omega) hk.1 rfl) ((World.putObj_heap_other (by omega)).trans hk.2)⟩

end Rg
end Go.Proofs.YtflhmoelenmomaaGreatDoor

/-
  A range over a function whose iterator stores into a cell of its own, within a round of another one; and the outer one, whose body is told of its own loop's record. No program in sight.
-/
namespace Go.Proofs.YtflhmoelenmomaaGreatDoor
open Go.RowKit
namespace Rg
variable {F : Fence} {n : Nat} {P : Program}

theorem SeqC.inRound {α : Type} {g : Nat} {lb : Array Value} {encs : α → Array Value} {c : Addr} {Kp : World → World → Prop} {S Sp : List α → Prop} {w : World} (l : Nat)
    (h : SeqC F n P g lb encs c Kp S Sp w) : SeqC (F.inRound l) n P g lb encs c Kp S Sp w := h

/-- the outer law, its body told of its own record -/
theorem wpIn_rangeB {α : Type} {g : Operand} {ps : Array Tmp} {assign body : Code} {Q : Exit → Act → World → Prop} {a : Act} {w : World}
    (hro : F.round = none) (h1 : 1 ≤ n) {gf : Nat} {lb : Array Value} (hg : a.eval g = .func (.func gf) #[] lb) (hFg : F.fn gf) (eg : ∀ args w, (callFunc gf args).run P w = .ok (.enter gf args) w)
    {encs : α → Array Value} {c : Addr} {Kp : World → World → Prop} {S Sp : List α → Prop} {w0 : World} (hseq : SeqC F (n - 1) P gf lb encs c Kp S Sp w0)
    (hKt : ∀ {A B C : World}, Kp A B → Kp B C → Kp A C) (hKb : ∀ (W : World) (l : Nat) (o o' : Obj), w.heap.size ≤ l → W.heap[l]? = some o → o.isCells = false → Kp W (W.putObj l o')) (hb0 : Below w0.heap.size w0 w) (hc : c.block < w.heap.size) (hps : ∀ x, (encs x).size = ps.size)
    (I : List α → World → Prop) (Ix : Code → List α → World → Prop) (hI : OwnFrom w.heap.size I) (hIc : ∀ s X v, I s X → I s (X.setCell c v)) (hIx : ∀ k, OwnFrom w.heap.size (Ix k)) (h0 : I [] w) (a₁ : α → Act)
    (hassign : ∀ (l : Nat) (x : α) (W : World) (K : Act → World → Prop), K (a₁ x) W →
      assign.wpIn (F.inRound l) (n - 1 - 1) P (Exit.then K (fun _ _ _ => False)) { tmps := (ps.zip (encs x)).foldl (fun t (p, v) => t.setIfInBounds p v) a.tmps, defers := [] } W)
    (hbody : ∀ (l : Nat) (pre : List α) (x : α) (W : World), w.heap.size ≤ l → (∃ r, W.heap[l]? = some (.loop r)) → Sp (pre ++ [x]) → I pre W → body.wpIn (F.inRound l) (n - 1 - 1) P (ownPostG w.heap.size Kp I Ix (pre ++ [x]) W) (a₁ x) W)
    (hdone : ∀ (xs : List α) (W : World), S xs → I xs W → W.heap[w.heap.size]? = some (.deferred (some [])) → Q .normal { a with defers := { target := .collected w.heap.size, args := #[] } :: a.defers } W)
    (hstop : ∀ (k : Code) (pre : List α) (W : World), Sp pre → Ix k pre W → W.heap[w.heap.size]? = some (.deferred (some [])) → k.wpIn F n P Q { a with defers := { target := .collected w.heap.size, args := #[] } :: a.defers } W) :
    (Code.rangeFunc g ps assign body).wpIn F n P Q a w := by
  refine wpIn_rangeFunc ?_
  intro fn hfn
  rw [hro]
  generalize hD : w.heap.size = D at *
  obtain ⟨rec, hrec⟩ : ∃ rec : LoopState → Option Code → Loop, rec = fun st pe => { state := st, pending := pe, fn, tmps := a.tmps, params := ps, assign, body, defers := D } := ⟨_, rfl⟩
  obtain ⟨W1, hW1⟩ : ∃ W1, (w.alloc (.deferred (some []))).alloc (.loop (rec .ready none)) = W1 := ⟨_, rfl⟩
  have hs1 : W1.heap.size = D + 2 := by rw [← hW1]; simp [hD]
  have hB1 : Bk rec D .ready none W1 := by
    rw [← hW1, ← hD]
    refine ⟨?_, ?_⟩
    · have h := World.alloc_heap_new (w.alloc (.deferred (some []))) (.loop (rec .ready none))
      rwa [World.size_alloc] at h
    · exact (Below.heap_alloc _ _ _ (by simp)).trans (World.alloc_heap_new w _)
  have hI1 : I [] W1 := by rw [← hW1]; exact hI.alloc _ (hI.alloc _ h0)
  have hb1 : Below w0.heap.size w0 W1 := by
    rw [← hW1]
    exact hb0.trans ((((Below.refl _ w).alloc (Nat.le_refl _) _).alloc (by simp) _).mono hb0.size)
  refine ⟨D + 1, [{ target := .collected D, args := #[] }], W1, { target := .fn (.func gf) lb, args := #[.func (.yield (D + 1)) #[] #[]] }, W1, gf, #[.func (.yield (D + 1)) #[] #[]] ++ lb, W1, ?_, ?_, ?_, ?_, fun _ => h1, ?_⟩
  · rw [← hW1, hrec, ← hD]
    exact run_enterLoop_outer _ _ _ _ _
  · simp only [resolve, hg]
    simp [go_sem]
  · intro f' hf'
    simp [Target.leads] at hf'
    subst hf'
    exact hFg
  · simp [invoke, go_sem, eg]
  · refine (hseq (D + 1) (fun pre W => I pre W ∧ Bk rec D .ready none W) (fun pre W => ∃ k, Ix k pre W ∧ Bk rec D .done (some k) W) W1 hb1
      (fun s A B row hs hg' hr => ⟨hI s A B row hs.1 hg' (fun r e => by
        obtain ⟨hB, o, ho, hw⟩ := hr r e
        exact ⟨by omega, o, ho, Obj.not_cells_of_walk hw⟩), hs.2.grown hg' (fun r e => (hr r e).2)⟩)
      (fun s X v hs => ⟨hIc s X v hs.1, hs.2.stored hc v⟩) ?_ ⟨hI1, hB1⟩).mono ?_
    · rintro pre x W hsp ⟨hi, hk⟩
      have hy := run_yield (P := P) (args := encs x) hk.1 (by rw [hrec]; exact hps x)
      refine ⟨fn, (ps.zip (encs x)).foldl (fun t (p, v) => t.setIfInBounds p v) a.tmps, assign, body, by rw [hrec] at hy; exact hy, roundIn_of_wpIn hfn (hassign _ x W _ ⟨W.putObj (D + 1) (.loop (rec .busy none)), ?_, ?_⟩)⟩
      · have h := run_beginRound (P := P) hk.1 (by rw [hrec])
        rw [hrec] at h ⊢
        exact h
      have hk2 : Bk rec D .busy none (W.putObj (D + 1) (.loop (rec .busy none))) := hk.turned .busy none
      have hK2 : Kp W (W.putObj (D + 1) (.loop (rec .busy none))) := hKb _ _ _ _ (by omega) hk.1 rfl
      refine wpIn_mono (hbody _ pre x _ (Nat.le_succ _) ⟨_, hk2.1⟩ hsp (hI.putObj _ hi (by omega) hk.1 rfl)) ?_
      have fin : ∀ (jump : Option Code) (W3 : World), KeepsFrom D (W.putObj (D + 1) (.loop (rec .busy none))) W3 →
          Bk rec D .busy none W3 ∧ ∃ W4, W4 = W3.putObj (D + 1) (.loop (rec (if jump.isNone then .ready else .done) jump)) ∧ (Instr.endRound (D + 1) jump).run P W3 = .ok (.bool jump.isNone) W4 ∧ Bk rec D (if jump.isNone then .ready else .done) jump W4 := fun jump W3 hk3 => by
        have h3 := hk2.kept hk3
        refine ⟨h3, _, rfl, ?_, h3.turned _ jump⟩
        have h := run_endRound (P := P) jump h3.1
        rw [hrec] at h ⊢
        exact h
      rintro e a3 W3 hp
      cases e with
      | normal =>
        obtain ⟨hk3, hkp, hi3⟩ := hp
        obtain ⟨h3, W4, hW4, hr, h4⟩ := fin none W3 hk3
        refine ⟨_, _, hr, .inl ⟨rfl, ⟨?_, h4⟩, ?_⟩⟩
        · rw [hW4]; exact hI.putObj _ hi3 (by omega) h3.1 rfl
        · rw [hW4]; exact hKt (hKt hK2 hkp) (hKb _ _ _ _ (by omega) h3.1 rfl)
      | ret =>
        obtain ⟨hk3, hi3⟩ := hp
        obtain ⟨h3, W4, hW4, hr, h4⟩ := fin (some .ret) W3 hk3
        exact ⟨_, _, hr, .inr ⟨rfl, .ret, by rw [hW4]; exact (hIx _).putObj _ hi3 (by omega) h3.1 rfl, h4⟩⟩
      | exit id =>
        obtain ⟨hk3, hi3⟩ := hp
        obtain ⟨h3, W4, hW4, hr, h4⟩ := fin (some (.exit id)) W3 hk3
        exact ⟨_, _, hr, .inr ⟨rfl, .exit id, by rw [hW4]; exact (hIx _).putObj _ hi3 (by omega) h3.1 rfl, h4⟩⟩
      | goto t =>
        obtain ⟨hk3, hi3⟩ := hp
        obtain ⟨h3, W4, hW4, hr, h4⟩ := fin (some (.goto t)) W3 hk3
        exact ⟨_, _, hr, .inr ⟨rfl, .goto t, by rw [hW4]; exact (hIx _).putObj _ hi3 (by omega) h3.1 rfl, h4⟩⟩
      | panic ch => exact hp.elim
      | outgrown => exact hp.elim
    · rintro e W2 ⟨⟨v, rfl⟩, (⟨xs, hS, hi, hk⟩ | ⟨pre, hSp, k, hi, hk⟩)⟩
      · have h := run_endLoop (P := P) hk.1 (by rw [hrec]; simp)
        refine ⟨none, W2.putObj (D + 1) (.loop (rec .exhausted none)), by rw [hrec] at h ⊢; exact h, hdone xs _ hS (hI.putObj _ hi (by omega) hk.1 rfl) ((World.putObj_heap_other (by omega)).trans hk.2)⟩
      · have h := run_endLoop (P := P) hk.1 (by rw [hrec]; simp)
        refine ⟨some k, W2.putObj (D + 1) (.loop (rec .exhausted (some k))), by rw [hrec] at h ⊢; exact h, hstop k pre _ hSp ((hIx k).putObj _ hi (by omega) hk.1 rfl) ((World.putObj_heap_other (by omega)).trans hk.2)⟩

/-- the inner law: within a round of loop l₀ -/
theorem wpIn_rangeN {α : Type} {g : Operand} {ps : Array Tmp} {assign body : Code} {Q : Exit → Act → World → Prop} {a : Act} {w : World}
    {l₀ : Nat} {r₀ : Loop} (hro : F.round = some l₀) (hl₀ : w.heap[l₀]? = some (.loop r₀)) (h1 : 1 ≤ n) {gf : Nat} {lb : Array Value} (hg : a.eval g = .func (.func gf) #[] lb) (hFg : F.fn gf) (eg : ∀ args w, (callFunc gf args).run P w = .ok (.enter gf args) w)
    {encs : α → Array Value} {c : Addr} {Kp : World → World → Prop} {S Sp : List α → Prop} {w0 : World} (hseq : SeqC F (n - 1) P gf lb encs c Kp S Sp w0)
    (hKt : ∀ {A B C : World}, Kp A B → Kp B C → Kp A C) (hKb : ∀ (W : World) (l : Nat) (o o' : Obj), w.heap.size ≤ l → W.heap[l]? = some o → o.isCells = false → Kp W (W.putObj l o')) (hb0 : Below w0.heap.size w0 w) (hc : c.block < w.heap.size) (hps : ∀ x, (encs x).size = ps.size)
    (I : List α → World → Prop) (Ix : Code → List α → World → Prop) (hI : OwnFrom w.heap.size I) (hIc : ∀ s X v, I s X → I s (X.setCell c v)) (hIx : ∀ k, OwnFrom w.heap.size (Ix k)) (h0 : I [] w) (a₁ : α → Act)
    (hassign : ∀ (l : Nat) (x : α) (W : World) (K : Act → World → Prop), K (a₁ x) W →
      assign.wpIn (F.inRound l) (n - 1 - 1) P (Exit.then K (fun _ _ _ => False)) { tmps := (ps.zip (encs x)).foldl (fun t (p, v) => t.setIfInBounds p v) a.tmps, defers := [] } W)
    (hbody : ∀ (l : Nat) (pre : List α) (x : α) (W : World), Sp (pre ++ [x]) → I pre W → body.wpIn (F.inRound l) (n - 1 - 1) P (ownPostG w.heap.size Kp I Ix (pre ++ [x]) W) (a₁ x) W)
    (hdone : ∀ (xs : List α) (W : World), S xs → I xs W → Q .normal a W)
    (hstop : ∀ (k : Code) (pre : List α) (W : World), Sp pre → Ix k pre W → k.wpIn F n P Q a W) :
    (Code.rangeFunc g ps assign body).wpIn F n P Q a w := by
  refine wpIn_rangeFunc ?_
  intro fn hfn
  rw [hro]
  generalize hD : w.heap.size = D at *
  obtain ⟨rec, hrec⟩ : ∃ rec : LoopState → Option Code → Loop, rec = fun st pe => { state := st, pending := pe, fn, tmps := a.tmps, params := ps, assign, body, defers := r₀.defers } := ⟨_, rfl⟩
  obtain ⟨W1, hW1⟩ : ∃ W1, w.alloc (.loop (rec .ready none)) = W1 := ⟨_, rfl⟩
  have hs1 : W1.heap.size = D + 1 := by rw [← hW1]; simp [hD]
  have hB1 : W1.heap[D]? = some (.loop (rec .ready none)) := by rw [← hW1, ← hD]; exact World.alloc_heap_new w _
  have hI1 : I [] W1 := by rw [← hW1]; exact hI.alloc _ h0
  have hb1 : Below w0.heap.size w0 W1 := by
    rw [← hW1]
    exact hb0.trans (((Below.refl _ w).alloc (Nat.le_refl _) _).mono hb0.size)
  refine ⟨D, [], W1, { target := .fn (.func gf) lb, args := #[.func (.yield D) #[] #[]] }, W1, gf, #[.func (.yield D) #[] #[]] ++ lb, W1, ?_, ?_, ?_, ?_, fun _ => h1, ?_⟩
  · rw [← hW1, hrec, ← hD]
    exact run_enterLoop_inner hl₀ _ _ _ _ _
  · simp only [resolve, hg]
    simp [go_sem]
  · intro f' hf'
    simp [Target.leads] at hf'
    subst hf'
    exact hFg
  · simp [invoke, go_sem, eg]
  · have turn : ∀ {X : World} {o : Obj} (o' : Obj), X.heap[D]? = some o → (X.putObj D o').heap[D]? = some o' := fun o' h => World.putObj_heap_same (Array.getElem?_eq_some_iff.1 h).1
    refine (hseq D (fun pre W => I pre W ∧ W.heap[D]? = some (.loop (rec .ready none))) (fun pre W => ∃ k, Ix k pre W ∧ W.heap[D]? = some (.loop (rec .done (some k)))) W1 hb1
      (fun s A B row hs hg' hr => ⟨hI s A B row hs.1 hg' (fun r e => by
        obtain ⟨hB, o, ho, hw⟩ := hr r e
        exact ⟨by omega, o, ho, Obj.not_cells_of_walk hw⟩), (grownBy_keeps hg' (fun r e => (hr r e).2) hs.2 rfl).trans hs.2⟩)
      (fun s X v hs => ⟨hIc s X v hs.1, (Below.heap_setCell X c v _ (by omega)).trans hs.2⟩) ?_ ⟨hI1, hB1⟩).mono ?_
    · rintro pre x W hsp ⟨hi, hk⟩
      have hy := run_yield (P := P) (args := encs x) hk (by rw [hrec]; exact hps x)
      refine ⟨fn, (ps.zip (encs x)).foldl (fun t (p, v) => t.setIfInBounds p v) a.tmps, assign, body, by rw [hrec] at hy; exact hy, roundIn_of_wpIn hfn (hassign _ x W _ ⟨W.putObj D (.loop (rec .busy none)), ?_, ?_⟩)⟩
      · have h := run_beginRound (P := P) hk (by rw [hrec])
        rw [hrec] at h ⊢
        exact h
      have hk2 : (W.putObj D (.loop (rec .busy none))).heap[D]? = some (.loop (rec .busy none)) := turn _ hk
      have hK2 : Kp W (W.putObj D (.loop (rec .busy none))) := hKb _ _ _ _ (Nat.le_refl _) hk rfl
      refine wpIn_mono (hbody _ pre x _ hsp (hI.putObj _ hi (Nat.le_refl _) hk rfl)) ?_
      have fin : ∀ (jump : Option Code) (W3 : World), KeepsFrom D (W.putObj D (.loop (rec .busy none))) W3 →
          W3.heap[D]? = some (.loop (rec .busy none)) ∧ ∃ W4, W4 = W3.putObj D (.loop (rec (if jump.isNone then .ready else .done) jump)) ∧ (Instr.endRound D jump).run P W3 = .ok (.bool jump.isNone) W4 ∧ W4.heap[D]? = some (.loop (rec (if jump.isNone then .ready else .done) jump)) := fun jump W3 hk3 => by
        have h3 := hk3.same _ _ (Nat.le_refl _) hk2 rfl
        refine ⟨h3, _, rfl, ?_, turn _ h3⟩
        have h := run_endRound (P := P) jump h3
        rw [hrec] at h ⊢
        exact h
      rintro e a3 W3 hp
      cases e with
      | normal =>
        obtain ⟨hk3, hkp, hi3⟩ := hp
        obtain ⟨h3, W4, hW4, hr, h4⟩ := fin none W3 hk3
        refine ⟨_, _, hr, .inl ⟨rfl, ⟨?_, h4⟩, ?_⟩⟩
        · rw [hW4]; exact hI.putObj _ hi3 (Nat.le_refl _) h3 rfl
        · rw [hW4]; exact hKt (hKt hK2 hkp) (hKb _ _ _ _ (Nat.le_refl _) h3 rfl)
      | ret =>
        obtain ⟨hk3, hi3⟩ := hp
        obtain ⟨h3, W4, hW4, hr, h4⟩ := fin (some .ret) W3 hk3
        exact ⟨_, _, hr, .inr ⟨rfl, .ret, by rw [hW4]; exact (hIx _).putObj _ hi3 (Nat.le_refl _) h3 rfl, h4⟩⟩
      | exit id =>
        obtain ⟨hk3, hi3⟩ := hp
        obtain ⟨h3, W4, hW4, hr, h4⟩ := fin (some (.exit id)) W3 hk3
        exact ⟨_, _, hr, .inr ⟨rfl, .exit id, by rw [hW4]; exact (hIx _).putObj _ hi3 (Nat.le_refl _) h3 rfl, h4⟩⟩
      | goto t =>
        obtain ⟨hk3, hi3⟩ := hp
        obtain ⟨h3, W4, hW4, hr, h4⟩ := fin (some (.goto t)) W3 hk3
        exact ⟨_, _, hr, .inr ⟨rfl, .goto t, by rw [hW4]; exact (hIx _).putObj _ hi3 (Nat.le_refl _) h3 rfl, h4⟩⟩
      | panic ch => exact hp.elim
      | outgrown => exact hp.elim
    · rintro e W2 ⟨⟨v, rfl⟩, (⟨xs, hS, hi, hk⟩ | ⟨pre, hSp, k, hi, hk⟩)⟩
      · have h := run_endLoop (P := P) hk (by rw [hrec]; simp)
        exact ⟨none, W2.putObj D (.loop (rec .exhausted none)), by rw [hrec] at h ⊢; exact h, hdone xs _ hS (hI.putObj _ hi (Nat.le_refl _) hk rfl)⟩
      · have h := run_endLoop (P := P) hk (by rw [hrec]; simp)
        exact ⟨some k, W2.putObj D (.loop (rec .exhausted (some k))), by rw [hrec] at h ⊢; exact h, hstop k pre _ hSp ((hIx k).putObj _ hi (Nat.le_refl _) hk rfl)⟩
end Rg
end Go.Proofs.YtflhmoelenmomaaGreatDoor

/-
  Walk: strings.SplitSeq at any separator that is not empty: the iterator's contract.
-/
namespace Go.Proofs.YtflhmoelenmomaaGreatDoor
open Go.RowKit Go.Shelf
namespace Sps
attribute [local go_sem] Oper.semAt_some

def bL (x : ByteArray) : List UInt8 := x.data.toList
theorem bL_extract (r : ByteArray) (i j : Nat) : bL (r.extract i j) = ((bL r).take j).drop i := by
  unfold bL
  rw [ByteArray.data_extract, Array.toList_extract]
  simp [List.extract, List.drop_take]
/-- the iterator's three cells -/
structure Own3 (W : World) (B : Nat) (sep r : ByteArray) : Prop where
  c0 : W.cell? ⟨B, 0, none⟩ = some (.string r)
  fz : W.frozen? ⟨B, 0, none⟩ = false
  c1 : W.cell? ⟨B + 1, 0, none⟩ = some (.string sep)
  c2 : W.cell? ⟨B + 2, 0, none⟩ = some (.int .i64 0)
/-- what is kept between two rounds -/
def Kp (B : Nat) (W W' : World) : Prop := W.heap.size ≤ W'.heap.size ∧ (∀ k, B ≤ k → k < B + 3 → W'.heap[k]? = W.heap[k]?) ∧ W'.heap[(2 : Nat)]? = W.heap[(2 : Nat)]?
theorem Own3.kept {W W' : World} {B : Nat} {sep r : ByteArray} (h : Own3 W B sep r) (hk : Kp B W W') : Own3 W' B sep r :=
  ⟨(World.cell?_of_block (hk.2.1 B (Nat.le_refl _) (by omega))).trans h.c0, (World.frozen?_of_block (hk.2.1 B (Nat.le_refl _) (by omega))).trans h.fz,
    (World.cell?_of_block (hk.2.1 (B + 1) (by omega) (by omega))).trans h.c1, (World.cell?_of_block (hk.2.1 (B + 2) (by omega) (by omega))).trans h.c2⟩
theorem Own3.set {W : World} {B : Nat} {sep r : ByteArray} (h : Own3 W B sep r) (r' : ByteArray) : Own3 (W.setCell ⟨B, 0, none⟩ (.string r')) B sep r' :=
  ⟨World.cell?_setCell_same' _ _ _ (by rw [h.c0]; rfl), (World.frozen?_setCell _ _ _ _).trans h.fz, (World.cell?_setCell_other _ _ _ _ (by simp)).trans h.c1, (World.cell?_setCell_other _ _ _ _ (by simp)).trans h.c2⟩
/-- the variable that strings.Index reads -/
def Mx (W : World) : Prop := ∃ m, W.cell? ⟨2, 0, none⟩ = some (.int .i64 m)
theorem Mx.kept {W W' : World} {B : Nat} (h : Mx W) (hk : Kp B W W') : Mx W' := by
  obtain ⟨m, hm⟩ := h
  exact ⟨m, (World.cell?_of_block hk.2.2).trans hm⟩
theorem Mx.below {W W' : World} (h : Mx W) (hb : Below W.heap.size W W') : Mx W' := by
  obtain ⟨m, hm⟩ := h
  exact ⟨m, Sx.keep_cell hb hm⟩
theorem Mx.set {W : World} {B : Nat} (h : Mx W) (hB : 2 < B) (v : Value) : Mx (W.setCell ⟨B, 0, none⟩ v) := by
  obtain ⟨m, hm⟩ := h
  exact ⟨m, (World.cell?_setCell_other _ _ _ _ (fun e => by have := congrArg Addr.block e; simp only at this; omega)).trans hm⟩
def lz (B : Nat) (W : World) : Nat := match W.cell? ⟨B, 0, none⟩ with
  | some (.string r) => r.size
  | _ => 0
theorem lz_of {W : World} {B : Nat} {sep r : ByteArray} (h : Own3 W B sep r) : lz B W = r.size := by unfold lz; rw [h.c0]
/-- what has come, and what is left -/
def Left (sep s : ByteArray) (pre : List ByteArray) (r : ByteArray) : Prop := pre.map bL ++ Sg.cuts (bL sep) (bL r) = Sg.cuts (bL sep) (bL s)
theorem Left.last {sep s r : ByteArray} {pre : List ByteArray} (h : Left sep s pre r) (hi : Lib.index (bL r) (bL sep) = -1) : (pre ++ [r]).map bL = Sg.cuts (bL sep) (bL s) := by
  unfold Left at h
  rw [← h, Sg.cuts_none hi]
  simp
theorem Left.next {sep s r : ByteArray} {pre : List ByteArray} (hs : bL sep ≠ []) (h : Left sep s pre r) {o : Nat} (hi : Lib.index (bL r) (bL sep) = o) : Left sep s (pre ++ [r.extract 0 o]) (r.extract (o + sep.size) r.size) := by
  unfold Left at *
  have hz : r.size = (bL r).length := Lib.size_eq r
  have hz2 : sep.size = (bL sep).length := Lib.size_eq sep
  have e1 : bL (r.extract 0 o) = (bL r).take o := by rw [bL_extract, List.drop_zero]
  have e2 : bL (r.extract (o + sep.size) r.size) = (bL r).drop (o + (bL sep).length) := by rw [bL_extract, hz, List.take_length, hz2]
  rw [← h, Sg.cuts_some hs hi, List.map_append, List.map_cons, List.map_nil, e1, e2, List.append_assoc]
  rfl
def Pre (sep s : ByteArray) (pre : List ByteArray) : Prop := (∃ more, pre.map bL ++ more = Sg.cuts (bL sep) (bL s)) ∧ ∀ x ∈ pre, x.size ≤ s.size

set_option maxRecDepth 100000 in
set_option maxHeartbeats 2000000 in
theorem split_stops (n : Nat) (hn : 2 ≤ n) (sep s : ByteArray) (hsep : 0 < sep.size) (hs : s.size ≤ 1048576) (hsz : sep.size ≤ 1048576) (B : Nat) (hB : 2 < B) (w : World) (hw : B + 3 ≤ w.heap.size) (hO : Own3 w B sep s) (hM : Mx w) :
    Rg.SeqC Fence.wide n Tryz.prog 102 #[.pointer (some ⟨B + 1, 0, none⟩), .pointer (some ⟨B, 0, none⟩), .pointer (some ⟨B + 2, 0, none⟩)] (fun x : ByteArray => #[.string x]) ⟨B, 0, none⟩ (Kp B)
      (fun xs => xs.map bL = Sg.cuts (bL sep) (bL s)) (Pre sep s) w := fun l J Jx W hW hJ hJs hY h0 => by
  have hk0 : Kp B w W := by
    refine ⟨hW.size, fun k _ hk => hW.block k (by omega), hW.block _ ?_⟩
    show 2 < w.heap.size
    omega
  have hO1 : Own3 W B sep s := hO.kept hk0
  clear hk0
  have hM1 : Mx W := hM.below hW
  have HSP := Lib.hid (show bL sep ≠ [] by intro e; have := Lib.size_eq sep; unfold bL at e; rw [e] at this; have h9 : sep.size = 0 := this; omega)
  refine callsIn_of_wp Tryz.func102 rfl trivial ?_ rfl
  simp only [Tryz.ntmps102, List.size_toArray, List.length_cons, List.length_nil, Nat.reduceAdd, Nat.reduceSub, Array.replicate_succ, Array.replicate_zero, List.push_toArray, List.append_toArray, List.nil_append, List.cons_append]
  have d1 := hO1.c1
  have j0 : ((sep.size : Int) == 0) = false := beq_eq_false_iff_ne.2 (by omega)
  gi_wp2
  clear d1 j0
  gi_loopw [7, 8] (fun _ _ wr => ∃ (pre : List ByteArray) (r : ByteArray), Own3 wr B sep r ∧ Mx wr ∧ J pre wr ∧ Left sep s pre r ∧ r.size ≤ s.size ∧ ∀ x ∈ pre, x.size ≤ s.size) (fun _ _ wr => lz B wr)
  case atStart => exact ⟨[], s, hO1, hM1, h0, rfl, Nat.le_refl _, fun x h => by cases h⟩
  case round =>
    obtain ⟨pre, r, hR, hMr, hj, hL, hrs, hps⟩ := hrel
    have c0 := hR.c0
    have c1 := hR.c1
    have c2 := hR.c2
    have fz := hR.fz
    have hge := Lib.index_ge (bL r) (bL sep)
    obtain ⟨m, hm⟩ := id hMr
    have HMr := Lib.hid hMr
    by_cases hi : Lib.index (bL r) (bL sep) = -1
    · have HL := Lib.hid (hL.last hi)
      have hp9 : Pre sep s (pre ++ [r]) := ⟨⟨[], by rw [List.append_nil]; exact hL.last hi⟩, fun x hx => by
        rcases List.mem_append.1 hx with hx | hx
        · exact hps x hx
        · rw [List.mem_singleton.1 hx]; exact hrs⟩
      have HP := Lib.hid hp9
      have hx : Calls Tryz.prog 95 #[.string r, .string sep] wr fun e w' => e = .returned (.int .i64 (-1)) ∧ w' = wr := (Tryz.strings_Index r sep m wr (by omega) hm).mono fun e w' h => ⟨by rw [h.1]; unfold bL at hi; rw [hi], h.2⟩
      obtain ⟨fn, tmps, assign, body, hy, hYR⟩ := hY pre r wr hp9 hj
      clear hi hge hL hm hMr hps hp9
      gi_wp2_with (refine ⟨trivial, fun _ => by omega, ?_⟩; gi_at_call 95; refine (callsIn_wide.2 hx).mono ?_; rintro e w' ⟨rfl, rfl⟩)
      refine ⟨fun _ => by omega, hYR.mono ?_⟩
      rintro e W3 (⟨rfl, hJ3, hk3⟩ | ⟨rfl, hJx3⟩)
      · gi_wp2
        go_end0
        exact ⟨⟨_, rfl⟩, .inl ⟨_, HL.out, hJ3⟩⟩
      · gi_wp2
        go_end0
        exact ⟨⟨_, rfl⟩, .inr ⟨_, HP.out, hJx3⟩⟩
    · obtain ⟨o, ho⟩ : ∃ o : Nat, Lib.index (bL r) (bL sep) = o := ⟨(Lib.index (bL r) (bL sep)).toNat, by omega⟩
      have hroom := Lib.index_room (bL r) (bL sep) (by omega)
      have hz : r.size = (bL r).length := Lib.size_eq r
      have hz2 : sep.size = (bL sep).length := Lib.size_eq sep
      have hor : o + sep.size ≤ r.size := by omega
      have HL := Lib.hid (hL.next HSP.out ho)
      have hps9 : ∀ x ∈ pre ++ [r.extract 0 o], x.size ≤ s.size := fun x hx => by
        rcases List.mem_append.1 hx with hx | hx
        · exact hps x hx
        · rw [List.mem_singleton.1 hx, ByteArray.size_extract]; omega
      have hp9 : Pre sep s (pre ++ [r.extract 0 o]) := ⟨⟨_, hL.next HSP.out ho⟩, hps9⟩
      have HP := Lib.hid hp9
      have hx : Calls Tryz.prog 95 #[.string r, .string sep] wr fun e w' => e = .returned (.int .i64 (o : Int)) ∧ w' = wr := (Tryz.strings_Index r sep m wr (by omega) hm).mono fun e w' h => ⟨by rw [h.1]; unfold bL at ho; rw [ho], h.2⟩
      obtain ⟨fn, tmps, assign, body, hy, hYR⟩ := hY pre (r.extract 0 o) wr hp9 hj
      have hor1 : o ≤ r.size := by omega
      clear hi hge hL ho hroom hz hz2 hm hMr hps hps9 hp9
      gi_wp2_with (refine ⟨trivial, fun _ => by omega, ?_⟩; gi_at_call 95; refine (callsIn_wide.2 hx).mono ?_; rintro e w' ⟨rfl, rfl⟩)
      refine ⟨fun _ => by omega, hYR.mono ?_⟩
      rintro e W3 (⟨rfl, hJ3, hk3⟩ | ⟨rfl, hJx3⟩)
      · have hR3 := hR.kept hk3
        have HM3 := Lib.hid (HMr.out.kept hk3)
        clear c0 c1 c2 fz
        have c0 := hR3.c0
        have c1 := hR3.c1
        have fz := hR3.fz
        gi_wp2
        go_roundw
        case rel => exact ⟨_, _, hR3.set _, HM3.out.set hB _, hJs _ _ _ hJ3, HL.out, by simp [ByteArray.size_extract]; omega, HP.out.2⟩
        case measure => rw [lz_of hR, lz_of (hR3.set _)]; simp [ByteArray.size_extract]; omega
      · gi_wp2
        refine bodyPost_ret (results_none rfl _ _ _) rfl ?_
        exact ⟨⟨_, rfl⟩, .inr ⟨_, HP.out, hJx3⟩⟩

theorem seq_any (s sep : ByteArray) (w : World) : Calls Tryz.prog 48 #[.string s, .string sep] w fun e w' =>
    e = .returned (.func (.func 102) #[] #[.pointer (some ⟨w.heap.size + 1, 0, none⟩), .pointer (some ⟨w.heap.size, 0, none⟩), .pointer (some ⟨w.heap.size + 2, 0, none⟩)]) ∧
      w' = ((w.alloc (.cells #[.string s] 9)).alloc (.cells #[.string sep] 9)).alloc (.cells #[.int .i64 0] 3) := by
  go_enter Tryz.func48, Tryz.ntmps48
  go_wp2_with go_in
  go_ret
  exact ⟨rfl, rfl⟩
theorem own3_new (s sep : ByteArray) (w : World) : Own3 (((w.alloc (.cells #[.string s] 9)).alloc (.cells #[.string sep] 9)).alloc (.cells #[.int .i64 0] 3)) w.heap.size sep s := by
  have z1 : (w.alloc (.cells #[.string s] 9)).heap.size = w.heap.size + 1 := World.size_alloc _ _
  have z2 : ((w.alloc (.cells #[.string s] 9)).alloc (.cells #[.string sep] 9)).heap.size = w.heap.size + 2 := by rw [World.size_alloc, z1]
  exact ⟨by rw [World.cell?_alloc_past _ _ _ (by omega), World.cell?_alloc_past _ _ _ (by omega), World.cell?_alloc_at _ _ _ _ rfl]; rfl,
    by rw [World.frozen?_alloc_past _ _ _ (by omega), World.frozen?_alloc_past _ _ _ (by omega), World.frozen?_alloc_at _ _ _ _ rfl],
    by rw [World.cell?_alloc_past _ _ _ (by omega), World.cell?_alloc_at _ _ _ _ z1.symm]; rfl,
    by rw [World.cell?_alloc_at _ _ _ _ z2.symm]; rfl⟩

end Sps
end Go.Proofs.YtflhmoelenmomaaGreatDoor
