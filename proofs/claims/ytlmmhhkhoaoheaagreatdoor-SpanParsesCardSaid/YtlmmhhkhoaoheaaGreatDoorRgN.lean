/-
  A range over a function whose iterator stores into a cell of its own, within a round of another one; and the outer one, whose body is told of its own loop's record. No program in sight.
-/
import Derived.Test.YtlmmhhkhoaoheaaGreatDoorRg
import Derived.RangeFuncNested
namespace Go.Proofs.YtlmmhhkhoaoheaaGreatDoor
open Go.RowKit
namespace Rg
variable {F : Fence} {n : Nat} {P : Program}

theorem SeqC.inRound {α : Type} {g : Nat} {lb : Array Value} {encs : α → Array Value} {c : Addr} {Kp : World → World → Prop} {S Sp : List α → Prop} {w : World} (l : Nat)
    (h : SeqC F n P g lb encs c Kp S Sp w) : SeqC (F.inRound l) n P g lb encs c Kp S Sp w := h

/-- the outer law, its body told of its own record -/
theorem wpIn_rangeB {α : Type} {g : Operand} {ps : Array Tmp} {assign body : Code} {Q : Exit → Act → World → Prop} {a : Act} {w : World}
    (hro : F.round = none) (h1 : 1 ≤ n) {gf : Nat} {lb : Array Value} (hg : a.eval g = .func (.func gf) #[] lb) (hFg : F.fn gf) (eg : ∀ args w, (callFunc gf args).run P w = .ok (.enter gf args) w)
    {encs : α → Array Value} {c : Addr} {Kp : World → World → Prop} {S Sp : List α → Prop} {w0 : World} (hseq : SeqC F (n - 1) P gf lb encs c Kp S Sp w0)
    (hKt : ∀ {A B C : World}, Kp A B → Kp B C → Kp A C) (hKb : ∀ (W : World) (l : Nat) (o o' : Obj), w.heap.size ≤ l → W.heap[l]? = some o → o.isCells = false → Kp W (W.putObj l o')) (hb0 : Below w0.heap.size w0 w) (hc : c.block < w.heap.size) (hps : ∀ x, (encs x).size = ps.size)
    (I : List α → World → Prop) (Ix : Code → List α → World → Prop) (hI : OwnFrom w.heap.size I) (hIc : ∀ s X v, I s X → I s (X.setCell c v)) (hIx : ∀ k, OwnFrom w.heap.size (Ix k)) (h0 : I [] w) (a₁ : α → Act)
    (hassign : ∀ (l : Nat) (x : α) (W : World) (K : Act → World → Prop), K (a₁ x) W →
      assign.wpIn (F.inRound l) (n - 1 - 1) P (Exit.then K (fun _ _ _ => False)) { tmps := (ps.zip (encs x)).foldl (fun t (p, v) => t.setIfInBounds p v) a.tmps, defers := [] } W)
    (hbody : ∀ (l : Nat) (pre : List α) (x : α) (W : World), w.heap.size ≤ l → (∃ r, W.heap[l]? = some (.loop r)) → Sp (pre ++ [x]) → I pre W → body.wpIn (F.inRound l) (n - 1 - 1) P (ownPostG w.heap.size Kp I Ix (pre ++ [x]) W) (a₁ x) W)
    (hdone : ∀ (xs : List α) (W : World), S xs → I xs W → W.heap[w.heap.size]? = some (.deferred (some [])) → Q .normal { a with defers := { target := .collected w.heap.size, args := #[] } :: a.defers } W)
    (hstop : ∀ (k : Code) (pre : List α) (W : World), Sp pre → Ix k pre W → W.heap[w.heap.size]? = some (.deferred (some [])) → k.wpIn F n P Q { a with defers := { target := .collected w.heap.size, args := #[] } :: a.defers } W) :
    (Code.rangeFunc g ps assign body).wpIn F n P Q a w := by
  refine wpIn_rangeFunc ?_
  intro fn hfn
  rw [hro]
  generalize hD : w.heap.size = D at *
  obtain ⟨rec, hrec⟩ : ∃ rec : LoopState → Option Code → Loop, rec = fun st pe => { state := st, pending := pe, fn, tmps := a.tmps, params := ps, assign, body, defers := D } := ⟨_, rfl⟩
  obtain ⟨W1, hW1⟩ : ∃ W1, (w.alloc (.deferred (some []))).alloc (.loop (rec .ready none)) = W1 := ⟨_, rfl⟩
  have hs1 : W1.heap.size = D + 2 := by rw [← hW1]; simp [hD]
  have hB1 : Bk rec D .ready none W1 := by
    rw [← hW1, ← hD]
    refine ⟨?_, ?_⟩
    · have h := World.alloc_heap_new (w.alloc (.deferred (some []))) (.loop (rec .ready none))
      rwa [World.size_alloc] at h
    · exact (Below.heap_alloc _ _ _ (by simp)).trans (World.alloc_heap_new w _)
  have hI1 : I [] W1 := by rw [← hW1]; exact hI.alloc _ (hI.alloc _ h0)
  have hb1 : Below w0.heap.size w0 W1 := by
    rw [← hW1]
    exact hb0.trans ((((Below.refl _ w).alloc (Nat.le_refl _) _).alloc (by simp) _).mono hb0.size)
  refine ⟨D + 1, [{ target := .collected D, args := #[] }], W1, { target := .fn (.func gf) lb, args := #[.func (.yield (D + 1)) #[] #[]] }, W1, gf, #[.func (.yield (D + 1)) #[] #[]] ++ lb, W1, ?_, ?_, ?_, ?_, fun _ => h1, ?_⟩
  · rw [← hW1, hrec, ← hD]
    exact run_enterLoop_outer _ _ _ _ _
  · simp only [resolve, hg]
    simp [go_sem]
  · intro f' hf'
    simp [Target.leads] at hf'
    subst hf'
    exact hFg
  · simp [invoke, go_sem, eg]
  · refine (hseq (D + 1) (fun pre W => I pre W ∧ Bk rec D .ready none W) (fun pre W => ∃ k, Ix k pre W ∧ Bk rec D .done (some k) W) W1 hb1
      (fun s A B row hs hg' hr => ⟨hI s A B row hs.1 hg' (fun r e => by
        obtain ⟨hB, o, ho, hw⟩ := hr r e
        exact ⟨by omega, o, ho, Obj.not_cells_of_walk hw⟩), hs.2.grown hg' (fun r e => (hr r e).2)⟩)
      (fun s X v hs => ⟨hIc s X v hs.1, hs.2.stored hc v⟩) ?_ ⟨hI1, hB1⟩).mono ?_
    · rintro pre x W hsp ⟨hi, hk⟩
      have hy := run_yield (P := P) (args := encs x) hk.1 (by rw [hrec]; exact hps x)
      refine ⟨fn, (ps.zip (encs x)).foldl (fun t (p, v) => t.setIfInBounds p v) a.tmps, assign, body, by rw [hrec] at hy; exact hy, roundIn_of_wpIn hfn (hassign _ x W _ ⟨W.putObj (D + 1) (.loop (rec .busy none)), ?_, ?_⟩)⟩
      · have h := run_beginRound (P := P) hk.1 (by rw [hrec])
        rw [hrec] at h ⊢
        exact h
      have hk2 : Bk rec D .busy none (W.putObj (D + 1) (.loop (rec .busy none))) := hk.turned .busy none
      have hK2 : Kp W (W.putObj (D + 1) (.loop (rec .busy none))) := hKb _ _ _ _ (by omega) hk.1 rfl
      refine wpIn_mono (hbody _ pre x _ (Nat.le_succ _) ⟨_, hk2.1⟩ hsp (hI.putObj _ hi (by omega) hk.1 rfl)) ?_
      have fin : ∀ (jump : Option Code) (W3 : World), KeepsFrom D (W.putObj (D + 1) (.loop (rec .busy none))) W3 →
          Bk rec D .busy none W3 ∧ ∃ W4, W4 = W3.putObj (D + 1) (.loop (rec (if jump.isNone then .ready else .done) jump)) ∧ (Instr.endRound (D + 1) jump).run P W3 = .ok (.bool jump.isNone) W4 ∧ Bk rec D (if jump.isNone then .ready else .done) jump W4 := fun jump W3 hk3 => by
        have h3 := hk2.kept hk3
        refine ⟨h3, _, rfl, ?_, h3.turned _ jump⟩
        have h := run_endRound (P := P) jump h3.1
        rw [hrec] at h ⊢
        exact h
      rintro e a3 W3 hp
      cases e with
      | normal =>
        obtain ⟨hk3, hkp, hi3⟩ := hp
        obtain ⟨h3, W4, hW4, hr, h4⟩ := fin none W3 hk3
        refine ⟨_, _, hr, .inl ⟨rfl, ⟨?_, h4⟩, ?_⟩⟩
        · rw [hW4]; exact hI.putObj _ hi3 (by omega) h3.1 rfl
        · rw [hW4]; exact hKt (hKt hK2 hkp) (hKb _ _ _ _ (by omega) h3.1 rfl)
      | ret =>
        obtain ⟨hk3, hi3⟩ := hp
        obtain ⟨h3, W4, hW4, hr, h4⟩ := fin (some .ret) W3 hk3
        exact ⟨_, _, hr, .inr ⟨rfl, .ret, by rw [hW4]; exact (hIx _).putObj _ hi3 (by omega) h3.1 rfl, h4⟩⟩
      | exit id =>
        obtain ⟨hk3, hi3⟩ := hp
        obtain ⟨h3, W4, hW4, hr, h4⟩ := fin (some (.exit id)) W3 hk3
        exact ⟨_, _, hr, .inr ⟨rfl, .exit id, by rw [hW4]; exact (hIx _).putObj _ hi3 (by omega) h3.1 rfl, h4⟩⟩
      | goto t =>
        obtain ⟨hk3, hi3⟩ := hp
        obtain ⟨h3, W4, hW4, hr, h4⟩ := fin (some (.goto t)) W3 hk3
        exact ⟨_, _, hr, .inr ⟨rfl, .goto t, by rw [hW4]; exact (hIx _).putObj _ hi3 (by omega) h3.1 rfl, h4⟩⟩
      | panic ch => exact hp.elim
      | outgrown => exact hp.elim
    · rintro e W2 ⟨⟨v, rfl⟩, (⟨xs, hS, hi, hk⟩ | ⟨pre, hSp, k, hi, hk⟩)⟩
      · have h := run_endLoop (P := P) hk.1 (by rw [hrec]; simp)
        refine ⟨none, W2.putObj (D + 1) (.loop (rec .exhausted none)), by rw [hrec] at h ⊢; exact h, hdone xs _ hS (hI.putObj _ hi (by omega) hk.1 rfl) ((World.putObj_heap_other (by omega)).trans hk.2)⟩
      · have h := run_endLoop (P := P) hk.1 (by rw [hrec]; simp)
        refine ⟨some k, W2.putObj (D + 1) (.loop (rec .exhausted (some k))), by rw [hrec] at h ⊢; exact h, hstop k pre _ hSp ((hIx k).putObj _ hi (by omega) hk.1 rfl) ((World.putObj_heap_other (by omega)).trans hk.2)⟩

/-- the inner law: within a round of loop l₀ -/
theorem wpIn_rangeN {α : Type} {g : Operand} {ps : Array Tmp} {assign body : Code} {Q : Exit → Act → World → Prop} {a : Act} {w : World}
    {l₀ : Nat} {r₀ : Loop} (hro : F.round = some l₀) (hl₀ : w.heap[l₀]? = some (.loop r₀)) (h1 : 1 ≤ n) {gf : Nat} {lb : Array Value} (hg : a.eval g = .func (.func gf) #[] lb) (hFg : F.fn gf) (eg : ∀ args w, (callFunc gf args).run P w = .ok (.enter gf args) w)
    {encs : α → Array Value} {c : Addr} {Kp : World → World → Prop} {S Sp : List α → Prop} {w0 : World} (hseq : SeqC F (n - 1) P gf lb encs c Kp S Sp w0)
    (hKt : ∀ {A B C : World}, Kp A B → Kp B C → Kp A C) (hKb : ∀ (W : World) (l : Nat) (o o' : Obj), w.heap.size ≤ l → W.heap[l]? = some o → o.isCells = false → Kp W (W.putObj l o')) (hb0 : Below w0.heap.size w0 w) (hc : c.block < w.heap.size) (hps : ∀ x, (encs x).size = ps.size)
    (I : List α → World → Prop) (Ix : Code → List α → World → Prop) (hI : OwnFrom w.heap.size I) (hIc : ∀ s X v, I s X → I s (X.setCell c v)) (hIx : ∀ k, OwnFrom w.heap.size (Ix k)) (h0 : I [] w) (a₁ : α → Act)
    (hassign : ∀ (l : Nat) (x : α) (W : World) (K : Act → World → Prop), K (a₁ x) W →
      assign.wpIn (F.inRound l) (n - 1 - 1) P (Exit.then K (fun _ _ _ => False)) { tmps := (ps.zip (encs x)).foldl (fun t (p, v) => t.setIfInBounds p v) a.tmps, defers := [] } W)
    (hbody : ∀ (l : Nat) (pre : List α) (x : α) (W : World), Sp (pre ++ [x]) → I pre W → body.wpIn (F.inRound l) (n - 1 - 1) P (ownPostG w.heap.size Kp I Ix (pre ++ [x]) W) (a₁ x) W)
    (hdone : ∀ (xs : List α) (W : World), S xs → I xs W → Q .normal a W)
    (hstop : ∀ (k : Code) (pre : List α) (W : World), Sp pre → Ix k pre W → k.wpIn F n P Q a W) :
    (Code.rangeFunc g ps assign body).wpIn F n P Q a w := by
  refine wpIn_rangeFunc ?_
  intro fn hfn
  rw [hro]
  generalize hD : w.heap.size = D at *
  obtain ⟨rec, hrec⟩ : ∃ rec : LoopState → Option Code → Loop, rec = fun st pe => { state := st, pending := pe, fn, tmps := a.tmps, params := ps, assign, body, defers := r₀.defers } := ⟨_, rfl⟩
  obtain ⟨W1, hW1⟩ : ∃ W1, w.alloc (.loop (rec .ready none)) = W1 := ⟨_, rfl⟩
  have hs1 : W1.heap.size = D + 1 := by rw [← hW1]; simp [hD]
  have hB1 : W1.heap[D]? = some (.loop (rec .ready none)) := by rw [← hW1, ← hD]; exact World.alloc_heap_new w _
  have hI1 : I [] W1 := by rw [← hW1]; exact hI.alloc _ h0
  have hb1 : Below w0.heap.size w0 W1 := by
    rw [← hW1]
    exact hb0.trans (((Below.refl _ w).alloc (Nat.le_refl _) _).mono hb0.size)
  refine ⟨D, [], W1, { target := .fn (.func gf) lb, args := #[.func (.yield D) #[] #[]] }, W1, gf, #[.func (.yield D) #[] #[]] ++ lb, W1, ?_, ?_, ?_, ?_, fun _ => h1, ?_⟩
  · rw [← hW1, hrec, ← hD]
    exact run_enterLoop_inner hl₀ _ _ _ _ _
  · simp only [resolve, hg]
    simp [go_sem]
  · intro f' hf'
    simp [Target.leads] at hf'
    subst hf'
    exact hFg
  · simp [invoke, go_sem, eg]
  · have turn : ∀ {X : World} {o : Obj} (o' : Obj), X.heap[D]? = some o → (X.putObj D o').heap[D]? = some o' := fun o' h => World.putObj_heap_same (Array.getElem?_eq_some_iff.1 h).1
    refine (hseq D (fun pre W => I pre W ∧ W.heap[D]? = some (.loop (rec .ready none))) (fun pre W => ∃ k, Ix k pre W ∧ W.heap[D]? = some (.loop (rec .done (some k)))) W1 hb1
      (fun s A B row hs hg' hr => ⟨hI s A B row hs.1 hg' (fun r e => by
        obtain ⟨hB, o, ho, hw⟩ := hr r e
        exact ⟨by omega, o, ho, Obj.not_cells_of_walk hw⟩), (grownBy_keeps hg' (fun r e => (hr r e).2) hs.2 rfl).trans hs.2⟩)
      (fun s X v hs => ⟨hIc s X v hs.1, (Below.heap_setCell X c v _ (by omega)).trans hs.2⟩) ?_ ⟨hI1, hB1⟩).mono ?_
    · rintro pre x W hsp ⟨hi, hk⟩
      have hy := run_yield (P := P) (args := encs x) hk (by rw [hrec]; exact hps x)
      refine ⟨fn, (ps.zip (encs x)).foldl (fun t (p, v) => t.setIfInBounds p v) a.tmps, assign, body, by rw [hrec] at hy; exact hy, roundIn_of_wpIn hfn (hassign _ x W _ ⟨W.putObj D (.loop (rec .busy none)), ?_, ?_⟩)⟩
      · have h := run_beginRound (P := P) hk (by rw [hrec])
        rw [hrec] at h ⊢
        exact h
      have hk2 : (W.putObj D (.loop (rec .busy none))).heap[D]? = some (.loop (rec .busy none)) := turn _ hk
      have hK2 : Kp W (W.putObj D (.loop (rec .busy none))) := hKb _ _ _ _ (Nat.le_refl _) hk rfl
      refine wpIn_mono (hbody _ pre x _ hsp (hI.putObj _ hi (Nat.le_refl _) hk rfl)) ?_
      have fin : ∀ (jump : Option Code) (W3 : World), KeepsFrom D (W.putObj D (.loop (rec .busy none))) W3 →
          W3.heap[D]? = some (.loop (rec .busy none)) ∧ ∃ W4, W4 = W3.putObj D (.loop (rec (if jump.isNone then .ready else .done) jump)) ∧ (Instr.endRound D jump).run P W3 = .ok (.bool jump.isNone) W4 ∧ W4.heap[D]? = some (.loop (rec (if jump.isNone then .ready else .done) jump)) := fun jump W3 hk3 => by
        have h3 := hk3.same _ _ (Nat.le_refl _) hk2 rfl
        refine ⟨h3, _, rfl, ?_, turn _ h3⟩
        have h := run_endRound (P := P) jump h3
        rw [hrec] at h ⊢
        exact h
      rintro e a3 W3 hp
      cases e with
      | normal =>
        obtain ⟨hk3, hkp, hi3⟩ := hp
        obtain ⟨h3, W4, hW4, hr, h4⟩ := fin none W3 hk3
        refine ⟨_, _, hr, .inl ⟨rfl, ⟨?_, h4⟩, ?_⟩⟩
        · rw [hW4]; exact hI.putObj _ hi3 (Nat.le_refl _) h3 rfl
        · rw [hW4]; exact hKt (hKt hK2 hkp) (hKb _ _ _ _ (Nat.le_refl _) h3 rfl)
      | ret =>
        obtain ⟨hk3, hi3⟩ := hp
        obtain ⟨h3, W4, hW4, hr, h4⟩ := fin (some .ret) W3 hk3
        exact ⟨_, _, hr, .inr ⟨rfl, .ret, by rw [hW4]; exact (hIx _).putObj _ hi3 (Nat.le_refl _) h3 rfl, h4⟩⟩
      | exit id =>
        obtain ⟨hk3, hi3⟩ := hp
        obtain ⟨h3, W4, hW4, hr, h4⟩ := fin (some (.exit id)) W3 hk3
        exact ⟨_, _, hr, .inr ⟨rfl, .exit id, by rw [hW4]; exact (hIx _).putObj _ hi3 (Nat.le_refl _) h3 rfl, h4⟩⟩
      | goto t =>
        obtain ⟨hk3, hi3⟩ := hp
        obtain ⟨h3, W4, hW4, hr, h4⟩ := fin (some (.goto t)) W3 hk3
        exact ⟨_, _, hr, .inr ⟨rfl, .goto t, by rw [hW4]; exact (hIx _).putObj _ hi3 (Nat.le_refl _) h3 rfl, h4⟩⟩
      | panic ch => exact hp.elim
      | outgrown => exact hp.elim
    · rintro e W2 ⟨⟨v, rfl⟩, (⟨xs, hS, hi, hk⟩ | ⟨pre, hSp, k, hi, hk⟩)⟩
      · have h := run_endLoop (P := P) hk (by rw [hrec]; simp)
        exact ⟨none, W2.putObj D (.loop (rec .exhausted none)), by rw [hrec] at h ⊢; exact h, hdone xs _ hS (hI.putObj _ hi (Nat.le_refl _) hk rfl)⟩
      · have h := run_endLoop (P := P) hk (by rw [hrec]; simp)
        exact ⟨some k, W2.putObj D (.loop (rec .exhausted (some k))), by rw [hrec] at h ⊢; exact h, hstop k pre _ hSp ((hIx k).putObj _ hi (Nat.le_refl _) hk rfl)⟩
end Rg
end Go.Proofs.YtlmmhhkhoaoheaaGreatDoor
