/-
  The reference's reading: its state; fail, step, has, want.
-/
import Derived.Test.YtcigggffaofkhaaRrD
import Derived.Test.YtcigggffaofkhaaRcW
import Derived.Test.YtcigggffaofkhaaPlan
namespace Go.Proofs.Ytcigggffaofkhaa
open Go.RowKit
namespace Rc

/-- the reading's block: its text, its token, its fault and place -/
structure RX (W : World) (b : Nat) (s : ByteArray) (k : Int) (σ : ByteArray) (p f fl pl : Int) : Prop where
  lt : b < W.heap.size
  c0 : W.cell? ⟨b, 0, none⟩ = some (.string s)
  c1 : W.cell? ⟨b, 1, none⟩ = some (.int .i64 k)
  c2 : W.cell? ⟨b, 2, none⟩ = some (.string σ)
  c3 : W.cell? ⟨b, 3, none⟩ = some (.int .i64 p)
  c4 : W.cell? ⟨b, 4, none⟩ = some (.int .i64 f)
  c5 : W.cell? ⟨b, 5, none⟩ = some (.int .i64 fl)
  c6 : W.cell? ⟨b, 6, none⟩ = some (.int .i64 pl)
  fz : ∀ j, W.frozen? ⟨b, j, none⟩ = false
section
variable {W W' : World} {b : Nat} {s : ByteArray} {k : Int} {σ : ByteArray} {p f fl pl : Int}
theorem RX.block (h : RX W b s k σ p f fl pl) (hs : W.heap.size ≤ W'.heap.size) (hb : W'.heap[b]? = W.heap[b]?) : RX W' b s k σ p f fl pl :=
  ⟨Nat.lt_of_lt_of_le h.lt hs, (World.cell?_of_block hb).trans h.c0, (World.cell?_of_block hb).trans h.c1, (World.cell?_of_block hb).trans h.c2, (World.cell?_of_block hb).trans h.c3, (World.cell?_of_block hb).trans h.c4, (World.cell?_of_block hb).trans h.c5, (World.cell?_of_block hb).trans h.c6, fun j => (World.frozen?_of_block hb).trans (h.fz j)⟩
theorem RX.keep (h : RX W b s k σ p f fl pl) (hb : Below W.heap.size W W') : RX W' b s k σ p f fl pl := h.block hb.size (hb.block b h.lt)
theorem RX.drewN (h : RX W b s k σ p f fl pl) (n : Nat) : RX (W.drewN n) b s k σ p f fl pl := h.block (Nat.le_refl _) rfl
theorem cell_at {W : World} {g i j : Nat} {v u : Value} (hne : j ≠ i) (h : W.cell? ⟨g, j, none⟩ = some v) : (W.setCell ⟨g, i, none⟩ u).cell? ⟨g, j, none⟩ = some v := by
  rw [World.cell?_setCell_other _ _ _ _ (by first | (simp; done) | (simp; omega))]
  exact h
theorem RX.tok (h : RX W b s k σ p f fl pl) (k' : Int) (σ' : ByteArray) (p' f' : Int) : RX ((((W.setCell ⟨b, 1, none⟩ (.int .i64 k')).setCell ⟨b, 2, none⟩ (.string σ')).setCell ⟨b, 3, none⟩ (.int .i64 p')).setCell ⟨b, 4, none⟩ (.int .i64 f')) b s k' σ' p' f' fl pl := by
  refine ⟨by simpa [World.setCell] using h.lt, ?_, ?_, ?_, ?_, ?_, ?_, ?_, fun j => ?_⟩
  · exact cell_at (by decide) (cell_at (by decide) (cell_at (by decide) (cell_at (by decide) h.c0)))
  · exact cell_at (by decide) (cell_at (by decide) (cell_at (by decide) (World.cell?_setCell_same _ _ _ h.c1)))
  · exact cell_at (by decide) (cell_at (by decide) (World.cell?_setCell_same _ _ _ (cell_at (by decide) h.c2)))
  · exact cell_at (by decide) (World.cell?_setCell_same _ _ _ (cell_at (by decide) (cell_at (by decide) h.c3)))
  · exact World.cell?_setCell_same _ _ _ (cell_at (by decide) (cell_at (by decide) (cell_at (by decide) h.c4)))
  · exact cell_at (by decide) (cell_at (by decide) (cell_at (by decide) (cell_at (by decide) h.c5)))
  · exact cell_at (by decide) (cell_at (by decide) (cell_at (by decide) (cell_at (by decide) h.c6)))
  · rw [World.frozen?_setCell, World.frozen?_setCell, World.frozen?_setCell, World.frozen?_setCell]; exact h.fz j
theorem RX.flt (h : RX W b s k σ p f fl pl) (fl' pl' : Int) : RX ((W.setCell ⟨b, 5, none⟩ (.int .i64 fl')).setCell ⟨b, 6, none⟩ (.int .i64 pl')) b s k σ p f fl' pl' := by
  refine ⟨by simpa [World.setCell] using h.lt, ?_, ?_, ?_, ?_, ?_, ?_, ?_, fun j => ?_⟩
  · exact cell_at (by decide) (cell_at (by decide) h.c0)
  · exact cell_at (by decide) (cell_at (by decide) h.c1)
  · exact cell_at (by decide) (cell_at (by decide) h.c2)
  · exact cell_at (by decide) (cell_at (by decide) h.c3)
  · exact cell_at (by decide) (cell_at (by decide) h.c4)
  · exact cell_at (by decide) (World.cell?_setCell_same _ _ _ h.c5)
  · exact World.cell?_setCell_same _ _ _ (cell_at (by decide) h.c6)
  · rw [World.frozen?_setCell, World.frozen?_setCell]; exact h.fz j
end
/-- the reading's state: a token that stands next, or the first fault -/
def RS (W : World) (b : Nat) (s : ByteArray) : Res Unit → Prop
  | .ok _ t => (∃ pl, RX W b s t.kind t.s t.pl t.fin 0 pl) ∧ TV s t ∧ t.s.size ≤ 4096
  | .bad q e => (∃ k σ p f, RX W b s k σ p f e q ∧ σ.size ≤ 10000) ∧ e ≠ 0
theorem RS.block {W W' : World} {b : Nat} {s : ByteArray} {st : Res Unit} (h : RS W b s st) (hs : W.heap.size ≤ W'.heap.size) (hb : W'.heap[b]? = W.heap[b]?) : RS W' b s st := by
  cases st with
  | ok u t =>
    obtain ⟨⟨pl, h1⟩, h2⟩ := h
    exact ⟨⟨pl, h1.block hs hb⟩, h2⟩
  | bad q e =>
    obtain ⟨⟨k, σ, p, f, h1, h3⟩, h2⟩ := h
    exact ⟨⟨k, σ, p, f, h1.block hs hb, h3⟩, h2⟩
theorem RS.lt {W : World} {b : Nat} {s : ByteArray} {st : Res Unit} (h : RS W b s st) : b < W.heap.size := by
  cases st with
  | ok u t =>
    obtain ⟨⟨pl, h1⟩, h2⟩ := h
    exact h1.lt
  | bad q e =>
    obtain ⟨⟨k, σ, p, f, h1, h3⟩, h2⟩ := h
    exact h1.lt
theorem RS.keep {W W' : World} {b : Nat} {s : ByteArray} {st : Res Unit} (h : RS W b s st) (hb : Below W.heap.size W W') : RS W' b s st := h.block hb.size (hb.block b h.lt)
theorem RS.drewN {W : World} {b : Nat} {s : ByteArray} {st : Res Unit} (h : RS W b s st) (n : Nat) : RS (W.drewN n) b s st := h.block (Nat.le_refl _) rfl
theorem strF_len : ∀ (f : Nat) (l : List UInt8) (x : List UInt8) (n : Nat), strF f l = some (x, n) → x.length ≤ l.length
  | 0, l, x, n, h => by simp [strF] at h
  | f + 1, [], x, n, h => by simp [strF] at h
  | f + 1, c :: l, x, n, h => by
    unfold strF at h
    split at h
    · simp at h; obtain ⟨rfl, -⟩ := h; simp
    · split at h
      · cases h
      · split at h
        · obtain ⟨⟨y, k⟩, hy, he⟩ := Option.map_eq_some_iff.1 h
          have := strF_len f l y k hy
          simp at he
          obtain ⟨rfl, -⟩ := he
          simp only [List.length_cons]
          omega
        · match l, h with
          | a :: b :: r, h =>
            simp only at h
            split at h
            · cases h
            · obtain ⟨⟨y, k⟩, hy, he⟩ := Option.map_eq_some_iff.1 h
              have := strF_len f r y k hy
              simp at he
              obtain ⟨rfl, -⟩ := he
              simp only [List.length_cons]
              omega
          | [a], h => simp at h
          | [], h => simp at h
theorem tokP_small {s : List UInt8} {p : Nat} {t : Tk} (h : tokP s p = .ok t) : t.s.size ≤ s.length := by
  unfold tokP at h
  cases hd : s.drop p with
  | nil =>
    rw [hd] at h
    simp only [RT.ok.injEq] at h
    subst h
    exact Nat.zero_le _
  | cons c l =>
    have hl : l.length + 1 = s.length - p := by
      have := congrArg List.length hd
      simp only [List.length_drop, List.length_cons] at this
      omega
    rw [hd] at h
    simp only at h
    split at h
    · split at h
      · rename_i x n hx
        simp only [RT.ok.injEq] at h
        subst h
        have := strF_len _ _ _ _ hx
        show x.toArray.size ≤ s.length
        simp only [List.size_toArray]
        omega
      · cases h
    · split at h
      · simp only [RT.ok.injEq] at h
        subst h
        show 1 ≤ s.length
        omega
      · split at h
        · cases h
        · simp only [RT.ok.injEq] at h
          subst h
          show ((c :: l).take (wordN (c :: l))).toArray.size ≤ s.length
          simp only [List.size_toArray, List.length_take, List.length_cons]
          omega
theorem tok_small {s : List UInt8} {p : Nat} {t : Tk} (h : tokAt s p = .ok t) : t.s.size ≤ s.length := tokP_small h
/-- what a step of the reading does -/
structure RF (W : World) (b : Nat) (s : ByteArray) (st : Res Unit) (W' : World) : Prop where
  fq : Fq W W' b
  rs : RS W' b s st
theorem rfail_bad (W : World) (b : Nat) (s : ByteArray) (q : Nat) (e0 : Int) (p e : Int) (h : RS W b s (.bad q e0)) :
    Calls Try.prog 34 #[.pointer (some ⟨b, 0, none⟩), .int .i64 p, .int .i64 e] W fun en W' => en = .returned (.tuple #[]) ∧ RF W b s (.bad q e0) W' := by
  obtain ⟨⟨k, σ, p', f, hX, h3⟩, h2⟩ := id h
  have H := Lib.hid h
  obtain ⟨lt, c0, c1, c2, c3, c4, c5, c6, fz⟩ := hX
  have hb := Fq.refl W b
  have k1 : (e0 == 0) = false := beq_eq_false_iff_ne.2 h2
  clear h h2 h3
  go_enter Try.func34, Try.ntmps34
  go_wp2_with fail
  go_end0
  exact ⟨rfl, hb, H.out⟩
theorem rfail_ok (W : World) (b : Nat) (s : ByteArray) (t : Tk) (p : Nat) (e : Int) (he : e ≠ 0) (h : RS W b s (.ok () t)) :
    Calls Try.prog 34 #[.pointer (some ⟨b, 0, none⟩), .int .i64 (p : Int), .int .i64 e] W fun en W' => en = .returned (.tuple #[]) ∧ RF W b s (.bad p e) W' := by
  obtain ⟨⟨pl, hX⟩, hv⟩ := id h
  have hN := hX.flt e p
  obtain ⟨lt, c0, c1, c2, c3, c4, c5, c6, fz⟩ := hX
  have hb := Fq.refl W b
  clear h
  go_enter Try.func34, Try.ntmps34
  go_wp2_with fail
  go_end0
  exact ⟨rfl, (hb.set _ _).set _ _, ⟨_, _, _, _, hN, by omega⟩, he⟩
/-- a variable's block: new since W, its cells -/
structure VB (W w : World) (g : Nat) (vs : List Value) : Prop where
  lo : W.heap.size ≤ g
  lt : g < w.heap.size
  below : Below W.heap.size W w
  cs : ∀ j v, vs[j]? = some v → w.cell? ⟨g, j, none⟩ = some v
  fz : ∀ j, w.frozen? ⟨g, j, none⟩ = false
section
variable {W w w1 : World} {g : Nat} {vs : List Value}
theorem VB.made (h : Below W.heap.size W w) (vs : List Value) (t : TypeId) : VB W (w.alloc (.cells vs.toArray t)) w.heap.size vs := by
  have hn := heap_alloc_new w (.cells vs.toArray t)
  refine ⟨h.size, by simp, h.alloc h.size _, fun j v hv => ?_, fun j => ?_⟩
  · simp only [World.cell?, hn]
    simpa using hv
  · simp only [World.frozen?, hn]
    rfl
theorem VB.block (h : VB W w g vs) (hb : Below W.heap.size W w1) (hl : g < w1.heap.size) (hg : w1.heap[g]? = w.heap[g]?) : VB W w1 g vs :=
  ⟨h.lo, hl, hb, fun j v hv => (World.cell?_of_block hg).trans (h.cs j v hv), fun j => (World.frozen?_of_block hg).trans (h.fz j)⟩
theorem VB.keep (h : VB W w g vs) (hb : Below w.heap.size w w1) : VB W w1 g vs :=
  h.block (h.below.trans (hb.mono h.below.size)) (Nat.lt_of_lt_of_le h.lt hb.size) (hb.block g h.lt)
theorem VB.set (h : VB W w g vs) (j : Nat) (hj : j < vs.length) (v : Value) : VB W (w.setCell ⟨g, j, none⟩ v) g (vs.set j v) := by
  refine ⟨h.lo, by simpa [World.setCell] using h.lt, h.below.setCell (p := ⟨g, j, none⟩) h.lo _, fun i u hu => ?_, fun i => ?_⟩
  · rw [List.getElem?_set] at hu
    split at hu
    · rename_i e
      subst e
      cases hu
      exact World.cell?_setCell_same _ _ _ (h.cs j _ (List.getElem?_eq_getElem hj))
    · rename_i e
      rw [World.cell?_setCell_other _ _ _ _ (by simp)]
      exact h.cs i u hu
  · rw [World.frozen?_setCell]; exact h.fz i
theorem VB.at (h : VB W w g vs) (j : Nat) (hj : j < vs.length) : w.cell? ⟨g, j, none⟩ = some vs[j] := h.cs j _ (List.getElem?_eq_getElem hj)
end
set_option maxHeartbeats 1000000 in
theorem rstep_any (W : World) (b : Nat) (s : ByteArray) (st : Res Unit) (hs : s.size ≤ 4096) (h : RS W b s st) :
    Calls Try.prog 30 #[.pointer (some ⟨b, 0, none⟩)] W fun en W' => en = .returned (.tuple #[]) ∧ RF W b s (st.bind fun _ t => stepT s.data.toList t) W' := by
  have hz := Lib.size_eq s
  cases st with
  | bad q e0 =>
    obtain ⟨⟨k, σ, p', f, hX, h3⟩, h2⟩ := id h
    have H := Lib.hid h
    obtain ⟨lt, c0, c1, c2, c3, c4, c5, c6, fz⟩ := hX
    have hb := Fq.refl W b
    have k1 : (e0 == 0) = false := beq_eq_false_iff_ne.2 h2
    have k2 : (e0 != 0) = true := by rw [bne, k1]; rfl
    clear h h2 h3 hz
    go_enter Try.func30, Try.ntmps30
    go_wp2_with fail
    first | go_end0 | refine bodyPost_ret (results_none rfl _ _ _) rfl ?_
    exact ⟨rfl, hb, H.out⟩
  | ok u t =>
    obtain ⟨⟨pl, hX⟩, hv, hsm⟩ := id h
    obtain ⟨G, HG, hnx⟩ : ∃ G : Int → ByteArray → Int → Int → Bool → Prop, Hid (∀ k σ p f ob, G k σ p f ob → (∃ t' : Tk, stepT s.data.toList t = .ok () t' ∧ TV s t' ∧ t'.s.size ≤ 4096 ∧ k = t'.kind ∧ σ = t'.s ∧ p = t'.pl ∧ f = t'.fin ∧ ob = true) ∨ (∃ p' : Nat, p = p' ∧ stepT s.data.toList t = .bad p' 50 ∧ σ.size ≤ 10000 ∧ ob = false)) ∧
        ∀ W', Calls Try.prog 15 #[.string s, .int .i64 (t.fin : Int)] W' fun e w' => Below W'.heap.size W' w' ∧ ∃ k σ p f ob, e = .returned (.tuple #[.agg #[.int .i64 k, .string σ, .int .i64 p, .int .i64 f], .bool ob]) ∧ G k σ p f ob := by
      refine ⟨fun k σ p f ob => _, Lib.hid fun k σ p f ob h => h, fun W' => (rnext_any s t.fin W' hv.fin (by omega)).mono ?_⟩
      rintro e w' ⟨hb, hx⟩
      refine ⟨hb, ?_⟩
      unfold stepT
      cases ho : tokAt s.data.toList t.fin with
      | ok t' =>
        rw [ho] at hx
        subst hx
        exact ⟨_, _, _, _, _, rfl, .inl ⟨t', rfl, tok_tv hv.fin ho, by have := tok_small ho; omega, rfl, rfl, rfl, rfl, rfl⟩⟩
      | bad p =>
        rw [ho] at hx
        obtain ⟨k, σ, f, hσ, rfl⟩ := hx
        exact ⟨_, _, _, _, _, rfl, .inr ⟨p, rfl, rfl, hσ, rfl⟩⟩
    have HX := Lib.hid hX
    obtain ⟨lt, c0, c1, c2, c3, c4, c5, c6, fz⟩ := hX
    clear h
    go_enter Try.func30, Try.ntmps30
    go_wp2_with fail
    have e0 := Sx.ext_cell c0
    have e1 := Sx.ext_cell c1
    have e2 := Sx.ext_cell c2
    have e3 := Sx.ext_cell c3
    have e4 := Sx.ext_cell c4
    refine Mix.plan_region (fun u => ∃ Y, u = Sx.ext W Y) 16 (.q [0, 1, 2, 3, 4, 5, 6, 7, 8] (.two 9 (.q [10, 11, 12] (.one 13 (.one 14 (.one 15 .done)))) 13 (.one 9 (.q [10, 11, 12] (.one 14 (.one 15 .done)))))) (by kernel_rfl) (fun _ _ d _ _ h => by cases d <;> exact h) (by kernel_rfl) ⟨W.drew, Sx.ext_of (Below.refl _ _).drew⟩ ?_
    refine Mix.plan_q (by simp only [Mix.pick, Mix.nth]; rfl) ?_
    repeat (go_big_quiet_step (fail))
    refine wpQuiet_nil ?_
    clear e0 e1 e2 e3 e4
    refine Mix.plan_two (by simp only [Mix.nth]; rfl) (by simp only [Mix.nth]; rfl) (fun K hK => ?_) (fun K hK => ?_)
    · go_simp
      refine (hnx _).mono ?_
      rintro e w1 ⟨hb1, k, σ, p, f, ob, rfl, hG⟩
      have hb : Below W.heap.size W w1 := (Below.refl _ _).drew.trans hb1
      refine hK _ _ ⟨_, Sx.ext_of hb⟩ ?_
      clear hK K
      refine Mix.plan_q (by simp only [Mix.pick, Mix.nth]; rfl) ?_
      repeat (go_big_quiet_step (fail))
      refine wpQuiet_nil ?_
      refine Mix.plan_one (by simp only [Mix.nth]; rfl) (fun K hK => ?_)
      go_simp
      refine hK _ _ ⟨_, Sx.ext_of (hb.alloc hb.size _)⟩ ?_
      clear hK K
      refine Mix.plan_one (by simp only [Mix.nth]; rfl) (fun K hK => ?_)
      go_simp
      refine hK _ _ ⟨_, Sx.ext_of (hb.alloc hb.size _)⟩ ?_
      clear hK K
      refine Mix.plan_one (by simp only [Mix.nth]; rfl) (fun K hK => ?_)
      go_simp
      refine hK _ _ ⟨_, Sx.ext_of (hb.alloc hb.size _)⟩ ?_
      clear hK K
      refine Mix.plan_done ?_
      simp only [List.drop_succ_cons, List.drop_nil]
      have hV := VB.made hb [.int .i64 k, .string σ, .int .i64 p, .int .i64 f] 37
      change VB W (w1.alloc (.cells #[.int .i64 k, .string σ, .int .i64 p, .int .i64 f] 37)) _ _ at hV
      generalize w1.alloc (.cells #[.int .i64 k, .string σ, .int .i64 p, .int .i64 f] 37) = w9 at *
      clear hb hb1
      generalize w1.heap.size = g at *
      have hX1 := HX.out.keep hV.below
      have HF1 := Lib.hid (Fq.of_below hV.below (Nat.le_of_lt lt))
      have g0 := hV.at 0 (by simp)
      have g1 := hV.at 1 (by simp)
      have g2 := hV.at 2 (by simp)
      have g3 := hV.at 3 (by simp)
      have HV := Lib.hid hV
      clear c0 c1 c2 c3 c4 c5 c6 fz hnx hV
      rcases HG.out _ _ _ _ _ hG with ⟨t', hT, hTV, hTS, rfl, rfl, rfl, rfl, rfl⟩ | ⟨p', rfl, hT, hσ, rfl⟩
      · have HT := Lib.hid hT
        have HN := Lib.hid (hX1.tok t'.kind t'.s t'.pl t'.fin)
        have HTV := Lib.hid (And.intro hTV hTS)
        clear hG hT hTV hTS
        obtain ⟨lt, c0, c1, c2, c3, c4, c5, c6, fz⟩ := hX1
        go_wp2_with fail
        go_end0
        refine ⟨rfl, (((HF1.out.set _ _).set _ _).set _ _).set _ _, ?_⟩
        show RS _ _ _ (stepT s.data.toList t)
        rw [HT.out]
        exact ⟨⟨_, HN.out⟩, HTV.out⟩
      · have HT := Lib.hid hT
        have HS := Lib.hid hσ
        have hfl := rfail_ok w9 b s t p' 50 (by decide) ⟨⟨_, hX1⟩, hv, hsm⟩
        clear hG hT hσ
        obtain ⟨lt, c0, c1, c2, c3, c4, c5, c6, fz⟩ := id hX1
        go_wp2_with fail
        refine hfl.mono ?_
        rintro e w2 ⟨rfl, hF2, ⟨⟨k2, σ2, p2, f2, hX2, h3⟩, h2⟩⟩
        have HF := Lib.hid (HF1.out.trans hF2)
        have HN := Lib.hid (hX2.tok k σ p' f)
        have hgb : g ≠ b := by have := HV.out.lo; omega
        have hV2 : ∀ j, w2.cell? ⟨g, j, none⟩ = w9.cell? ⟨g, j, none⟩ := fun j => World.cell?_of_block (hF2.block g HV.out.lt hgb)
        have g0 := (hV2 0).trans g0
        have g1 := (hV2 1).trans g1
        have g2 := (hV2 2).trans g2
        have g3 := (hV2 3).trans g3
        clear hF2 hfl h3 hV2 hgb hX1 lt c0 c1 c2 c3 c4 c5 c6 fz
        obtain ⟨lt, c0, c1, c2, c3, c4, c5, c6, fz⟩ := hX2
        go_wp2_with fail
        go_end0
        refine ⟨rfl, (((HF.out.set _ _).set _ _).set _ _).set _ _, ?_⟩
        show RS _ _ _ (stepT s.data.toList t)
        rw [HT.out]
        exact ⟨⟨_, _, _, _, HN.out, HS.out⟩, by decide⟩
    · go_simp
      have hV0 := VB.made (Below.refl W.heap.size W) [.int .i64 0, .string ⟨#[]⟩, .int .i64 0, .int .i64 0] 37
      change VB W (W.alloc (.cells #[.int .i64 0, .string ⟨#[]⟩, .int .i64 0, .int .i64 0] 37)) _ _ at hV0
      refine hK _ _ ⟨_, Sx.ext_of hV0.below.drew⟩ ?_
      clear hK K
      refine Mix.plan_one (by simp only [Mix.nth]; rfl) (fun K hK => ?_)
      go_simp
      refine (hnx _).mono ?_
      rintro e w1 ⟨hb1, k, σ, p, f, ob, rfl, hG⟩
      have hb : Below W.heap.size W w1 := hV0.below.trans ((Below.refl _ _).drew.trans hb1 |>.mono hV0.below.size)
      have hV1 := hV0.keep ((Below.refl _ _).drew.trans hb1)
      have g0 := hV1.at 0 (by simp)
      have g1 := hV1.at 1 (by simp)
      have g2 := hV1.at 2 (by simp)
      have g3 := hV1.at 3 (by simp)
      have gf := hV1.fz
      have hV := (((hV1.set 0 (by simp) (.int .i64 k)).set 1 (by simp) (.string σ)).set 2 (by simp) (.int .i64 p)).set 3 (by simp) (.int .i64 f)
      refine hK _ _ ⟨_, Sx.ext_of hb⟩ ?_
      clear hK K
      refine Mix.plan_q (by simp only [Mix.pick, Mix.nth]; rfl) ?_
      repeat (go_big_quiet_step (fail))
      refine wpQuiet_nil ?_
      refine Mix.plan_one (by simp only [Mix.nth]; rfl) (fun K hK => ?_)
      go_simp
      refine hK _ _ ⟨_, Sx.ext_of hV.below⟩ ?_
      clear hK K
      refine Mix.plan_one (by simp only [Mix.nth]; rfl) (fun K hK => ?_)
      go_simp
      refine hK _ _ ⟨_, Sx.ext_of hV.below⟩ ?_
      clear hK K
      refine Mix.plan_done ?_
      simp only [List.drop_succ_cons, List.drop_nil]
      change VB W ((((w1.setCell ⟨W.heap.size, 0, none⟩ (.int .i64 k)).setCell ⟨W.heap.size, 1, none⟩ (.string σ)).setCell ⟨W.heap.size, 2, none⟩ (.int .i64 p)).setCell ⟨W.heap.size, 3, none⟩ (.int .i64 f)) W.heap.size [.int .i64 k, .string σ, .int .i64 p, .int .i64 f] at hV
      generalize (((w1.setCell ⟨W.heap.size, 0, none⟩ (.int .i64 k)).setCell ⟨W.heap.size, 1, none⟩ (.string σ)).setCell ⟨W.heap.size, 2, none⟩ (.int .i64 p)).setCell ⟨W.heap.size, 3, none⟩ (.int .i64 f) = w9 at *
      clear hb hb1 hV1 hV0 g0 g1 g2 g3 gf
      have hX1 := HX.out.keep hV.below
      have HF1 := Lib.hid (Fq.of_below hV.below (Nat.le_of_lt lt))
      have g0 := hV.at 0 (by simp)
      have g1 := hV.at 1 (by simp)
      have g2 := hV.at 2 (by simp)
      have g3 := hV.at 3 (by simp)
      have HV := Lib.hid hV
      clear c0 c1 c2 c3 c4 c5 c6 fz hnx hV
      rcases HG.out _ _ _ _ _ hG with ⟨t', hT, hTV, hTS, rfl, rfl, rfl, rfl, rfl⟩ | ⟨p', rfl, hT, hσ, rfl⟩
      · have HT := Lib.hid hT
        have HN := Lib.hid (hX1.tok t'.kind t'.s t'.pl t'.fin)
        have HTV := Lib.hid (And.intro hTV hTS)
        clear hG hT hTV hTS
        obtain ⟨lt, c0, c1, c2, c3, c4, c5, c6, fz⟩ := hX1
        go_wp2_with fail
        go_end0
        refine ⟨rfl, (((HF1.out.set _ _).set _ _).set _ _).set _ _, ?_⟩
        show RS _ _ _ (stepT s.data.toList t)
        rw [HT.out]
        exact ⟨⟨_, HN.out⟩, HTV.out⟩
      · have HT := Lib.hid hT
        have HS := Lib.hid hσ
        have hfl := rfail_ok w9 b s t p' 50 (by decide) ⟨⟨_, hX1⟩, hv, hsm⟩
        clear hG hT hσ
        obtain ⟨lt, c0, c1, c2, c3, c4, c5, c6, fz⟩ := id hX1
        go_wp2_with fail
        refine hfl.mono ?_
        rintro e w2 ⟨rfl, hF2, ⟨⟨k2, σ2, p2, f2, hX2, h3⟩, h2⟩⟩
        have HF := Lib.hid (HF1.out.trans hF2)
        have HN := Lib.hid (hX2.tok k σ p' f)
        have hgb : W.heap.size ≠ b := by have := HV.out.lo; omega
        have hV2 : ∀ j, w2.cell? ⟨W.heap.size, j, none⟩ = w9.cell? ⟨W.heap.size, j, none⟩ := fun j => World.cell?_of_block (hF2.block W.heap.size HV.out.lt hgb)
        have g0 := (hV2 0).trans g0
        have g1 := (hV2 1).trans g1
        have g2 := (hV2 2).trans g2
        have g3 := (hV2 3).trans g3
        clear hF2 hfl h3 hV2 hgb hX1 lt c0 c1 c2 c3 c4 c5 c6 fz
        obtain ⟨lt, c0, c1, c2, c3, c4, c5, c6, fz⟩ := hX2
        go_wp2_with fail
        go_end0
        refine ⟨rfl, (((HF.out.set _ _).set _ _).set _ _).set _ _, ?_⟩
        show RS _ _ _ (stepT s.data.toList t)
        rw [HT.out]
        exact ⟨⟨_, _, _, _, HN.out, HS.out⟩, by decide⟩
/-- is this the word or sign that stands next? -/
def hasS (st : Res Unit) (w : List UInt8) : Bool := match st with
  | .ok _ t => isW t w
  | .bad _ _ => false
set_option maxHeartbeats 1000000 in
theorem rhas_any (W : World) (b : Nat) (s : ByteArray) (st : Res Unit) (w : ByteArray) (h : RS W b s st) :
    Calls Try.prog 33 #[.pointer (some ⟨b, 0, none⟩), .string w] W fun en W' => en = .returned (.bool (hasS st w.data.toList)) ∧ W' = W := by
  cases st with
  | bad q e0 =>
    obtain ⟨⟨k, σ, p', f, hX, h3⟩, h2⟩ := id h
    obtain ⟨lt, c0, c1, c2, c3, c4, c5, c6, fz⟩ := hX
    have k1 : (e0 == 0) = false := beq_eq_false_iff_ne.2 h2
    clear h h2 h3
    go_enter Try.func33, Try.ntmps33
    go_wp2_with fail
    go_ret
    exact ⟨rfl, rfl⟩
  | ok u t =>
    obtain ⟨⟨pl, hX⟩, hv, hsm⟩ := id h
    obtain ⟨lt, c0, c1, c2, c3, c4, c5, c6, fz⟩ := hX
    clear h
    have HH := Lib.hid (show hasS (.ok u t) w.data.toList = ((t.kind == 1 || t.kind == 2) && t.s.data.toList == w.data.toList) from rfl)
    by_cases he : t.s = w
    · have e1 := Sx.seq_tt he
      have e2 : (t.s.data.toList == w.data.toList) = true := by rw [he]; exact beq_self_eq_true _
      by_cases h1 : t.kind = 1
      · have j1 : ((t.kind : Int) == 1) = true := by rw [h1]; rfl
        have HR := Lib.hid (show hasS (.ok u t) w.data.toList = true by rw [HH.out, e2, h1]; rfl)
        clear h1 he e2
        go_enter Try.func33, Try.ntmps33
        go_wp2_with fail
        go_ret
        rw [HR.out]
        exact ⟨rfl, rfl⟩
      · have j1 : ((t.kind : Int) == 1) = false := by rw [beq_eq_false_iff_ne]; omega
        by_cases h2 : t.kind = 2
        · have j2 : ((t.kind : Int) == 2) = true := by rw [h2]; rfl
          have HR := Lib.hid (show hasS (.ok u t) w.data.toList = true by rw [HH.out, e2, h2]; rfl)
          clear h1 he e2 h2
          go_enter Try.func33, Try.ntmps33
          go_wp2_with fail
          go_ret
          rw [HR.out]
          exact ⟨rfl, rfl⟩
        · have j2 : ((t.kind : Int) == 2) = false := by rw [beq_eq_false_iff_ne]; omega
          have HR := Lib.hid (show hasS (.ok u t) w.data.toList = false by rw [HH.out, beq_eq_false_iff_ne.2 h1, beq_eq_false_iff_ne.2 h2]; rfl)
          clear h1 he e2 h2
          go_enter Try.func33, Try.ntmps33
          go_wp2_with fail
          go_ret
          rw [HR.out]
          exact ⟨rfl, rfl⟩
    · have e1 := Sx.seq_ff he
      have e2 : (t.s.data.toList == w.data.toList) = false := by
        rw [beq_eq_false_iff_ne]
        intro e
        exact he (by apply ByteArray.ext; exact Array.toList_inj.1 e)
      have HR := Lib.hid (show hasS (.ok u t) w.data.toList = false by rw [HH.out, e2, Bool.and_false])
      by_cases h1 : t.kind = 1
      · have j1 : ((t.kind : Int) == 1) = true := by rw [h1]; rfl
        clear h1 he e2
        go_enter Try.func33, Try.ntmps33
        go_wp2_with fail
        go_ret
        rw [HR.out]
        exact ⟨rfl, rfl⟩
      · have j1 : ((t.kind : Int) == 1) = false := by rw [beq_eq_false_iff_ne]; omega
        by_cases h2 : t.kind = 2
        · have j2 : ((t.kind : Int) == 2) = true := by rw [h2]; rfl
          clear h1 he e2 h2
          go_enter Try.func33, Try.ntmps33
          go_wp2_with fail
          go_ret
          rw [HR.out]
          exact ⟨rfl, rfl⟩
        · have j2 : ((t.kind : Int) == 2) = false := by rw [beq_eq_false_iff_ne]; omega
          clear h1 he e2 h2
          go_enter Try.func33, Try.ntmps33
          go_wp2_with fail
          go_ret
          rw [HR.out]
          exact ⟨rfl, rfl⟩
theorem RF.trans {W W1 W2 : World} {b : Nat} {s : ByteArray} {st st' : Res Unit} (h : RF W b s st W1) (g : RF W1 b s st' W2) : RF W b s st' W2 := ⟨h.fq.trans g.fq, g.rs⟩
set_option maxHeartbeats 1000000 in
theorem rwant_any (W : World) (b : Nat) (s : ByteArray) (st : Res Unit) (w : ByteArray) (hs : s.size ≤ 4096) (h : RS W b s st) :
    Calls Try.prog 31 #[.pointer (some ⟨b, 0, none⟩), .string w] W fun en W' => en = .returned (.tuple #[]) ∧ RF W b s (st.bind fun _ t => wantT s.data.toList w.data.toList t) W' := by
  have hh := rhas_any W b s st w h
  cases st with
  | bad q e0 =>
    obtain ⟨⟨k, σ, p', f, hX, h3⟩, h2⟩ := id h
    have hfl := rfail_bad W b s q e0 p' 50 h
    obtain ⟨lt, c0, c1, c2, c3, c4, c5, c6, fz⟩ := hX
    clear h h2 h3
    go_enter Try.func31, Try.ntmps31
    go_wp2_with fail
    refine hh.mono ?_
    rintro e w1 ⟨rfl, rfl⟩
    clear hh
    go_wp2_with fail
    refine hfl.mono ?_
    rintro e w2 ⟨rfl, hx⟩
    clear hfl
    go_wp2_with fail
    go_end0
    exact ⟨rfl, hx⟩
  | ok u t =>
    obtain ⟨⟨pl, hX⟩, hv, hsm⟩ := id h
    cases hz : isW t w.data.toList with
    | true =>
      have hst := rstep_any W b s (.ok u t) hs h
      have HR := Lib.hid (show ((Res.ok u t).bind fun _ t => wantT s.data.toList w.data.toList t) = (Res.ok u t).bind fun _ t => stepT s.data.toList t by show wantT _ _ t = stepT _ t; rw [wantT_t hz])
      have HZ := Lib.hid (show hasS (.ok u t) w.data.toList = true from hz)
      rw [HZ.out] at hh
      clear h hz
      obtain ⟨lt, c0, c1, c2, c3, c4, c5, c6, fz⟩ := hX
      go_enter Try.func31, Try.ntmps31
      go_wp2_with fail
      refine hh.mono ?_
      rintro e w1 ⟨rfl, rfl⟩
      clear hh
      go_wp2_with fail
      refine hst.mono ?_
      rintro e w2 ⟨rfl, hx⟩
      clear hst
      go_wp2_with fail
      go_end0
      rw [HR.out]
      exact ⟨rfl, hx⟩
    | false =>
      have hfl := rfail_ok W b s t t.pl 50 (by decide) h
      have HR := Lib.hid (show ((Res.ok u t).bind fun _ t => wantT s.data.toList w.data.toList t) = .bad t.pl 50 by show wantT _ _ t = _; rw [wantT_f hz])
      have HZ := Lib.hid (show hasS (.ok u t) w.data.toList = false from hz)
      rw [HZ.out] at hh
      clear h hz
      obtain ⟨lt, c0, c1, c2, c3, c4, c5, c6, fz⟩ := hX
      go_enter Try.func31, Try.ntmps31
      go_wp2_with fail
      refine hh.mono ?_
      rintro e w1 ⟨rfl, rfl⟩
      clear hh
      go_wp2_with fail
      refine hfl.mono ?_
      rintro e w2 ⟨rfl, hx⟩
      clear hfl
      go_wp2_with fail
      go_end0
      rw [HR.out]
      exact ⟨rfl, hx⟩
end Rc
end Go.Proofs.Ytcigggffaofkhaa
