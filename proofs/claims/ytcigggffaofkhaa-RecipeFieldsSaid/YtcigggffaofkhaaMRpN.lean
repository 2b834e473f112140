/-
  A reading that gave up has an error; the law RecipeBack. (printed by gen_RpN.py)
-/
import Derived.Test.YtcigggffaofkhaaMRpL
namespace Go.Proofs.Ytcigggffaofkhaa
open Go.RowKit
namespace Rc

theorem bindq_bad {α β : Type} {r : Res α} {f : α → Tk → Res β} {p : Nat} {e : Int} (h : r.bind f = .bad p e) : r = .bad p e ∨ ∃ x t, r = .ok x t ∧ f x t = .bad p e := by
  cases r with
  | ok x t => exact .inr ⟨x, t, rfl, h⟩
  | bad q g =>
    have h' : (Res.bad q g : Res β) = .bad p e := h
    simp only [Res.bad.injEq] at h'
    obtain ⟨rfl, rfl⟩ := h'
    exact .inl rfl
theorem step_ne {s : List UInt8} {t : Tk} {p : Nat} {e : Int} (h : stepT s t = .bad p e) : e ≠ 0 := by
  unfold stepT at h
  split at h
  · cases h
  · cases h; decide
theorem want_ne {s w : List UInt8} {t : Tk} {p : Nat} {e : Int} (h : wantT s w t = .bad p e) : e ≠ 0 := by
  unfold wantT at h
  split at h
  · exact step_ne h
  · cases h; decide
def NeF (s : List UInt8) (f : Tk → Res E) : Prop := ∀ t p e, Tok s t → f t = .bad p e → e ≠ 0
theorem sum_ne {s : List UInt8} {f : Tk → Res E} {H : Nat} (ho : OkF s f H) (hp : Pg f) (hf : NeF s f) : ∀ (m : Nat) (t : Tk) (acc : List E) (p : Nat) (e : Int), Tok s t → s.length - t.fin + 1 ≤ m → sumP s f m t acc = .bad p e → e ≠ 0
  | 0, t, acc, p, e, _, hm, _ => by omega
  | m + 1, t, acc, p, e, ht, hm, h => by
    unfold sumP at h
    split at h
    · rename_i hw
      rcases bindq_bad h with h | ⟨_, t1, h1, h⟩
      · exact step_ne h
      · have k1 := step_tok h1 ht
        rcases bindq_bad h with h | ⟨y, t2, h2, h⟩
        · exact hf _ _ _ k1.1 h
        · have k2 := ho _ _ _ k1.1 h2
          have k3 := hp _ _ _ h2
          have k4 := (step_prog h1).2 k3.1
          have k5 := k2.1.le
          exact sum_ne ho hp hf m t2 _ p e k2.1 (by omega) h
    · cases h
theorem expr_ne {s : List UInt8} {f : Tk → Res E} {H : Nat} (ho : OkF s f H) (hp : Pg f) (hf : NeF s f) : NeF s (exprP s f) := by
  intro t p e ht h
  unfold exprP at h
  rcases bindq_bad h with h | ⟨y, t1, h1, h⟩
  · exact hf _ _ _ ht h
  · have k1 := ho _ _ _ ht h1
    rcases bindq_bad h with h | ⟨l, t2, h2, h⟩
    · exact sum_ne ho hp hf _ _ _ _ _ k1.1 (by omega) h
    · cases h
theorem term_ne (s : List UInt8) : ∀ h, NeF s (termP s h)
  | 0, t, p, e, ht, h => by
    unfold termP at h
    split at h <;> (cases h; decide)
  | n + 1, t, p, e, ht, h => by
    have ih := expr_ne (term_okx s n) (term_prog s n) (term_ne s n)
    have io := expr_okx (term_okx s n)
    unfold termP at h
    split at h
    · cases h; decide
    · rcases bindq_bad h with h | ⟨_, t1, h1, h⟩
      · exact step_ne h
      · have s1 := (step_tok h1 ht).1
        split at h
        · cases h
        · split at h
          · rcases bindq_bad h with h | ⟨x1, t2, h2, h⟩
            · exact ih _ _ _ s1 h
            · rcases bindq_bad h with h | ⟨_, t3, h3, h⟩
              · exact want_ne h
              · cases h
          · split at h
            · rcases bindq_bad h with h | ⟨x1, t2, h2, h⟩
              · exact ih _ _ _ s1 h
              · have s2 := (io _ _ _ s1 h2).1
                rcases bindq_bad h with h | ⟨_, t3, h3, h⟩
                · exact want_ne h
                · have s3 := (want_tok h3 s2).1
                  rcases bindq_bad h with h | ⟨x2, t4, h4, h⟩
                  · exact ih _ _ _ s3 h
                  · have s4 := (io _ _ _ s3 h4).1
                    rcases bindq_bad h with h | ⟨_, t5, h5, h⟩
                    · exact want_ne h
                    · have s5 := (want_tok h5 s4).1
                      rcases bindq_bad h with h | ⟨x3, t6, h6, h⟩
                      · exact ih _ _ _ s5 h
                      · have s6 := (io _ _ _ s5 h6).1
                        rcases bindq_bad h with h | ⟨_, t7, h7, h⟩
                        · exact want_ne h
                        · have s7 := (want_tok h7 s6).1
                          rcases bindq_bad h with h | ⟨x4, t8, h8, h⟩
                          · exact ih _ _ _ s7 h
                          · cases h
            · split at h
              · split at h
                · rcases bindq_bad h with h | ⟨_, t2, h2, h⟩
                  · exact step_ne h
                  · have s2 := (step_tok h2 s1).1
                    rcases bindq_bad h with h | ⟨_, t3, h3, h⟩
                    · exact want_ne h
                    · have s3 := (want_tok h3 s2).1
                      rcases bindq_bad h with h | ⟨x1, t4, h4, h⟩
                      · exact ih _ _ _ s3 h
                      · have s4 := (io _ _ _ s3 h4).1
                        rcases bindq_bad h with h | ⟨_, t5, h5, h⟩
                        · exact want_ne h
                        · have s5 := (want_tok h5 s4).1
                          rcases bindq_bad h with h | ⟨x2, t6, h6, h⟩
                          · exact ih _ _ _ s5 h
                          · cases h
                · cases h; decide
              · cases h
theorem fields_ne {s : List UInt8} : ∀ (m : Nat) (t : Tk) (acc : List (Int × E × E)) (p : Nat) (e : Int), Tok s t → s.length - t.fin + 1 ≤ m → fieldsP s (exprP s (termP s 32)) m t acc = .bad p e → e ≠ 0
  | 0, t, acc, p, e, _, hm, _ => by omega
  | m + 1, t, acc, p, e, ht, hm, h => by
    have ih := expr_ne (term_okx s 32) (term_prog s 32) (term_ne s 32)
    have io := top_okx s
    have hp := expr_prog (s := s) (term_prog s 32)
    unfold fieldsP at h
    split at h
    · cases h
    · split at h
      · cases h; decide
      · split at h
        · cases h; decide
        · rcases bindq_bad h with h | ⟨_, t1, h1, h⟩
          · exact step_ne h
          · have s1 := (step_tok h1 ht).1
            rcases bindq_bad h with h | ⟨a, t2, h2, h⟩
            · exact ih _ _ _ s1 h
            · have s2 := (io _ _ _ s1 h2).1
              rcases bindq_bad h with h | ⟨b, t3, h3, h⟩
              · exact ih _ _ _ s2 h
              · have s3 := (io _ _ _ s2 h3).1
                have k1 := hp _ _ _ h2
                have k2 := hp _ _ _ h3
                have k4 := (step_prog h1).2 k1.1
                have k5 := s3.le
                exact fields_ne m t3 _ p e s3 (by omega) h
theorem parse_ne {s : List UInt8} {p : Nat} {e : Int} (h : parseP s = .bad p e) : e ≠ 0 := by
  unfold parseP at h
  split at h
  · cases h; decide
  · cases hr : sourceP s with
    | ok y t => rw [hr] at h; cases h
    | bad q g =>
      rw [hr] at h
      simp only [Out.bad.injEq] at h
      obtain ⟨rfl, rfl⟩ := h
      unfold sourceP at hr
      cases h0 : tokAt s 0 with
      | bad p => rw [h0] at hr; cases hr; decide
      | ok t0 =>
        rw [h0] at hr
        simp only at hr
        have ih := expr_ne (term_okx s 32) (term_prog s 32) (term_ne s 32)
        have io := top_okx s
        obtain ⟨k0, -⟩ := tok_tok (Nat.zero_le _) h0
        rcases bindq_bad hr with h | ⟨_, t1, h1, hr⟩
        · exact want_ne h
        · have s1 := (want_tok h1 k0).1
          rcases bindq_bad hr with h | ⟨a, t2, h2, hr⟩
          · exact ih _ _ _ s1 h
          · have s2 := (io _ _ _ s1 h2).1
            rcases bindq_bad hr with h | ⟨_, t3, h3, hr⟩
            · exact want_ne h
            · have s3 := (want_tok h3 s2).1
              rcases bindq_bad hr with h | ⟨b, t4, h4, hr⟩
              · exact ih _ _ _ s3 h
              · have s4 := (io _ _ _ s3 h4).1
                rcases bindq_bad hr with h | ⟨l, t5, h5, hr⟩
                · exact fields_ne _ _ _ _ _ s4 (by omega) h
                · cases hr
theorem few_sml {x : E} (h : Sml x) : Few x := by
  induction h with
  | mk k s ks _ _ _ hl _ ih => exact .mk k s ks (by omega) ih
theorem few_lim {x : Src} (h : Lim x) : FewS x := ⟨few_sml h.nm, few_sml h.vs, by have := h.ln; omega, fun f hf => ⟨few_sml (h.fd f hf).2.1, few_sml (h.fd f hf).2.2.1⟩⟩
theorem lim_parse {s : List UInt8} {x : Src} (h : parseP s = .ok x) : Lim x := by
  obtain ⟨h1, h2, h3, h4⟩ := parse_okx h
  have a := h1.wt
  have b := h2.wt
  refine ⟨sml_of _ h1.wf (by omega), sml_of _ h2.wf (by omega), by omega, by omega, by omega, fun f hf => ?_⟩
  obtain ⟨c, d, e⟩ := h4 f hf
  have := d.wt
  have := e.wt
  exact ⟨by omega, sml_of _ d.wf (by omega), sml_of _ e.wf (by omega), by omega, by omega⟩
/-- what Print answers, in its three ways -/
theorem print_ways (x : Src) : (printP x = ([], 1) ∨ printP x = ([], 3)) ∨ (printP x = (textS x, 0) ∧ (parseP (textS x) = .ok x ∨ ∃ q, parseP (textS x) = .bad q 4)) := by
  cases hg : goodS x
  · exact .inl (.inl (print_no hg))
  · by_cases hl : 4096 < (textS x).length
    · exact .inl (.inr (print_long hg hl))
    · exact .inr ⟨print_yes hg hl, print_parse hg (by omega)⟩
set_option maxHeartbeats 8000000 in
set_option maxRecDepth 100000 in
theorem backlaw_any {x : Src} (hx : SmlS x) (s : ByteArray) (W : World) (v : Value) (hr : RepR W (fun b => b < W.heap.size) x v) : Calls Try.prog 7 #[v, .string s] W fun e W' => e = .returned (.bool true) ∧ Below W.heap.size W W' := by
  have HR := Lib.hid hr
  obtain ⟨k1, σ1, sl1, n1, c1, k2, σ2, sl2, n2, c2, sl, n, c, rfl, -, -, -, -⟩ := hr
  have HX := Lib.hid hx
  clear hx
  have hq := QV.start W #[.int .i64 k1, .string σ1, .slice sl1 n1 c1, .int .i64 k2, .string σ2, .slice sl2 n2 c2, .slice sl n c]
  have h1 := alive_any (W.alloc (.cells #[.int .i64 k1, .string σ1, .slice sl1 n1 c1, .int .i64 k2, .string σ2, .slice sl2 n2 c2, .slice sl n c] 29))
  go_enter Try.func7, Try.ntmps7
  go_wp2_with fail
  refine h1.mono ?_
  rintro e w1 ⟨rfl, hB⟩
  clear h1
  replace hq := hq.keep hB
  clear hB
  have a0 := obj_cell (i := 0) hq.bx rfl
  have a1 := obj_cell (i := 1) hq.bx rfl
  have a2 := obj_cell (i := 2) hq.bx rfl
  have a3 := obj_cell (i := 3) hq.bx rfl
  have a4 := obj_cell (i := 4) hq.bx rfl
  have a5 := obj_cell (i := 5) hq.bx rfl
  have a6 := obj_cell (i := 6) hq.bx rfl
  have h2 := great_any HX.out w1 (fun b => b < W.heap.size) _ (fun b hb => Nat.lt_of_lt_of_le hb hq.below.size) (HR.out.move fun b hb => ⟨hb, hq.below.block b hb⟩)
  go_wp2_with fail
  refine h2.mono ?_
  rintro e w2 ⟨g, rfl, hg, hB⟩
  clear h2
  replace hq := hq.keep hB
  clear hB
  replace a0 := obj_cell (i := 0) hq.bx rfl
  replace a1 := obj_cell (i := 1) hq.bx rfl
  replace a2 := obj_cell (i := 2) hq.bx rfl
  replace a3 := obj_cell (i := 3) hq.bx rfl
  replace a4 := obj_cell (i := 4) hq.bx rfl
  replace a5 := obj_cell (i := 5) hq.bx rfl
  replace a6 := obj_cell (i := 6) hq.bx rfl
  cases g with
  | true =>
    clear hg
    go_wp2_with fail
    go_ret
    exact ⟨rfl, hq.below⟩
  | false =>
    have HL := Lib.hid (lim_of HX.out (hg rfl))
    clear hg
    by_cases hs : 8192 < s.size
    · have hs2 : decide ((8192 : Int) < (s.size : Int)) = true := by simp; omega
      clear hs
      go_wp2_with fail
      go_ret
      exact ⟨rfl, hq.below⟩
    have hs2 : decide ((8192 : Int) < (s.size : Int)) = false := by simp; omega
    clear hs
    have h2 := print_any HL.out w2 (fun b => b < W.heap.size) _ (fun b hb => Nat.lt_of_lt_of_le hb hq.below.size) (HR.out.move fun b hb => ⟨hb, hq.below.block b hb⟩)
    go_wp2_with fail
    refine h2.mono ?_
    rintro e w3 ⟨hB, rfl⟩
    clear h2
    replace hq := hq.keep hB
    clear hB
    replace a0 := obj_cell (i := 0) hq.bx rfl
    replace a1 := obj_cell (i := 1) hq.bx rfl
    replace a2 := obj_cell (i := 2) hq.bx rfl
    replace a3 := obj_cell (i := 3) hq.bx rfl
    replace a4 := obj_cell (i := 4) hq.bx rfl
    replace a5 := obj_cell (i := 5) hq.bx rfl
    replace a6 := obj_cell (i := 6) hq.bx rfl
    rcases print_ways x with hp | ⟨hp, hpp⟩
    · rcases hp with hp | hp
      · rw [hp]
        clear hp
        have h2 := parse_any s w3
        clear a0 a1 a2 a3 a4 a5 a6
        go_wp2_with fail
        refine h2.mono ?_
        intro e w5 hpa
        clear h2
        obtain ⟨k1y, σ1y, sl1y, n1y, c1y, k2y, σ2y, sl2y, n2y, c2y, sly, ny, cy, hB, rfl, hry⟩ := pt_of hpa
        clear hpa
        replace hq := hq.keep hB
        clear hB
        cases hps : parseP s.data.toList with
        | bad p f =>
          have hf0 := parse_ne hps
          (try rw [hps] at hry)
          simp only [outT] at hry ⊢
          have j1 : (f != 0) = true := bne_iff_ne.2 hf0
          have j2 : (f == 0) = false := beq_eq_false_iff_ne.2 hf0
          have hA : Below w5.heap.size w5 (w5.alloc (.cells #[.int .i64 k1y, .string σ1y, .slice sl1y n1y c1y, .int .i64 k2y, .string σ2y, .slice sl2y n2y c2y, .slice sly ny cy] 29)) := (Below.refl _ _).alloc (Nat.le_refl _) _
          have HB := Lib.hid ((hq.keep hA).below)
          clear hA hry hf0 hps
          go_wp2_with fail
          go_ret
          exact ⟨rfl, HB.out⟩
        | ok y =>
          (try rw [hps] at hry)
          simp only [outT] at hry ⊢
          have HLy := Lib.hid (lim_parse hps)
          have HGy := Lib.hid (parse_good hps)
          clear hps
          have hA : Below w5.heap.size w5 (w5.alloc (.cells #[.int .i64 k1y, .string σ1y, .slice sl1y n1y c1y, .int .i64 k2y, .string σ2y, .slice sl2y n2y c2y, .slice sly ny cy] 29)) := (Below.refl _ _).alloc (Nat.le_refl _) _
          have hY : (w5.alloc (.cells #[.int .i64 k1y, .string σ1y, .slice sl1y n1y c1y, .int .i64 k2y, .string σ2y, .slice sl2y n2y c2y, .slice sly ny cy] 29)).heap[w5.heap.size]? = some (.cells #[.int .i64 k1y, .string σ1y, .slice sl1y n1y c1y, .int .i64 k2y, .string σ2y, .slice sl2y n2y c2y, .slice sly ny cy] 29 (0, 0)) := heap_alloc_new w5 _
          replace hry := hry.move (S' := fun b => b < (w5.alloc (.cells #[.int .i64 k1y, .string σ1y, .slice sl1y n1y c1y, .int .i64 k2y, .string σ2y, .slice sl2y n2y c2y, .slice sly ny cy] 29)).heap.size) (W' := w5.alloc (.cells #[.int .i64 k1y, .string σ1y, .slice sl1y n1y c1y, .int .i64 k2y, .string σ2y, .slice sl2y n2y c2y, .slice sly ny cy] 29)) fun b hb => ⟨Nat.lt_of_lt_of_le hb.2 hA.size, hA.block b hb.2⟩
          replace hq := hq.keep hA
          have HRY := Lib.hid hry
          clear hry hA
          have a0 := obj_cell (i := 0) hY rfl
          have a1 := obj_cell (i := 1) hY rfl
          have a2 := obj_cell (i := 2) hY rfl
          have a3 := obj_cell (i := 3) hY rfl
          have a4 := obj_cell (i := 4) hY rfl
          have a5 := obj_cell (i := 5) hY rfl
          have a6 := obj_cell (i := 6) hY rfl
          have h2 := print_any HLy.out _ _ _ (fun b hb => hb) HRY.out
          go_wp2_with fail
          refine h2.mono ?_
          rintro e w6 ⟨hB, rfl⟩
          clear h2
          have HRY := Lib.hid (HRY.out.move (S' := fun b => b < w6.heap.size) fun b hb => ⟨Nat.lt_of_lt_of_le hb hB.size, hB.block b hb⟩)
          replace hY := (hB.block _ (by simp)).trans hY
          replace hq := hq.keep hB
          clear hB
          replace a0 := obj_cell (i := 0) hY rfl
          replace a1 := obj_cell (i := 1) hY rfl
          replace a2 := obj_cell (i := 2) hY rfl
          replace a3 := obj_cell (i := 3) hY rfl
          replace a4 := obj_cell (i := 4) hY rfl
          replace a5 := obj_cell (i := 5) hY rfl
          replace a6 := obj_cell (i := 6) hY rfl
          rcases print_ways y with (hp | hp) | ⟨hp, hpp⟩
          · exact absurd hp (by rw [printP, if_neg (by rw [HGy.out]; decide)]; split <;> (intro e; simp at e))
          · rw [hp]
            go_wp2_with fail
            go_ret
            exact ⟨rfl, hq.below⟩
          · rw [hp]
            have h2 := parse_any ⟨(textS y).toArray⟩ w6
            go_wp2_with fail
            refine h2.mono ?_
            intro e w7 hpa
            clear h2
            obtain ⟨k1z, σ1z, sl1z, n1z, c1z, k2z, σ2z, sl2z, n2z, c2z, slz, nz, cz, hB, rfl, hrz⟩ := pt_of hpa
            clear hpa
            replace hq := hq.keep hB
            have HRY := Lib.hid (HRY.out.move (S' := fun b => b < w7.heap.size) fun b hb => ⟨Nat.lt_of_lt_of_le hb hB.size, hB.block b hb⟩)
            replace hY := (hB.block _ (World.block_lt_of_cell? _ _ a0)).trans hY
            clear hB
            have hA : Below w7.heap.size w7 (w7.alloc (.cells #[.int .i64 k1z, .string σ1z, .slice sl1z n1z c1z, .int .i64 k2z, .string σ2z, .slice sl2z n2z c2z, .slice slz nz cz] 29)) := (Below.refl _ _).alloc (Nat.le_refl _) _
            have hZ : (w7.alloc (.cells #[.int .i64 k1z, .string σ1z, .slice sl1z n1z c1z, .int .i64 k2z, .string σ2z, .slice sl2z n2z c2z, .slice slz nz cz] 29)).heap[w7.heap.size]? = some (.cells #[.int .i64 k1z, .string σ1z, .slice sl1z n1z c1z, .int .i64 k2z, .string σ2z, .slice sl2z n2z c2z, .slice slz nz cz] 29 (0, 0)) := heap_alloc_new w7 _
            replace hrz := hrz.move (S' := fun b => b < (w7.alloc (.cells #[.int .i64 k1z, .string σ1z, .slice sl1z n1z c1z, .int .i64 k2z, .string σ2z, .slice sl2z n2z c2z, .slice slz nz cz] 29)).heap.size) (W' := w7.alloc (.cells #[.int .i64 k1z, .string σ1z, .slice sl1z n1z c1z, .int .i64 k2z, .string σ2z, .slice sl2z n2z c2z, .slice slz nz cz] 29)) fun b hb => ⟨Nat.lt_of_lt_of_le hb.2 hA.size, hA.block b hb.2⟩
            have HRY := Lib.hid (HRY.out.move (S' := fun b => b < (w7.alloc (.cells #[.int .i64 k1z, .string σ1z, .slice sl1z n1z c1z, .int .i64 k2z, .string σ2z, .slice sl2z n2z c2z, .slice slz nz cz] 29)).heap.size) (W' := w7.alloc (.cells #[.int .i64 k1z, .string σ1z, .slice sl1z n1z c1z, .int .i64 k2z, .string σ2z, .slice sl2z n2z c2z, .slice slz nz cz] 29)) fun b hb => ⟨Nat.lt_of_lt_of_le hb hA.size, hA.block b hb⟩)
            have hlt5 := World.block_lt_of_cell? w7 _ (obj_cell (i := 0) hY rfl)
            replace hY := (hA.block _ hlt5).trans hY
            replace hq := hq.keep hA
            clear hA hlt5
            replace a0 := obj_cell (i := 0) hY rfl
            replace a1 := obj_cell (i := 1) hY rfl
            replace a2 := obj_cell (i := 2) hY rfl
            replace a3 := obj_cell (i := 3) hY rfl
            replace a4 := obj_cell (i := 4) hY rfl
            replace a5 := obj_cell (i := 5) hY rfl
            replace a6 := obj_cell (i := 6) hY rfl
            have b0 := obj_cell (i := 0) hZ rfl
            have b1 := obj_cell (i := 1) hZ rfl
            have b2 := obj_cell (i := 2) hZ rfl
            have b3 := obj_cell (i := 3) hZ rfl
            have b4 := obj_cell (i := 4) hZ rfl
            have b5 := obj_cell (i := 5) hZ rfl
            have b6 := obj_cell (i := 6) hZ rfl
            rcases hpp with hpp | ⟨q, hpp⟩
            · rw [hpp] at hrz ⊢
              simp only [outT] at hrz ⊢
              have hc := rsames_any (few_lim HLy.out) _ _ _ _ _ (fun b hb => hb) (fun b hb => hb) HRY.out hrz
              clear hrz hpp hp
              go_wp2_with fail
              refine hc.mono ?_
              rintro e w8 ⟨rfl, hB⟩
              have HB := Lib.hid (hq.keep hB).below
              clear hc hB
              go_wp2_with fail
              go_ret
              exact ⟨rfl, HB.out⟩
            · rw [hpp]
              simp only [outT]
              clear hrz hpp hp
              go_wp2_with fail
              go_ret
              exact ⟨rfl, hq.below⟩
      · rw [hp]
        clear hp
        have h2 := parse_any s w3
        clear a0 a1 a2 a3 a4 a5 a6
        go_wp2_with fail
        refine h2.mono ?_
        intro e w5 hpa
        clear h2
        obtain ⟨k1y, σ1y, sl1y, n1y, c1y, k2y, σ2y, sl2y, n2y, c2y, sly, ny, cy, hB, rfl, hry⟩ := pt_of hpa
        clear hpa
        replace hq := hq.keep hB
        clear hB
        cases hps : parseP s.data.toList with
        | bad p f =>
          have hf0 := parse_ne hps
          (try rw [hps] at hry)
          simp only [outT] at hry ⊢
          have j1 : (f != 0) = true := bne_iff_ne.2 hf0
          have j2 : (f == 0) = false := beq_eq_false_iff_ne.2 hf0
          have hA : Below w5.heap.size w5 (w5.alloc (.cells #[.int .i64 k1y, .string σ1y, .slice sl1y n1y c1y, .int .i64 k2y, .string σ2y, .slice sl2y n2y c2y, .slice sly ny cy] 29)) := (Below.refl _ _).alloc (Nat.le_refl _) _
          have HB := Lib.hid ((hq.keep hA).below)
          clear hA hry hf0 hps
          go_wp2_with fail
          go_ret
          exact ⟨rfl, HB.out⟩
        | ok y =>
          (try rw [hps] at hry)
          simp only [outT] at hry ⊢
          have HLy := Lib.hid (lim_parse hps)
          have HGy := Lib.hid (parse_good hps)
          clear hps
          have hA : Below w5.heap.size w5 (w5.alloc (.cells #[.int .i64 k1y, .string σ1y, .slice sl1y n1y c1y, .int .i64 k2y, .string σ2y, .slice sl2y n2y c2y, .slice sly ny cy] 29)) := (Below.refl _ _).alloc (Nat.le_refl _) _
          have hY : (w5.alloc (.cells #[.int .i64 k1y, .string σ1y, .slice sl1y n1y c1y, .int .i64 k2y, .string σ2y, .slice sl2y n2y c2y, .slice sly ny cy] 29)).heap[w5.heap.size]? = some (.cells #[.int .i64 k1y, .string σ1y, .slice sl1y n1y c1y, .int .i64 k2y, .string σ2y, .slice sl2y n2y c2y, .slice sly ny cy] 29 (0, 0)) := heap_alloc_new w5 _
          replace hry := hry.move (S' := fun b => b < (w5.alloc (.cells #[.int .i64 k1y, .string σ1y, .slice sl1y n1y c1y, .int .i64 k2y, .string σ2y, .slice sl2y n2y c2y, .slice sly ny cy] 29)).heap.size) (W' := w5.alloc (.cells #[.int .i64 k1y, .string σ1y, .slice sl1y n1y c1y, .int .i64 k2y, .string σ2y, .slice sl2y n2y c2y, .slice sly ny cy] 29)) fun b hb => ⟨Nat.lt_of_lt_of_le hb.2 hA.size, hA.block b hb.2⟩
          replace hq := hq.keep hA
          have HRY := Lib.hid hry
          clear hry hA
          have a0 := obj_cell (i := 0) hY rfl
          have a1 := obj_cell (i := 1) hY rfl
          have a2 := obj_cell (i := 2) hY rfl
          have a3 := obj_cell (i := 3) hY rfl
          have a4 := obj_cell (i := 4) hY rfl
          have a5 := obj_cell (i := 5) hY rfl
          have a6 := obj_cell (i := 6) hY rfl
          have h2 := print_any HLy.out _ _ _ (fun b hb => hb) HRY.out
          go_wp2_with fail
          refine h2.mono ?_
          rintro e w6 ⟨hB, rfl⟩
          clear h2
          have HRY := Lib.hid (HRY.out.move (S' := fun b => b < w6.heap.size) fun b hb => ⟨Nat.lt_of_lt_of_le hb hB.size, hB.block b hb⟩)
          replace hY := (hB.block _ (by simp)).trans hY
          replace hq := hq.keep hB
          clear hB
          replace a0 := obj_cell (i := 0) hY rfl
          replace a1 := obj_cell (i := 1) hY rfl
          replace a2 := obj_cell (i := 2) hY rfl
          replace a3 := obj_cell (i := 3) hY rfl
          replace a4 := obj_cell (i := 4) hY rfl
          replace a5 := obj_cell (i := 5) hY rfl
          replace a6 := obj_cell (i := 6) hY rfl
          rcases print_ways y with (hp | hp) | ⟨hp, hpp⟩
          · exact absurd hp (by rw [printP, if_neg (by rw [HGy.out]; decide)]; split <;> (intro e; simp at e))
          · rw [hp]
            go_wp2_with fail
            go_ret
            exact ⟨rfl, hq.below⟩
          · rw [hp]
            have h2 := parse_any ⟨(textS y).toArray⟩ w6
            go_wp2_with fail
            refine h2.mono ?_
            intro e w7 hpa
            clear h2
            obtain ⟨k1z, σ1z, sl1z, n1z, c1z, k2z, σ2z, sl2z, n2z, c2z, slz, nz, cz, hB, rfl, hrz⟩ := pt_of hpa
            clear hpa
            replace hq := hq.keep hB
            have HRY := Lib.hid (HRY.out.move (S' := fun b => b < w7.heap.size) fun b hb => ⟨Nat.lt_of_lt_of_le hb hB.size, hB.block b hb⟩)
            replace hY := (hB.block _ (World.block_lt_of_cell? _ _ a0)).trans hY
            clear hB
            have hA : Below w7.heap.size w7 (w7.alloc (.cells #[.int .i64 k1z, .string σ1z, .slice sl1z n1z c1z, .int .i64 k2z, .string σ2z, .slice sl2z n2z c2z, .slice slz nz cz] 29)) := (Below.refl _ _).alloc (Nat.le_refl _) _
            have hZ : (w7.alloc (.cells #[.int .i64 k1z, .string σ1z, .slice sl1z n1z c1z, .int .i64 k2z, .string σ2z, .slice sl2z n2z c2z, .slice slz nz cz] 29)).heap[w7.heap.size]? = some (.cells #[.int .i64 k1z, .string σ1z, .slice sl1z n1z c1z, .int .i64 k2z, .string σ2z, .slice sl2z n2z c2z, .slice slz nz cz] 29 (0, 0)) := heap_alloc_new w7 _
            replace hrz := hrz.move (S' := fun b => b < (w7.alloc (.cells #[.int .i64 k1z, .string σ1z, .slice sl1z n1z c1z, .int .i64 k2z, .string σ2z, .slice sl2z n2z c2z, .slice slz nz cz] 29)).heap.size) (W' := w7.alloc (.cells #[.int .i64 k1z, .string σ1z, .slice sl1z n1z c1z, .int .i64 k2z, .string σ2z, .slice sl2z n2z c2z, .slice slz nz cz] 29)) fun b hb => ⟨Nat.lt_of_lt_of_le hb.2 hA.size, hA.block b hb.2⟩
            have HRY := Lib.hid (HRY.out.move (S' := fun b => b < (w7.alloc (.cells #[.int .i64 k1z, .string σ1z, .slice sl1z n1z c1z, .int .i64 k2z, .string σ2z, .slice sl2z n2z c2z, .slice slz nz cz] 29)).heap.size) (W' := w7.alloc (.cells #[.int .i64 k1z, .string σ1z, .slice sl1z n1z c1z, .int .i64 k2z, .string σ2z, .slice sl2z n2z c2z, .slice slz nz cz] 29)) fun b hb => ⟨Nat.lt_of_lt_of_le hb hA.size, hA.block b hb⟩)
            have hlt5 := World.block_lt_of_cell? w7 _ (obj_cell (i := 0) hY rfl)
            replace hY := (hA.block _ hlt5).trans hY
            replace hq := hq.keep hA
            clear hA hlt5
            replace a0 := obj_cell (i := 0) hY rfl
            replace a1 := obj_cell (i := 1) hY rfl
            replace a2 := obj_cell (i := 2) hY rfl
            replace a3 := obj_cell (i := 3) hY rfl
            replace a4 := obj_cell (i := 4) hY rfl
            replace a5 := obj_cell (i := 5) hY rfl
            replace a6 := obj_cell (i := 6) hY rfl
            have b0 := obj_cell (i := 0) hZ rfl
            have b1 := obj_cell (i := 1) hZ rfl
            have b2 := obj_cell (i := 2) hZ rfl
            have b3 := obj_cell (i := 3) hZ rfl
            have b4 := obj_cell (i := 4) hZ rfl
            have b5 := obj_cell (i := 5) hZ rfl
            have b6 := obj_cell (i := 6) hZ rfl
            rcases hpp with hpp | ⟨q, hpp⟩
            · rw [hpp] at hrz ⊢
              simp only [outT] at hrz ⊢
              have hc := rsames_any (few_lim HLy.out) _ _ _ _ _ (fun b hb => hb) (fun b hb => hb) HRY.out hrz
              clear hrz hpp hp
              go_wp2_with fail
              refine hc.mono ?_
              rintro e w8 ⟨rfl, hB⟩
              have HB := Lib.hid (hq.keep hB).below
              clear hc hB
              go_wp2_with fail
              go_ret
              exact ⟨rfl, HB.out⟩
            · rw [hpp]
              simp only [outT]
              clear hrz hpp hp
              go_wp2_with fail
              go_ret
              exact ⟨rfl, hq.below⟩
    · rw [hp]
      have h2 := parse_any ⟨(textS x).toArray⟩ w3
      go_wp2_with fail
      refine h2.mono ?_
      intro e w4 hpa
      clear h2
      obtain ⟨k1u, σ1u, sl1u, n1u, c1u, k2u, σ2u, sl2u, n2u, c2u, slu, nu, cu, hB, rfl, hru⟩ := pt_of hpa
      clear hpa
      replace hq := hq.keep hB
      clear hB
      have hA : Below w4.heap.size w4 (w4.alloc (.cells #[.int .i64 k1u, .string σ1u, .slice sl1u n1u c1u, .int .i64 k2u, .string σ2u, .slice sl2u n2u c2u, .slice slu nu cu] 29)) := (Below.refl _ _).alloc (Nat.le_refl _) _
      have hU : (w4.alloc (.cells #[.int .i64 k1u, .string σ1u, .slice sl1u n1u c1u, .int .i64 k2u, .string σ2u, .slice sl2u n2u c2u, .slice slu nu cu] 29)).heap[w4.heap.size]? = some (.cells #[.int .i64 k1u, .string σ1u, .slice sl1u n1u c1u, .int .i64 k2u, .string σ2u, .slice sl2u n2u c2u, .slice slu nu cu] 29 (0, 0)) := heap_alloc_new w4 _
      replace hru := hru.move (S' := fun b => b < (w4.alloc (.cells #[.int .i64 k1u, .string σ1u, .slice sl1u n1u c1u, .int .i64 k2u, .string σ2u, .slice sl2u n2u c2u, .slice slu nu cu] 29)).heap.size) (W' := w4.alloc (.cells #[.int .i64 k1u, .string σ1u, .slice sl1u n1u c1u, .int .i64 k2u, .string σ2u, .slice sl2u n2u c2u, .slice slu nu cu] 29)) fun b hb => ⟨Nat.lt_of_lt_of_le hb.2 hA.size, hA.block b hb.2⟩
      replace hq := hq.keep hA
      clear hA
      replace a0 := obj_cell (i := 0) hq.bx rfl
      replace a1 := obj_cell (i := 1) hq.bx rfl
      replace a2 := obj_cell (i := 2) hq.bx rfl
      replace a3 := obj_cell (i := 3) hq.bx rfl
      replace a4 := obj_cell (i := 4) hq.bx rfl
      replace a5 := obj_cell (i := 5) hq.bx rfl
      replace a6 := obj_cell (i := 6) hq.bx rfl
      have b0 := obj_cell (i := 0) hU rfl
      have b1 := obj_cell (i := 1) hU rfl
      have b2 := obj_cell (i := 2) hU rfl
      have b3 := obj_cell (i := 3) hU rfl
      have b4 := obj_cell (i := 4) hU rfl
      have b5 := obj_cell (i := 5) hU rfl
      have b6 := obj_cell (i := 6) hU rfl
      rcases hpp with hpp | ⟨q, hpp⟩
      · rw [hpp] at hru ⊢
        simp only [outT] at hru ⊢
        have hc := rsames_any (few_lim HL.out) _ _ _ _ _ (fun b (hb : b < W.heap.size) => Nat.lt_of_lt_of_le hb hq.below.size) (fun b hb => hb) (HR.out.move fun b hb => ⟨hb, hq.below.block b hb⟩) hru
        clear hru hpp hp hU
        go_wp2_with fail
        refine hc.mono ?_
        rintro e w8 ⟨rfl, hB⟩
        replace hq := hq.keep hB
        clear hc hB b0 b1 b2 b3 b4 b5 b6
        replace a0 := obj_cell (i := 0) hq.bx rfl
        replace a1 := obj_cell (i := 1) hq.bx rfl
        replace a2 := obj_cell (i := 2) hq.bx rfl
        replace a3 := obj_cell (i := 3) hq.bx rfl
        replace a4 := obj_cell (i := 4) hq.bx rfl
        replace a5 := obj_cell (i := 5) hq.bx rfl
        replace a6 := obj_cell (i := 6) hq.bx rfl
        have h2 := parse_any s w8
        clear a0 a1 a2 a3 a4 a5 a6
        go_wp2_with fail
        refine h2.mono ?_
        intro e w5 hpa
        clear h2
        obtain ⟨k1y, σ1y, sl1y, n1y, c1y, k2y, σ2y, sl2y, n2y, c2y, sly, ny, cy, hB, rfl, hry⟩ := pt_of hpa
        clear hpa
        replace hq := hq.keep hB
        clear hB
        cases hps : parseP s.data.toList with
        | bad p f =>
          have hf0 := parse_ne hps
          (try rw [hps] at hry)
          simp only [outT] at hry ⊢
          have j1 : (f != 0) = true := bne_iff_ne.2 hf0
          have j2 : (f == 0) = false := beq_eq_false_iff_ne.2 hf0
          have hA : Below w5.heap.size w5 (w5.alloc (.cells #[.int .i64 k1y, .string σ1y, .slice sl1y n1y c1y, .int .i64 k2y, .string σ2y, .slice sl2y n2y c2y, .slice sly ny cy] 29)) := (Below.refl _ _).alloc (Nat.le_refl _) _
          have HB := Lib.hid ((hq.keep hA).below)
          clear hA hry hf0 hps
          go_wp2_with fail
          go_ret
          exact ⟨rfl, HB.out⟩
        | ok y =>
          (try rw [hps] at hry)
          simp only [outT] at hry ⊢
          have HLy := Lib.hid (lim_parse hps)
          have HGy := Lib.hid (parse_good hps)
          clear hps
          have hA : Below w5.heap.size w5 (w5.alloc (.cells #[.int .i64 k1y, .string σ1y, .slice sl1y n1y c1y, .int .i64 k2y, .string σ2y, .slice sl2y n2y c2y, .slice sly ny cy] 29)) := (Below.refl _ _).alloc (Nat.le_refl _) _
          have hY : (w5.alloc (.cells #[.int .i64 k1y, .string σ1y, .slice sl1y n1y c1y, .int .i64 k2y, .string σ2y, .slice sl2y n2y c2y, .slice sly ny cy] 29)).heap[w5.heap.size]? = some (.cells #[.int .i64 k1y, .string σ1y, .slice sl1y n1y c1y, .int .i64 k2y, .string σ2y, .slice sl2y n2y c2y, .slice sly ny cy] 29 (0, 0)) := heap_alloc_new w5 _
          replace hry := hry.move (S' := fun b => b < (w5.alloc (.cells #[.int .i64 k1y, .string σ1y, .slice sl1y n1y c1y, .int .i64 k2y, .string σ2y, .slice sl2y n2y c2y, .slice sly ny cy] 29)).heap.size) (W' := w5.alloc (.cells #[.int .i64 k1y, .string σ1y, .slice sl1y n1y c1y, .int .i64 k2y, .string σ2y, .slice sl2y n2y c2y, .slice sly ny cy] 29)) fun b hb => ⟨Nat.lt_of_lt_of_le hb.2 hA.size, hA.block b hb.2⟩
          replace hq := hq.keep hA
          have HRY := Lib.hid hry
          clear hry hA
          have a0 := obj_cell (i := 0) hY rfl
          have a1 := obj_cell (i := 1) hY rfl
          have a2 := obj_cell (i := 2) hY rfl
          have a3 := obj_cell (i := 3) hY rfl
          have a4 := obj_cell (i := 4) hY rfl
          have a5 := obj_cell (i := 5) hY rfl
          have a6 := obj_cell (i := 6) hY rfl
          have h2 := print_any HLy.out _ _ _ (fun b hb => hb) HRY.out
          go_wp2_with fail
          refine h2.mono ?_
          rintro e w6 ⟨hB, rfl⟩
          clear h2
          have HRY := Lib.hid (HRY.out.move (S' := fun b => b < w6.heap.size) fun b hb => ⟨Nat.lt_of_lt_of_le hb hB.size, hB.block b hb⟩)
          replace hY := (hB.block _ (by simp)).trans hY
          replace hq := hq.keep hB
          clear hB
          replace a0 := obj_cell (i := 0) hY rfl
          replace a1 := obj_cell (i := 1) hY rfl
          replace a2 := obj_cell (i := 2) hY rfl
          replace a3 := obj_cell (i := 3) hY rfl
          replace a4 := obj_cell (i := 4) hY rfl
          replace a5 := obj_cell (i := 5) hY rfl
          replace a6 := obj_cell (i := 6) hY rfl
          rcases print_ways y with (hp | hp) | ⟨hp, hpp⟩
          · exact absurd hp (by rw [printP, if_neg (by rw [HGy.out]; decide)]; split <;> (intro e; simp at e))
          · rw [hp]
            go_wp2_with fail
            go_ret
            exact ⟨rfl, hq.below⟩
          · rw [hp]
            have h2 := parse_any ⟨(textS y).toArray⟩ w6
            go_wp2_with fail
            refine h2.mono ?_
            intro e w7 hpa
            clear h2
            obtain ⟨k1z, σ1z, sl1z, n1z, c1z, k2z, σ2z, sl2z, n2z, c2z, slz, nz, cz, hB, rfl, hrz⟩ := pt_of hpa
            clear hpa
            replace hq := hq.keep hB
            have HRY := Lib.hid (HRY.out.move (S' := fun b => b < w7.heap.size) fun b hb => ⟨Nat.lt_of_lt_of_le hb hB.size, hB.block b hb⟩)
            replace hY := (hB.block _ (World.block_lt_of_cell? _ _ a0)).trans hY
            clear hB
            have hA : Below w7.heap.size w7 (w7.alloc (.cells #[.int .i64 k1z, .string σ1z, .slice sl1z n1z c1z, .int .i64 k2z, .string σ2z, .slice sl2z n2z c2z, .slice slz nz cz] 29)) := (Below.refl _ _).alloc (Nat.le_refl _) _
            have hZ : (w7.alloc (.cells #[.int .i64 k1z, .string σ1z, .slice sl1z n1z c1z, .int .i64 k2z, .string σ2z, .slice sl2z n2z c2z, .slice slz nz cz] 29)).heap[w7.heap.size]? = some (.cells #[.int .i64 k1z, .string σ1z, .slice sl1z n1z c1z, .int .i64 k2z, .string σ2z, .slice sl2z n2z c2z, .slice slz nz cz] 29 (0, 0)) := heap_alloc_new w7 _
            replace hrz := hrz.move (S' := fun b => b < (w7.alloc (.cells #[.int .i64 k1z, .string σ1z, .slice sl1z n1z c1z, .int .i64 k2z, .string σ2z, .slice sl2z n2z c2z, .slice slz nz cz] 29)).heap.size) (W' := w7.alloc (.cells #[.int .i64 k1z, .string σ1z, .slice sl1z n1z c1z, .int .i64 k2z, .string σ2z, .slice sl2z n2z c2z, .slice slz nz cz] 29)) fun b hb => ⟨Nat.lt_of_lt_of_le hb.2 hA.size, hA.block b hb.2⟩
            have HRY := Lib.hid (HRY.out.move (S' := fun b => b < (w7.alloc (.cells #[.int .i64 k1z, .string σ1z, .slice sl1z n1z c1z, .int .i64 k2z, .string σ2z, .slice sl2z n2z c2z, .slice slz nz cz] 29)).heap.size) (W' := w7.alloc (.cells #[.int .i64 k1z, .string σ1z, .slice sl1z n1z c1z, .int .i64 k2z, .string σ2z, .slice sl2z n2z c2z, .slice slz nz cz] 29)) fun b hb => ⟨Nat.lt_of_lt_of_le hb hA.size, hA.block b hb⟩)
            have hlt5 := World.block_lt_of_cell? w7 _ (obj_cell (i := 0) hY rfl)
            replace hY := (hA.block _ hlt5).trans hY
            replace hq := hq.keep hA
            clear hA hlt5
            replace a0 := obj_cell (i := 0) hY rfl
            replace a1 := obj_cell (i := 1) hY rfl
            replace a2 := obj_cell (i := 2) hY rfl
            replace a3 := obj_cell (i := 3) hY rfl
            replace a4 := obj_cell (i := 4) hY rfl
            replace a5 := obj_cell (i := 5) hY rfl
            replace a6 := obj_cell (i := 6) hY rfl
            have b0 := obj_cell (i := 0) hZ rfl
            have b1 := obj_cell (i := 1) hZ rfl
            have b2 := obj_cell (i := 2) hZ rfl
            have b3 := obj_cell (i := 3) hZ rfl
            have b4 := obj_cell (i := 4) hZ rfl
            have b5 := obj_cell (i := 5) hZ rfl
            have b6 := obj_cell (i := 6) hZ rfl
            rcases hpp with hpp | ⟨q, hpp⟩
            · rw [hpp] at hrz ⊢
              simp only [outT] at hrz ⊢
              have hc := rsames_any (few_lim HLy.out) _ _ _ _ _ (fun b hb => hb) (fun b hb => hb) HRY.out hrz
              clear hrz hpp hp
              go_wp2_with fail
              refine hc.mono ?_
              rintro e w8 ⟨rfl, hB⟩
              have HB := Lib.hid (hq.keep hB).below
              clear hc hB
              go_wp2_with fail
              go_ret
              exact ⟨rfl, HB.out⟩
            · rw [hpp]
              simp only [outT]
              clear hrz hpp hp
              go_wp2_with fail
              go_ret
              exact ⟨rfl, hq.below⟩
      · rw [hpp]
        simp only [outT]
        clear hru hpp hp hU b0 b1 b2 b3 b4 b5 b6
        have h2 := parse_any s (w4.alloc (.cells #[.int .i64 k1u, .string σ1u, .slice sl1u n1u c1u, .int .i64 k2u, .string σ2u, .slice sl2u n2u c2u, .slice slu nu cu] 29))
        clear a0 a1 a2 a3 a4 a5 a6
        go_wp2_with fail
        refine h2.mono ?_
        intro e w5 hpa
        clear h2
        obtain ⟨k1y, σ1y, sl1y, n1y, c1y, k2y, σ2y, sl2y, n2y, c2y, sly, ny, cy, hB, rfl, hry⟩ := pt_of hpa
        clear hpa
        replace hq := hq.keep hB
        clear hB
        cases hps : parseP s.data.toList with
        | bad p f =>
          have hf0 := parse_ne hps
          (try rw [hps] at hry)
          simp only [outT] at hry ⊢
          have j1 : (f != 0) = true := bne_iff_ne.2 hf0
          have j2 : (f == 0) = false := beq_eq_false_iff_ne.2 hf0
          have hA : Below w5.heap.size w5 (w5.alloc (.cells #[.int .i64 k1y, .string σ1y, .slice sl1y n1y c1y, .int .i64 k2y, .string σ2y, .slice sl2y n2y c2y, .slice sly ny cy] 29)) := (Below.refl _ _).alloc (Nat.le_refl _) _
          have HB := Lib.hid ((hq.keep hA).below)
          clear hA hry hf0 hps
          go_wp2_with fail
          go_ret
          exact ⟨rfl, HB.out⟩
        | ok y =>
          (try rw [hps] at hry)
          simp only [outT] at hry ⊢
          have HLy := Lib.hid (lim_parse hps)
          have HGy := Lib.hid (parse_good hps)
          clear hps
          have hA : Below w5.heap.size w5 (w5.alloc (.cells #[.int .i64 k1y, .string σ1y, .slice sl1y n1y c1y, .int .i64 k2y, .string σ2y, .slice sl2y n2y c2y, .slice sly ny cy] 29)) := (Below.refl _ _).alloc (Nat.le_refl _) _
          have hY : (w5.alloc (.cells #[.int .i64 k1y, .string σ1y, .slice sl1y n1y c1y, .int .i64 k2y, .string σ2y, .slice sl2y n2y c2y, .slice sly ny cy] 29)).heap[w5.heap.size]? = some (.cells #[.int .i64 k1y, .string σ1y, .slice sl1y n1y c1y, .int .i64 k2y, .string σ2y, .slice sl2y n2y c2y, .slice sly ny cy] 29 (0, 0)) := heap_alloc_new w5 _
          replace hry := hry.move (S' := fun b => b < (w5.alloc (.cells #[.int .i64 k1y, .string σ1y, .slice sl1y n1y c1y, .int .i64 k2y, .string σ2y, .slice sl2y n2y c2y, .slice sly ny cy] 29)).heap.size) (W' := w5.alloc (.cells #[.int .i64 k1y, .string σ1y, .slice sl1y n1y c1y, .int .i64 k2y, .string σ2y, .slice sl2y n2y c2y, .slice sly ny cy] 29)) fun b hb => ⟨Nat.lt_of_lt_of_le hb.2 hA.size, hA.block b hb.2⟩
          replace hq := hq.keep hA
          have HRY := Lib.hid hry
          clear hry hA
          have a0 := obj_cell (i := 0) hY rfl
          have a1 := obj_cell (i := 1) hY rfl
          have a2 := obj_cell (i := 2) hY rfl
          have a3 := obj_cell (i := 3) hY rfl
          have a4 := obj_cell (i := 4) hY rfl
          have a5 := obj_cell (i := 5) hY rfl
          have a6 := obj_cell (i := 6) hY rfl
          have h2 := print_any HLy.out _ _ _ (fun b hb => hb) HRY.out
          go_wp2_with fail
          refine h2.mono ?_
          rintro e w6 ⟨hB, rfl⟩
          clear h2
          have HRY := Lib.hid (HRY.out.move (S' := fun b => b < w6.heap.size) fun b hb => ⟨Nat.lt_of_lt_of_le hb hB.size, hB.block b hb⟩)
          replace hY := (hB.block _ (by simp)).trans hY
          replace hq := hq.keep hB
          clear hB
          replace a0 := obj_cell (i := 0) hY rfl
          replace a1 := obj_cell (i := 1) hY rfl
          replace a2 := obj_cell (i := 2) hY rfl
          replace a3 := obj_cell (i := 3) hY rfl
          replace a4 := obj_cell (i := 4) hY rfl
          replace a5 := obj_cell (i := 5) hY rfl
          replace a6 := obj_cell (i := 6) hY rfl
          rcases print_ways y with (hp | hp) | ⟨hp, hpp⟩
          · exact absurd hp (by rw [printP, if_neg (by rw [HGy.out]; decide)]; split <;> (intro e; simp at e))
          · rw [hp]
            go_wp2_with fail
            go_ret
            exact ⟨rfl, hq.below⟩
          · rw [hp]
            have h2 := parse_any ⟨(textS y).toArray⟩ w6
            go_wp2_with fail
            refine h2.mono ?_
            intro e w7 hpa
            clear h2
            obtain ⟨k1z, σ1z, sl1z, n1z, c1z, k2z, σ2z, sl2z, n2z, c2z, slz, nz, cz, hB, rfl, hrz⟩ := pt_of hpa
            clear hpa
            replace hq := hq.keep hB
            have HRY := Lib.hid (HRY.out.move (S' := fun b => b < w7.heap.size) fun b hb => ⟨Nat.lt_of_lt_of_le hb hB.size, hB.block b hb⟩)
            replace hY := (hB.block _ (World.block_lt_of_cell? _ _ a0)).trans hY
            clear hB
            have hA : Below w7.heap.size w7 (w7.alloc (.cells #[.int .i64 k1z, .string σ1z, .slice sl1z n1z c1z, .int .i64 k2z, .string σ2z, .slice sl2z n2z c2z, .slice slz nz cz] 29)) := (Below.refl _ _).alloc (Nat.le_refl _) _
            have hZ : (w7.alloc (.cells #[.int .i64 k1z, .string σ1z, .slice sl1z n1z c1z, .int .i64 k2z, .string σ2z, .slice sl2z n2z c2z, .slice slz nz cz] 29)).heap[w7.heap.size]? = some (.cells #[.int .i64 k1z, .string σ1z, .slice sl1z n1z c1z, .int .i64 k2z, .string σ2z, .slice sl2z n2z c2z, .slice slz nz cz] 29 (0, 0)) := heap_alloc_new w7 _
            replace hrz := hrz.move (S' := fun b => b < (w7.alloc (.cells #[.int .i64 k1z, .string σ1z, .slice sl1z n1z c1z, .int .i64 k2z, .string σ2z, .slice sl2z n2z c2z, .slice slz nz cz] 29)).heap.size) (W' := w7.alloc (.cells #[.int .i64 k1z, .string σ1z, .slice sl1z n1z c1z, .int .i64 k2z, .string σ2z, .slice sl2z n2z c2z, .slice slz nz cz] 29)) fun b hb => ⟨Nat.lt_of_lt_of_le hb.2 hA.size, hA.block b hb.2⟩
            have HRY := Lib.hid (HRY.out.move (S' := fun b => b < (w7.alloc (.cells #[.int .i64 k1z, .string σ1z, .slice sl1z n1z c1z, .int .i64 k2z, .string σ2z, .slice sl2z n2z c2z, .slice slz nz cz] 29)).heap.size) (W' := w7.alloc (.cells #[.int .i64 k1z, .string σ1z, .slice sl1z n1z c1z, .int .i64 k2z, .string σ2z, .slice sl2z n2z c2z, .slice slz nz cz] 29)) fun b hb => ⟨Nat.lt_of_lt_of_le hb hA.size, hA.block b hb⟩)
            have hlt5 := World.block_lt_of_cell? w7 _ (obj_cell (i := 0) hY rfl)
            replace hY := (hA.block _ hlt5).trans hY
            replace hq := hq.keep hA
            clear hA hlt5
            replace a0 := obj_cell (i := 0) hY rfl
            replace a1 := obj_cell (i := 1) hY rfl
            replace a2 := obj_cell (i := 2) hY rfl
            replace a3 := obj_cell (i := 3) hY rfl
            replace a4 := obj_cell (i := 4) hY rfl
            replace a5 := obj_cell (i := 5) hY rfl
            replace a6 := obj_cell (i := 6) hY rfl
            have b0 := obj_cell (i := 0) hZ rfl
            have b1 := obj_cell (i := 1) hZ rfl
            have b2 := obj_cell (i := 2) hZ rfl
            have b3 := obj_cell (i := 3) hZ rfl
            have b4 := obj_cell (i := 4) hZ rfl
            have b5 := obj_cell (i := 5) hZ rfl
            have b6 := obj_cell (i := 6) hZ rfl
            rcases hpp with hpp | ⟨q, hpp⟩
            · rw [hpp] at hrz ⊢
              simp only [outT] at hrz ⊢
              have hc := rsames_any (few_lim HLy.out) _ _ _ _ _ (fun b hb => hb) (fun b hb => hb) HRY.out hrz
              clear hrz hpp hp
              go_wp2_with fail
              refine hc.mono ?_
              rintro e w8 ⟨rfl, hB⟩
              have HB := Lib.hid (hq.keep hB).below
              clear hc hB
              go_wp2_with fail
              go_ret
              exact ⟨rfl, HB.out⟩
            · rw [hpp]
              simp only [outT]
              clear hrz hpp hp
              go_wp2_with fail
              go_ret
              exact ⟨rfl, hq.below⟩
end Rc
end Go.Proofs.Ytcigggffaofkhaa
