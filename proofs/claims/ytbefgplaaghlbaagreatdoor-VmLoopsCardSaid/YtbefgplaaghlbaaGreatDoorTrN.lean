/-
  Walks: slices.Equal at files; tree.Good; the reference's Same of trees.
-/
import Derived.Test.YtbefgplaaghlbaaGreatDoorTrM
namespace Go.Proofs.YtbefgplaaghlbaaGreatDoor
open Go.RowKit Go.Shelf Go.Lib Go.Sort
namespace Tr

theorem FS.len {w : World} {v : Value} {l : List F} (h : FS w v l) : ∃ sl cap, v = .slice sl l.length cap := by
  rcases h with ⟨rfl, rfl⟩ | ⟨g, off, cap, rfl, -⟩
  · exact ⟨_, _, rfl⟩
  · exact ⟨_, _, rfl⟩
theorem FS.form {w : World} {v : Value} {l : List F} (h : FS w v l) : ∃ (sl : Option Addr) (cap : Nat), v = .slice sl l.length cap ∧ ∀ k f, l[k]? = some f → ∃ g o, sl = some ⟨g, o, none⟩ ∧ g < w.heap.size ∧ w.cell? ⟨g, o + k * 2, none⟩ = some (.string f.1) ∧ w.cell? ⟨g, o + k * 2 + 1, none⟩ = some (.string f.2) := by
  rcases h with ⟨rfl, rfl⟩ | ⟨g, off, cap, rfl, hF⟩
  · exact ⟨none, 0, rfl, fun k f h => by simp at h⟩
  · exact ⟨_, _, rfl, fun k f hk => ⟨g, off, rfl, hF.1, (hF.2 k f hk).1, (hF.2 k f hk).2⟩⟩
theorem FS.keep {w w' : World} {v : Value} {l : List F} (h : FS w v l) (hb : Below w.heap.size w w') : FS w' v l := by
  rcases h with h | ⟨g, off, cap, hv, hF⟩
  · exact .inl h
  · exact .inr ⟨g, off, cap, hv, hF.keep hb⟩
/-- files that stand side by side, up to k -/
def eqTo (a b : List F) (k : Nat) : Prop := a.take k = b.take k
theorem eq_next {a b : List F} {k : Nat} {x y : F} (h : a.take k = b.take k) (hx : a[k]? = some x) (hy : b[k]? = some y) (e : x = y) : a.take (k + 1) = b.take (k + 1) := by
  rw [take_snoc hx, take_snoc hy, h, e]
theorem eq_not {a b : List F} {k : Nat} {x y : F} (hx : a[k]? = some x) (hy : b[k]? = some y) (e : x ≠ y) : a ≠ b := by
  rintro rfl
  exact e (Option.some.inj (hx.symm.trans hy))
set_option maxHeartbeats 1000000 in
set_option maxRecDepth 100000 in
theorem equal_any (a b : List F) (va vb : Value) (w : World) (hA : FS w va a) (hB : FS w vb b) (hl' : b.length ≤ 1000000) :
    Calls Tryz.prog 35 #[va, vb] w fun e w' => e = .returned (.bool (decide (a = b))) ∧ Below w.heap.size w w' := by
  obtain ⟨sa, ca, rfl, hfa⟩ := hA.form
  obtain ⟨sb, cb, rfl, hfb⟩ := hB.form
  have HA := Lib.hid hfa
  have HB := Lib.hid hfb
  clear hfa hfb hA hB
  by_cases hn : a.length = b.length
  · have HN := Lib.hid hn
    rw [hn]
    clear hn
    generalize hL : b.length = n at *
    have HL := Lib.hid hL
    clear hL
    go_enter Tryz.func35, Tryz.ntmps35
    go_wp2_with fail
    go_loopw [13] (fun i wr => ∃ k : Nat, k ≤ n ∧ i = .int .i64 (k : Int) ∧ a.take k = b.take k ∧ Below w.heap.size w wr) (fun i _ => n - (RowKit.intOf i).toNat)
    case atStart => exact ⟨0, Nat.zero_le _, rfl, rfl, Below.refl _ _⟩
    case round =>
      obtain ⟨k, hk, rfl, ht, hb⟩ := hrel
      have HT := Lib.hid ht
      clear ht
      by_cases hlt : k < n
      · obtain ⟨x, hx⟩ : ∃ x, a[k]? = some x := ⟨a[k]'(by rw [HN.out]; exact hlt), List.getElem?_eq_getElem _⟩
        obtain ⟨y, hy⟩ : ∃ y, b[k]? = some y := ⟨b[k]'(by rw [HL.out]; exact hlt), List.getElem?_eq_getElem _⟩
        obtain ⟨g, o, rfl, hg, c0, c1⟩ := HA.out k x hx
        obtain ⟨g', o', rfl, hg', c0', c1'⟩ := HB.out k y hy
        replace c0 := (hb.cell (p := ⟨g, o + k * 2, none⟩) hg).trans c0
        replace c1 := (hb.cell (p := ⟨g, o + k * 2 + 1, none⟩) hg).trans c1
        replace c0' := (hb.cell (p := ⟨g', o' + k * 2, none⟩) hg').trans c0'
        replace c1' := (hb.cell (p := ⟨g', o' + k * 2 + 1, none⟩) hg').trans c1'
        have HX := Lib.hid (And.intro hx hy)
        clear hx hy
        by_cases he : x = y
        · subst he
          go_wp2_with fail
          go_quiet (fail)
          go_wp2_with fail
          go_roundw
          case rel => exact ⟨k + 1, by omega, by push_cast; rfl, eq_next HT.out HX.out.1 HX.out.2 rfl, Sx.below_drewN hb _⟩
          case measure => simp [RowKit.intOf]; omega
        · have HR := Lib.hid (decide_eq_false (eq_not HX.out.1 HX.out.2 he))
          obtain ⟨x1, x2⟩ := x
          obtain ⟨y1, y2⟩ := y
          by_cases h1 : x1 = y1
          · subst h1
            have h2 := Sx.seq_ff (fun h : x2 = y2 => he (by rw [h]))
            clear he
            go_wp2_with fail
            go_quiet (fail)
            go_wp2_with fail
            go_ret
            rw [HR.out]
            exact ⟨rfl, Sx.below_drewN hb _⟩
          · have h2 := Sx.seq_ff h1
            clear he h1
            go_wp2_with fail
            go_quiet (fail)
            go_wp2_with fail
            go_ret
            rw [HR.out]
            exact ⟨rfl, Sx.below_drewN hb _⟩
      · obtain rfl : k = n := by omega
        have HR := Lib.hid (show decide (a = b) = true by
          have h1 := HN.out
          have h2 := HL.out
          have := HT.out
          rw [List.take_of_length_le (by omega), List.take_of_length_le (by omega)] at this
          exact decide_eq_true this)
        go_wp2_with fail
        go_ret
        rw [HR.out]
        exact ⟨rfl, hb⟩
  · have HR := Lib.hid (show decide (a = b) = false from decide_eq_false fun e => hn (by rw [e]))
    have h1 : ((a.length : Int) == b.length) = false := by rw [beq_eq_false_iff_ne]; omega
    go_enter Tryz.func35, Tryz.ntmps35
    go_wp2_with fail
    go_ret
    rw [HR.out]
    exact ⟨rfl, Below.refl _ _⟩
theorem make_err {l : List F} {c : Int} (h : makeP l = .error c) : c ≠ 0 := by
  have hb : ∀ l : List F, badF l = some c → c ≠ 0 := by
    intro l
    induction l with
    | nil => intro h; cases h
    | cons f l ih =>
      intro h
      rw [badF] at h
      split at h
      · cases h; decide
      · split at h
        · cases h; decide
        · exact ih h
  unfold makeP at h
  split at h
  · cases h; decide
  · split at h
    · rename_i e he
      cases h
      exact hb l he
    · split at h
      · cases h; decide
      · split at h
        · cases h; decide
        · cases h
theorem make_fs (l : List F) (v : Value) (w : World) (hE : Vm.Env w) (hF : FS w v l) (hs : ∀ f ∈ l, f.1.size ≤ 1000000) (hl : l.length ≤ 1000000) :
    Calls Tryz.prog 34 #[v] w (MakeOut w l) := by
  rcases hF with ⟨rfl, rfl⟩ | ⟨g, off, cap, rfl, hF⟩
  · exact make_nil w
  · exact make_any l g off cap w hE hF hs hl
theorem MakeV.fs {w w' : World} {e : Ending} {s : List F} (h : MakeV w w' e (.ok s)) : ∃ v, e = .returned (.tuple #[.agg #[v], .int .i64 0]) ∧ FS w' v s := by
  obtain ⟨v, he, hv⟩ := h
  refine ⟨v, he, ?_⟩
  rcases hv with hv | ⟨g, cap, hv, -, hF⟩
  · exact .inl hv
  · exact .inr ⟨g, 0, cap, hv, hF.fc⟩
set_option maxHeartbeats 1000000 in
set_option maxRecDepth 100000 in
theorem good_any (l : List F) (v : Value) (w : World) (hE : Vm.Env w) (hF : FS w v l) (hs : ∀ f ∈ l, f.1.size ≤ 1000000) (hl : l.length ≤ 1000000) :
    Calls Tryz.prog 18 #[.agg #[v]] w fun e w' => e = .returned (.bool (goodT l)) ∧ Below w.heap.size w w' := by
  have hA : Below w.heap.size w (w.alloc (.cells #[v] 25)) := (Below.refl _ _).alloc (Nat.le_refl _) _
  have hm := make_fs l v _ (hE.below hA) (hF.keep hA) hs hl
  have hq : (w.alloc (.cells #[v] 25)).cell? ⟨w.heap.size, 0, none⟩ = some v := by simp only [World.cell?, heap_alloc_new]; rfl
  obtain ⟨sl, cap, rfl⟩ := hF.len
  unfold MakeOut at hm
  have HA := Lib.hid hA
  have HF := Lib.hid (hF.keep hA)
  have HQ := Lib.hid hq
  cases hp : makeP l with
  | error c =>
    have HR := Lib.hid (show goodT l = false by unfold goodT; rw [hp])
    have hc : (c == 0) = false := beq_eq_false_iff_ne.2 (make_err hp)
    rw [hp] at hm
    clear hp hA hF hq
    go_enter Tryz.func18, Tryz.ntmps18
    go_wp2_with (go_at_call 34; with_reducible refine hm.mono ?_; clear hm; rintro e w2 ⟨hb2, he⟩; unfold MakeV at he; subst he; have HB2 := Lib.hid hb2; clear hb2)
    go_ret
    rw [HR.out]
    exact ⟨rfl, (HA.out.trans (HB2.out.mono HA.out.size)).alloc (Nat.le_trans HA.out.size HB2.out.size) _⟩
  | ok s =>
    have HR := Lib.hid (show goodT l = decide (s = l) by unfold goodT; rw [hp])
    rw [hp] at hm
    clear hp hA hF hq
    go_enter Tryz.func18, Tryz.ntmps18
    go_wp2_with (first
      | (go_at_call 34; with_reducible refine hm.mono ?_; clear hm; rintro e w2 ⟨hb2, he⟩; obtain ⟨v2, he, hf2⟩ := he.fs; obtain ⟨sl2, cap2, hv2⟩ := hf2.len; subst hv2; subst he; have HB2 := Lib.hid hb2; have HF2 := Lib.hid hf2; have q2 := Sx.keep_cell (hb2.trans ((Below.refl _ w2).alloc hb2.size (.cells #[.slice sl2 s.length cap2] 25))) HQ.out; have heq := equal_any s l _ _ _ (hf2.keep ((Below.refl _ w2).alloc (Nat.le_refl _) (.cells #[.slice sl2 s.length cap2] 25))) ((HF.out.keep hb2).keep ((Below.refl _ w2).alloc (Nat.le_refl _) (.cells #[.slice sl2 s.length cap2] 25))) hl; clear hb2 hf2)
      | (go_at_call 35; with_reducible refine heq.mono ?_; clear heq; rintro e w3 ⟨he, hb3⟩; subst he))
    go_ret
    rw [HR.out]
    exact ⟨rfl, HA.out.trans ((HB2.out.trans (((Below.refl _ w2).alloc HB2.out.size _).trans (hb3.mono (Nat.le_trans HB2.out.size (by simp))))).mono HA.out.size)⟩
end Tr
end Go.Proofs.YtbefgplaaghlbaaGreatDoor
