/-
  Walks: shelf.Shelf's New, find, Get, Put. (printed by gen_ShG.py)
-/
import Derived.Test.YtipcockcndnipaaDoorShNI
import Derived.OneCell
namespace Go.Proofs.YtipcockcndnipaaDoor
open Go.RowKit
namespace ShI
open Shf

theorem ins_any (B : Nat) (v : Value) (l : List KV) (p : Nat) (a : KV) (vb : Nat) (w : World) (hO : Own w B v l) (hp : p ≤ l.length) (hl : l.length ≤ 1000000) (hB : B ≤ w.heap.size) (hvb : w.heap[vb]? = some (.cells (pc a) 71 (0, 0))) (hne : v.ownBlock ≠ some vb) :
    Calls Tryd.prog 25 #[v, .int .i64 (p : Int), .slice (some ⟨vb, 0, none⟩) 1 1] w fun e w' => IP w B v (l.take p ++ a :: l.drop p) e w' := by
  by_cases hpn : p = l.length
  · subst hpn
    rw [List.take_length, List.drop_length]
    exact ins_end B v l a vb w hO hl hB hvb
  · rcases hO.2 with ⟨_, hn⟩ | ⟨g, cap, cur, rfl, hBg, hg, hnc, _⟩
    · omega
    · by_cases hc : l.length + 1 ≤ cap
      · exact ins_shift B l p g cap a vb w hO (by omega) hl hvb (fun e => hne (by rw [e]; rfl)) hc
      · obtain rfl : cap = l.length := by omega
        exact ins_grow B l p g a vb w hO (by omega) hl hB hvb
/-- a shelf in block b -/
def SH (W : World) (B b : Nat) (l : List KV) : Prop := ∃ v, W.heap[b]? = some (.cells #[v] 68 (0, 0)) ∧ Own W B v l
def GV : Option Bool → Value
  | some v => .tuple #[ev v, .bool true]
  | none => .tuple #[.bool false, .bool false]
theorem SH.lt {W : World} {B b : Nat} {l : List KV} (h : SH W B b l) : b < W.heap.size := by
  obtain ⟨v, hb, _⟩ := h
  exact (Array.getElem?_eq_some_iff.1 hb).1
theorem SH.below {W W' : World} {B b : Nat} {l : List KV} (h : SH W B b l) (hb : Below W.heap.size W W') : SH W' B b l := by
  have hlt := h.lt
  obtain ⟨v, h1, h2⟩ := h
  exact ⟨v, (hb.block b hlt).trans h1, h2.below hb⟩
/-- nothing that was there turns but block b and the shelf's own row, at or beyond B -/
structure Fs (W W' : World) (B b : Nat) : Prop where
  os : W'.os = W.os
  tape : W'.tape = W.tape
  output : W'.output = W.output
  size : W.heap.size ≤ W'.heap.size
  block : ∀ k, k < W.heap.size → k ≠ b → (k < B ∨ ∀ cs, W.heap[k]? ≠ some (.cells cs 71 (0, 0))) → W'.heap[k]? = W.heap[k]?
theorem Fs.of_below {W W' : World} {B b : Nat} (h : Below W.heap.size W W') : Fs W W' B b := ⟨h.os, h.tape, h.output, h.size, fun k hk _ _ => h.block k hk⟩
theorem Fs.trans {W W' W'' : World} {B b : Nat} (h : Fs W W' B b) (g : Fs W' W'' B b) : Fs W W'' B b :=
  ⟨g.os.trans h.os, g.tape.trans h.tape, g.output.trans h.output, Nat.le_trans h.size g.size, fun k hk hkb ho => by
    have h1 := h.block k hk hkb ho
    refine (g.block k (Nat.lt_of_lt_of_le hk h.size) hkb ?_).trans h1
    rcases ho with ho | ho
    · exact .inl ho
    · exact .inr fun cs e => ho cs (h1.symm.trans e)⟩
theorem Fs.below {W W' : World} {B b : Nat} (h : Fs W W' B b) {B0 : Nat} (h0 : B0 ≤ b) (h1 : B0 ≤ B) (h2 : B0 ≤ W.heap.size) : Below B0 W W' :=
  ⟨h.os, h.tape, h.output, h.size, fun k hk => h.block k (by omega) (by omega) (.inl (by omega))⟩
theorem new_any (w : World) : Calls Tryd.prog 8 #[] w fun e w' => e = .returned (.pointer (some ⟨w.heap.size, 0, none⟩)) ∧ w' = w.alloc (.cells #[.slice none 0 0] 68) := by
  go_enter Tryd.func8, Tryd.ntmps8
  go_wp2_with fail
  go_ret
  exact ⟨rfl, rfl⟩
theorem new_sh (w : World) (B : Nat) : SH (w.alloc (.cells #[.slice none 0 0] 68)) B w.heap.size [] := ⟨_, heap_alloc_new _ _, World.ownsRow_nil _ _ _ _⟩
set_option maxHeartbeats 1000000 in
theorem find_any (s : Int) (B b : Nat) (l : List KV) (w : World) (h : SH w B b l) (hs : Srt ltI l) (hl : l.length ≤ 1000000) :
    Calls Tryd.prog 24 #[.pointer (some ⟨b, 0, none⟩), .int .i64 s] w fun e w' => e = .returned (.tuple #[.int .i64 (pos ltI l (s) : Nat), .bool (hitB l (s))]) ∧ Below w.heap.size w w' := by
  obtain ⟨v, hb, hO⟩ := h
  have c0 : w.cell? ⟨b, 0, none⟩ = some v := by rw [cell_of hb]; rfl
  have hx := search_any s B v l w hO hs hl
  clear hb hO hs
  go_enter Tryd.func24, Tryd.ntmps24
  go_wp2_with (go_at_call 34; refine hx.mono ?_; rintro e w' ⟨rfl, hw⟩)
  go_ret2
  exact ⟨rfl, hw⟩
theorem SH.open {w : World} {B b : Nat} {l : List KV} (h : SH w B b l) {p : Nat} {a : KV} (ha : l[p]? = some a) :
    ∃ g cap, w.cell? ⟨b, 0, none⟩ = some (.slice (some ⟨g, 0, none⟩) l.length cap) ∧ B ≤ g ∧ g < w.heap.size ∧ w.cell? ⟨g, p * 2, none⟩ = some (ek a.1) ∧ w.cell? ⟨g, p * 2 + 1, none⟩ = some (ev a.2) ∧
      w.heap[b]? = some (.cells #[.slice (some ⟨g, 0, none⟩) l.length cap] 68 (0, 0)) ∧ Own w B (.slice (some ⟨g, 0, none⟩) l.length cap) l ∧ w.frozen? ⟨g, p * 2 + 1, none⟩ = false ∧ g ≠ b := by
  obtain ⟨v, hb, hO⟩ := h
  obtain ⟨sl, cap, rfl⟩ := hO.form
  obtain ⟨g, rfl, h1, h2, h3, h4⟩ := hO.at ha
  refine ⟨g, cap, by rw [cell_of hb]; rfl, h1, h2, h3, h4, hb, hO, hO.frozenAt _, fun e => ?_⟩
  subst e
  rcases hO.2 with ⟨h0, _⟩ | ⟨g', cap', cur, h0, _, hg, _⟩
  · cases h0
  · cases h0
    rw [hb] at hg
    cases hg
theorem hit_no {l : List KV} {k : Int} (hs : Srt ltI l) (h : hitB l k = false) : hit ltI l k = none := by
  rw [← Shf.look_hit ordI hs]
  rw [Shf.look_hit ordI hs]
  unfold hitB at h
  cases hh : hit ltI l k with
  | none => rfl
  | some v => rw [hh] at h; cases h
theorem hit_none {l : List KV} {k : Int} (hs : Srt ltI l) (h : hitB l k = false) : Shf.look l k = none := by
  rw [Shf.look_hit ordI hs]
  unfold hitB at h
  cases hh : hit ltI l k with
  | none => rfl
  | some v => rw [hh] at h; cases h
theorem hit_some {l : List KV} {k : Int} (hs : Srt ltI l) (h : hitB l k = true) : ∃ v, Shf.look l k = some v ∧ hit ltI l k = some v ∧ l[pos ltI l k]? = some (k, v) := by
  rw [Shf.look_hit ordI hs]
  unfold hitB at h
  cases hh : hit ltI l k with
  | none => rw [hh] at h; cases h
  | some v => exact ⟨v, rfl, rfl, hit_at hh⟩
set_option maxHeartbeats 1000000 in
theorem get_any (s : Int) (B b : Nat) (l : List KV) (w : World) (h : SH w B b l) (hs : Srt ltI l) (hl : l.length ≤ 1000000) :
    Calls Tryd.prog 11 #[.pointer (some ⟨b, 0, none⟩), .int .i64 s] w fun e w' => e = .returned (GV (Shf.look l (s))) ∧ Below w.heap.size w w' := by
  have hx := find_any s B b l w h hs hl
  have H0 := Lib.hid h
  cases hh : hitB l (s) with
  | false =>
    have HR := Lib.hid (hit_none hs hh)
    rw [hh] at hx
    clear hh hs h
    go_enter Tryd.func11, Tryd.ntmps11
    go_wp2_with (go_at_call 24; refine hx.mono ?_; rintro e w' ⟨rfl, hw⟩)
    go_ret2
    rw [HR.out]
    exact ⟨rfl, hw⟩
  | true =>
    obtain ⟨v, hv, -, hat⟩ := hit_some hs hh
    have HR := Lib.hid hv
    have HAT := Lib.hid hat
    rw [hh] at hx
    have hpl := (List.getElem?_eq_some_iff.1 hat).1
    generalize pos ltI l (s) = p at *
    clear hh hs h hv hat
    go_enter Tryd.func11, Tryd.ntmps11
    go_wp2_with (go_at_call 24; refine hx.mono ?_; rintro e w' ⟨rfl, hw⟩; obtain ⟨g, cap, c0, hBg, hgw, c1, c2, hbk, hown, fz, hgb⟩ := (H0.out.below hw).open HAT.out; clear hown hbk)
    go_ret2
    rw [HR.out]
    exact ⟨rfl, hw⟩
theorem row_set {l : List KV} {p : Nat} {k : Int} {v w : Bool} (h : l[p]? = some (k, v)) : (row l).set (p * 2 + 1) (ev w) = row (l.set p (k, w)) := by
  induction l generalizing p with
  | nil => simp at h
  | cons a l ih =>
    cases p with
    | zero => simp at h; subst h; rfl
    | succ p =>
      have := ih (p := p) (by simpa using h)
      rw [show (p + 1) * 2 + 1 = p * 2 + 1 + 1 + 1 by omega]
      show ek a.1 :: ev a.2 :: (row l).set (p * 2 + 1) (ev w) = _
      rw [this]
      rfl
theorem own_ne {w : World} {B b : Nat} {v : Value} {l : List KV} {cs : Array Value} {fr : Nat × Nat} (hO : Own w B v l) (hb : w.heap[b]? = some (.cells cs 68 fr)) : v.ownBlock ≠ some b := fun e => by
  rcases hO.2 with ⟨rfl, _⟩ | ⟨g', cap', cur, rfl, _, hg, _⟩
  · cases e
  · cases e
    rw [hb] at hg
    cases hg
/-- what putting does -/
def PP (w : World) (B b : Nat) (l' : List KV) (o : Option Bool) (e : Ending) (w' : World) : Prop := e = .returned (GV o) ∧ SH w' B b l' ∧ Fs w w' B b
set_option maxHeartbeats 2000000 in
theorem put_any (s : Int) (x : Bool) (B b : Nat) (l : List KV) (w : World) (h : SH w B b l) (hs : Srt ltI l) (hl : l.length ≤ 1000000) (hB : B ≤ w.heap.size) :
    Calls Tryd.prog 10 #[.pointer (some ⟨b, 0, none⟩), .int .i64 s, ev x] w fun e w' => PP w B b (Shf.put ltI l (s) x) (Shf.look l (s)) e w' := by
  have hx := find_any s B b l w h hs hl
  have H0 := Lib.hid h
  cases hh : hitB l (s) with
  | true =>
    obtain ⟨v, hv, hit, hat⟩ := hit_some hs hh
    have HR := Lib.hid hv
    have HAT := Lib.hid hat
    have HPU := Lib.hid (put_old (v := x) hit)
    rw [hh] at hx
    have hpl := (List.getElem?_eq_some_iff.1 hat).1
    generalize pos ltI l (s) = p at *
    clear hh hs h hv hat hit
    go_enter Tryd.func10, Tryd.ntmps10
    go_wp2_with (go_at_call 24; refine hx.mono ?_; rintro e w' ⟨rfl, hw⟩; obtain ⟨g, cap, c0, hBg, hgw, c1, c2, hbk, hown, fz, hgb⟩ := (H0.out.below hw).open HAT.out; have HOW := Lib.hid (And.intro hbk hown); clear hbk hown)
    go_ret2
    rw [HR.out, HPU.out]
    obtain ⟨hbk, hown⟩ := HOW.out
    refine ⟨rfl, ⟨_, (Below.heap_setCell _ _ _ _ (Ne.symm hgb)).trans hbk, ?_⟩, (Fs.of_below hw).trans ⟨rfl, rfl, rfl, by simp [World.setCell], fun k hk hkb ho => Below.heap_setCell _ _ _ _ fun e => ?_⟩⟩
    · have h1 := (hown.stored (p * 2 + 1) (ev x)).1
      rw [row_set HAT.out] at h1
      unfold Own
      rw [List.length_set]
      exact h1
    · dsimp only at e
      subst e
      rcases hown.2 with ⟨h0, _⟩ | ⟨g', cap', cur, h0, _, hg, _⟩
      · cases h0
      · cases h0
        rcases ho with ho | ho
        · omega
        · exact ho _ hg
  | false =>
    have HR := Lib.hid (hit_none hs hh)
    have HPU := Lib.hid (put_new (v := x) (hit_no hs hh))
    rw [hh] at hx
    have hpl := pos_le (lt := ltI) l (s)
    generalize pos ltI l (s) = p at *
    clear hh hs h
    go_enter Tryd.func10, Tryd.ntmps10
    go_wp2_with (go_at_call 24; refine hx.mono ?_; rintro e w' ⟨rfl, hw⟩; obtain ⟨v, hbk, hown⟩ := H0.out.below hw; have c0 : w'.cell? ⟨b, 0, none⟩ = some v := (by rw [cell_of hbk]; rfl); have HOW := Lib.hid (And.intro hbk hown); clear hbk hown)
    obtain ⟨hbk, hown⟩ := HOW.out
    have hA : Below w'.heap.size w' (w'.alloc (.cells (pc (s, x)) 71)) := (Below.refl _ _).alloc (Nat.le_refl _) _
    have hbs := (Array.getElem?_eq_some_iff.1 hbk).1
    have hne := own_ne hown hbk
    refine (ins_any B v l p (s, x) w'.heap.size _ (hown.below hA) hpl hl (by have := hw.size; simp; omega) (heap_alloc_new _ _) (fun e => by have := (hown.lt _ e).2; omega)).mono ?_
    rintro e w2 ⟨v', rfl, hown', hgr⟩
    obtain ⟨sl', cap', rfl⟩ := hown'.form
    generalize (l.take p ++ (s, x) :: l.drop p).length = n' at *
    have hb2 : w2.heap[b]? = some (.cells #[v] 68 (0, 0)) := (hgr.block b (Nat.lt_of_lt_of_le hbs hA.size) (Ne.symm hne)).trans ((hA.block b hbs).trans hbk)
    have c2 : w2.cell? ⟨b, 0, none⟩ = some v := by rw [cell_of hb2]; rfl
    have f2 : w2.frozen? ⟨b, 0, none⟩ = false := by simp [World.frozen?, hb2]
    have hsz := hgr.size
    have HG := Lib.hid (And.intro hb2 (And.intro hown' hgr))
    have HN := Lib.hid hne
    have HAA := Lib.hid hA
    clear hbk hown hb2 hown' hgr hne c0 hA
    go_wp2_with fail
    go_ret2
    obtain ⟨hb2, hown', hgr⟩ := HG.out
    rw [HR.out, HPU.out]
    refine ⟨rfl, ⟨.slice sl' n' cap', ?_, ?_⟩, (Fs.of_below (hw.trans (HAA.out.mono hw.size))).trans ⟨hgr.os, hgr.tape, hgr.output, by simpa [World.setCell] using hsz, fun k hk hkb ho => (Below.heap_setCell _ _ _ _ hkb).trans (hgr.block k hk fun e => ?_)⟩⟩
    · exact heap_setCell_same w2 b 0 #[v] _ _ hb2
    · exact ownsRow_setCell_other hown' (a := ⟨b, 0, none⟩) (own_ne hown' hb2) _
    · obtain ⟨hbk, hown⟩ := HOW.out
      rcases ho with ho | ho
      · have := (hown.lt k e.symm).1
        omega
      · rcases hown.2 with ⟨h0, _⟩ | ⟨g', cap', cur, h0, _, hg, _⟩
        · rw [h0] at e; cases e
        · rw [h0] at e
          cases e
          exact ho cur ((HAA.out.block _ (Array.getElem?_eq_some_iff.1 hg).1).trans hg)
end ShI
end Go.Proofs.YtipcockcndnipaaDoor
