/-
  Walk: the reference's Parse.
-/
import Derived.Test.YtflhmoelenmomaaGreatDoorMSgQB
import Derived.Test.YtflhmoelenmomaaGreatDoorMSgQT
import Derived.Test.YtflhmoelenmomaaGreatDoorMSgV
import Derived.Test.YtflhmoelenmomaaGreatDoorMSgZ
namespace Go.Proofs.YtflhmoelenmomaaGreatDoor
open Go.RowKit Go.Shelf Go.Lib
namespace Sg

theorem cutsF_mem (sep : List UInt8) : ∀ (n : Nat) (l : List UInt8), ∀ x ∈ cutsF sep n l, x.length ≤ l.length
  | 0, l, x, hx => by
    simp [cutsF] at hx
    subst hx
    exact Nat.le_refl _
  | n + 1, l, x, hx => by
    rw [cutsF] at hx
    split at hx
    · simp at hx
      subst hx
      exact Nat.le_refl _
    · rcases List.mem_cons.1 hx with rfl | hx
      · simp
        omega
      · have := cutsF_mem sep n _ x hx
        rw [List.length_drop] at this
        omega
theorem cuts_mem {sep l x : List UInt8} (h : x ∈ cuts sep l) : x.length ≤ l.length := cutsF_mem sep _ _ x h
theorem pieces_so (t : ByteArray) (w : World) (hs : t.size ≤ 1048576) :
    Calls Tryz.prog 55 #[.string t, .int .u8 32] w fun e w' => ∃ v ws, e = .returned v ∧ ws.map (·.data.toList) = cuts [32] t.data.toList ∧ SO w' w.heap.size v ws ∧ Below w.heap.size w w' :=
  (Vs.pieces_any t 32 w hs).mono fun e w' ⟨v, h1, h2, h3⟩ => by
    refine ⟨v, (Vs.pieces 32 t.data.toList).map fun l => ⟨l.toArray⟩, h1, ?_, ?_, h3⟩
    · rw [cuts_pieces 32 _ _ (Nat.le_refl _), List.map_map]
      exact (List.map_congr_left fun x _ => rfl).trans (List.map_id _)
    · unfold SO
      rw [List.length_map, List.map_map]
      exact h2
def ne1 (g : G) : Bool := decide (g.1 < g.2)
theorem in_ne (gs : List G) (n : Int) : inR (gs.filter ne1) n ↔ inR gs n := by
  unfold inR
  constructor
  · rintro ⟨g, hg, h⟩
    exact ⟨g, (List.mem_filter.1 hg).1, h⟩
  · rintro ⟨g, hg, h1, h2⟩
    exact ⟨g, List.mem_filter.2 ⟨hg, decide_eq_true (by omega)⟩, h1, h2⟩
theorem qbound_none (s : ByteArray) (W : World) (hs : s.size ≤ 1048576) (h : boundL s.data.toList = none) :
    Calls Tryz.prog 80 #[.string s] W fun e W' => ∃ g : G, e = .returned (.tuple #[gapV g, .bool false]) ∧ Below W.heap.size W W' :=
  (qbound_any s W hs).mono fun e W' ⟨h1, h2⟩ => by
    rcases h1 with ⟨g, h3, _⟩ | ⟨_, g, h4⟩
    · rw [h] at h3; cases h3
    · exact ⟨g, h4, h2⟩
theorem qbound_some (s : ByteArray) (W : World) (hs : s.size ≤ 1048576) {g : G} (h : boundL s.data.toList = some g) :
    Calls Tryz.prog 80 #[.string s] W fun e W' => e = .returned (.tuple #[gapV g, .bool true]) ∧ Below W.heap.size W W' :=
  (qbound_any s W hs).mono fun e W' ⟨h1, h2⟩ => by
    rcases h1 with ⟨g', h3, h4⟩ | ⟨h3, _⟩
    · rw [h] at h3; cases h3; exact ⟨h4, h2⟩
    · rw [h] at h3; cases h3
theorem SO.carry {w w' : World} {B B' : Nat} {v : Value} {l : List ByteArray} (h : SO w B v l) (hB : B' ≤ B) (hk : ∀ k, B ≤ k → k < w.heap.size → w'.heap[k]? = w.heap[k]?) : SO w' B' v l := by
  obtain ⟨h1, h2⟩ := h
  refine ⟨h1, ?_⟩
  rcases h2 with h2 | ⟨g, cap, cur, h3, h4, h5, h6⟩
  · exact .inl h2
  · exact .inr ⟨g, cap, cur, h3, Nat.le_trans hB h4, (hk g h4 (Array.getElem?_eq_some_iff.1 h5).1).trans h5, h6⟩
theorem SO.setCell {w : World} {B b o : Nat} {v u : Value} {l : List ByteArray} (h : SO w B v l) (hb : b < B) : SO (w.setCell ⟨b, o, none⟩ u) B v l :=
  h.carry (Nat.le_refl _) fun k h1 _ => Below.heap_setCell _ _ _ _ (by show k ≠ b; omega)
theorem words_none {ws : List (List UInt8)} {m : Nat} {x : List UInt8} {g : G} (hx : ws[m]? = some x) (hw : wordsF (ws.take m) top = some g) (hb : boundL x = none) : wordsF ws top = none := by
  obtain ⟨h1, h2⟩ := List.getElem?_eq_some_iff.1 hx
  rw [← List.take_append_drop m ws, words_app, hw, List.drop_eq_getElem_cons h1, h2]
  show wordsF (x :: _) g = none
  rw [wordsF, hb]
  rfl
theorem words_succ {ws : List (List UInt8)} {m : Nat} {x : List UInt8} {g h : G} (hx : ws[m]? = some x) (hw : wordsF (ws.take m) top = some g) (hb : boundL x = some h) : wordsF (ws.take (m + 1)) top = some (meet g h) := by
  rw [List.take_add_one, hx]
  show wordsF (ws.take m ++ [x]) top = _
  rw [words_snoc, hw, hb]
  rfl
theorem terms_none {ts : List (List UInt8)} {k : Nat} {x : List UInt8} {gs : List G} (hx : ts[k]? = some x) (hw : termsF (ts.take k) [] = some gs) (hb : termF x = none) : termsF ts [] = none := by
  obtain ⟨h1, h2⟩ := List.getElem?_eq_some_iff.1 hx
  rw [← List.take_append_drop k ts, terms_app, hw, List.drop_eq_getElem_cons h1, h2]
  show termsF (x :: _) gs = none
  rw [termsF, hb]
  rfl
theorem terms_succ {ts : List (List UInt8)} {k : Nat} {x : List UInt8} {gs : List G} {g : G} (hx : ts[k]? = some x) (hw : termsF (ts.take k) [] = some gs) (hb : termF x = some g) : termsF (ts.take (k + 1)) [] = some (gs ++ [g]) := by
  rw [List.take_add_one, hx]
  show termsF (ts.take k ++ [x]) [] = _
  rw [terms_snoc, hw, hb]
  rfl
theorem ne_snoc (gs : List G) (g : G) : (gs ++ [g]).filter ne1 = if g.1 < g.2 then gs.filter ne1 ++ [g] else gs.filter ne1 := by
  rw [List.filter_append]
  by_cases h : g.1 < g.2
  · rw [if_pos h]
    simp [ne1, h]
  · rw [if_neg h]
    simp [ne1, h]
/-- the normal form of what a text means, and what stays the same between its ends -/
theorem set_r (gs : List G) (hbd : ∀ g ∈ gs, Bd g) : Still (fun n => inB (gs.filter ne1) n) (endsF (gs.filter ne1)) ∧ ∃ r, Nm r ∧ (∀ g ∈ r, Bd g) ∧ (∀ n, inR r n ↔ (0 ≤ n ∧ n < 1000000000 ∧ inB (gs.filter ne1) n = true)) ∧ ∀ n, inR r n ↔ inR gs n := by
  refine ⟨still_in fun a b n ha hb h h1 h2 => in_still (fun g hg => hg) ha hb h h1 h2, ?_⟩
  obtain ⟨r, h1, h2, h3⟩ := norm_ex gs hbd
  refine ⟨r, h1, h3, fun n => ?_, h2⟩
  rw [inB_iff, in_ne, h2]
  refine ⟨fun h => ?_, fun h => h.2.2⟩
  obtain ⟨g, hg, h4, h5⟩ := h
  have := hbd g hg
  unfold Bd at this
  exact ⟨by omega, by omega, g, hg, h4, h5⟩
/-- what stands of a round of the words -/
def WZ (b : Nat) (wr : World) (v : Value) (ws : List ByteArray) (g : G) (wz : World) : Prop := wz.heap[b]? = some (.cells #[.int .i64 g.1, .int .i64 g.2] 55 (0, 0)) ∧ SO wz (b + 1) v ws ∧ Below b wr wz
theorem WZ.next {b : Nat} {wr wz w : World} {v : Value} {ws : List ByteArray} {g : G} (h : WZ b wr v ws g wz) (hs : b < wz.heap.size) (hb : Below wz.heap.size wz w) : WZ b wr v ws g w := ⟨(hb.block b hs).trans h.1, h.2.1.below hb, h.2.2.trans (hb.mono (Nat.le_of_lt hs))⟩
theorem WZ.set0 {b : Nat} {wr wz : World} {v : Value} {ws : List ByteArray} {g : G} (h : WZ b wr v ws g wz) (x : Int) : WZ b wr v ws (x, g.2) (wz.setCell ⟨b, 0, none⟩ (.int .i64 x)) := ⟨heap_setCell_same wz b 0 _ _ _ h.1, h.2.1.setCell (Nat.lt_succ_self b), h.2.2.setCell (p := ⟨b, 0, none⟩) (Nat.le_refl _) _⟩
theorem WZ.set1 {b : Nat} {wr wz : World} {v : Value} {ws : List ByteArray} {g : G} (h : WZ b wr v ws g wz) (y : Int) : WZ b wr v ws (g.1, y) (wz.setCell ⟨b, 1, none⟩ (.int .i64 y)) := ⟨heap_setCell_same wz b 1 _ _ _ h.1, h.2.1.setCell (Nat.lt_succ_self b), h.2.2.setCell (p := ⟨b, 1, none⟩) (Nat.le_refl _) _⟩
end Sg
end Go.Proofs.YtflhmoelenmomaaGreatDoor
