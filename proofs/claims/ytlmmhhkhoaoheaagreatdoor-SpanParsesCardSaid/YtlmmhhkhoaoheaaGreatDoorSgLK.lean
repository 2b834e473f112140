/-
  Law: SpanKeeps answers true.
-/
import Derived.Test.YtlmmhhkhoaoheaaGreatDoorSgV
namespace Go.Proofs.YtlmmhhkhoaoheaaGreatDoor
open Go.RowKit Go.Shelf Go.Lib
namespace Sg

/-- what Or and the reference's Both answer alike -/
def RP (p q : List G) (B : Nat) (z : Value) (c : Int) (W' : World) : Prop := ∃ l, GO W' B z l ∧ (∀ g ∈ l, Bd g) ∧ (((goodB p && goodB q) = false ∧ l = [] ∧ c = 1) ∨ ((goodB p && goodB q) = true ∧ ∃ r, Nm r ∧ (∀ n, inR r n ↔ inR p n ∨ inR q n) ∧ c = (if 16 < r.length then 13 else 0) ∧ l = (if 16 < r.length then [] else r)))
theorem RP.eq {p q : List G} {c c' : Int} {l l' : List G}
    (h : ((goodB p && goodB q) = false ∧ l = [] ∧ c = 1) ∨ ((goodB p && goodB q) = true ∧ ∃ r, Nm r ∧ (∀ n, inR r n ↔ inR p n ∨ inR q n) ∧ c = (if 16 < r.length then 13 else 0) ∧ l = (if 16 < r.length then [] else r)))
    (h' : ((goodB p && goodB q) = false ∧ l' = [] ∧ c' = 1) ∨ ((goodB p && goodB q) = true ∧ ∃ r, Nm r ∧ (∀ n, inR r n ↔ inR p n ∨ inR q n) ∧ c' = (if 16 < r.length then 13 else 0) ∧ l' = (if 16 < r.length then [] else r))) : c = c' ∧ l = l' := by
  rcases h with ⟨h1, rfl, rfl⟩ | ⟨h1, r, h2, h3, rfl, rfl⟩
  · rcases h' with ⟨_, rfl, rfl⟩ | ⟨g1, _⟩
    · exact ⟨rfl, rfl⟩
    · rw [h1] at g1; cases g1
  · rcases h' with ⟨g1, _⟩ | ⟨_, r', g2, g3, rfl, rfl⟩
    · rw [h1] at g1; cases g1
    · have e : r = r' := nm_unique _ _ h2 g2 fun n => (h3 n).trans (g3 n).symm
      subst e
      exact ⟨rfl, rfl⟩
theorem SetP.rp {p q r : List G} {B : Nat} {e : Ending} {W' : World} (ha : goodB p = true) (hb : goodB q = true) (h : SetP B (fun n => inR p n ∨ inR q n) r e W') : ∃ z c, e = .returned (.tuple #[z, .int .i64 c]) ∧ RP p q B z c W' := by
  have hab : (goodB p && goodB q) = true := by rw [ha, hb]; rfl
  rcases h.ans with ⟨h1, h2⟩ | ⟨h1, v, h2, h3⟩
  · exact ⟨_, _, h2, [], go_nil _ _, (fun g hg => by cases hg), .inr ⟨hab, r, h.nm, h.mem, by rw [if_pos h1], by rw [if_pos h1]⟩⟩
  · exact ⟨_, _, h2, r, h3, h.bd, .inr ⟨hab, r, h.nm, h.mem, by rw [if_neg h1], by rw [if_neg h1]⟩⟩
theorem RP.bad {p q : List G} (B : Nat) (W' : World) (h : (goodB p && goodB q) = false) : RP p q B (.slice none 0 0) 1 W' := ⟨[], go_nil _ _, (fun g hg => by cases hg), .inl ⟨h, rfl, rfl⟩⟩
theorem or_rp (p q : List G) (x y : Value) (W : World) (hx : GS W x p) (hy : GS W y q) :
    Calls Tryz.prog 17 #[x, y] W fun e W' => ∃ z c, e = .returned (.tuple #[z, .int .i64 c]) ∧ RP p q W.heap.size z c W' ∧ Below W.heap.size W W' := by
  cases ha : goodB p with
  | false => exact (or_bad1 p x y W hx ha).mono fun e W' h => ⟨_, _, h.1, RP.bad _ _ (by rw [ha]; rfl), h.2⟩
  | true =>
    cases hb : goodB q with
    | false => exact (or_bad2 p q x y W hx hy ha hb).mono fun e W' h => ⟨_, _, h.1, RP.bad _ _ (by rw [ha, hb]; rfl), h.2⟩
    | true =>
      exact (or_ok p q x y W hx hy ha hb).mono fun e W' ⟨r, h, hB⟩ => by
        obtain ⟨z, c, h1, h2⟩ := h.rp ha hb
        exact ⟨z, c, h1, h2, hB⟩
theorem both_rp (p q : List G) (x y : Value) (W : World) (hx : GS W x p) (hy : GS W y q) :
    Calls Tryz.prog 21 #[x, y, .int .i64 0] W fun e W' => ∃ z c, e = .returned (.tuple #[z, .int .i64 c]) ∧ RP p q W.heap.size z c W' ∧ Below W.heap.size W W' := by
  cases ha : goodB p with
  | false => exact (both_bad1 p x y W hx ha).mono fun e W' h => ⟨_, _, h.1, RP.bad _ _ (by rw [ha]; rfl), h.2⟩
  | true =>
    cases hb : goodB q with
    | false => exact (both_bad2 p q x y W hx hy ha hb).mono fun e W' h => ⟨_, _, h.1, RP.bad _ _ (by rw [ha, hb]; rfl), h.2⟩
    | true =>
      exact (both_ok p q x y W hx hy ha hb).mono fun e W' ⟨r, h, hB⟩ => by
        obtain ⟨z, c, h1, h2⟩ := h.rp ha hb
        exact ⟨z, c, h1, h2, hB⟩
/-- an answer that is its holder's own -/
theorem SetP.own {S : Int → Prop} {r : List G} {B : Nat} {e : Ending} {W' : World} (h : SetP B S r e W') : ∃ z c l, e = .returned (.tuple #[z, .int .i64 c]) ∧ GO W' B z l := by
  rcases h.ans with ⟨h1, h2⟩ | ⟨h1, v, h2, h3⟩
  · exact ⟨_, _, [], h2, go_nil _ _⟩
  · exact ⟨_, _, r, h2, h3⟩
theorem and_own (p q : List G) (x y : Value) (W : World) (hx : GS W x p) (hy : GS W y q) :
    Calls Tryz.prog 18 #[x, y] W fun e W' => ∃ z c l, e = .returned (.tuple #[z, .int .i64 c]) ∧ GO W' W.heap.size z l ∧ Below W.heap.size W W' := by
  cases ha : goodB p with
  | false => exact (and_bad1 p x y W hx ha).mono fun e W' h => ⟨_, _, [], h.1, go_nil _ _, h.2⟩
  | true =>
    cases hb : goodB q with
    | false => exact (and_bad2 p q x y W hx hy ha hb).mono fun e W' h => ⟨_, _, [], h.1, go_nil _ _, h.2⟩
    | true =>
      exact (and_ok p q x y W hx hy ha hb).mono fun e W' ⟨r, h, hB⟩ => by
        obtain ⟨z, c, l, h1, h2⟩ := h.own
        exact ⟨z, c, l, h1, h2, hB⟩
theorem not_own (p : List G) (x : Value) (W : World) (hx : GS W x p) :
    Calls Tryz.prog 20 #[x] W fun e W' => ∃ z c l, e = .returned (.tuple #[z, .int .i64 c]) ∧ GO W' W.heap.size z l ∧ Below W.heap.size W W' := by
  cases ha : goodB p with
  | false => exact (not_bad p x W hx ha).mono fun e W' h => ⟨_, _, [], h.1, go_nil _ _, h.2⟩
  | true =>
    exact (not_ok p x W hx ha).mono fun e W' ⟨r, h, hB⟩ => by
      obtain ⟨z, c, l, h1, h2⟩ := h.own
      exact ⟨z, c, l, h1, h2, hB⟩

/-- a row whose block lies between two bounds -/
def GR (w : World) (B E : Nat) (v : Value) (l : List G) : Prop := GO w B v l ∧ ∀ g n cap, v = .slice (some ⟨g, 0, none⟩) n cap → g < E
theorem GO.gr {w : World} {B : Nat} {v : Value} {l : List G} (h : GO w B v l) : GR w B w.heap.size v l := by
  refine ⟨h, fun g n cap e => ?_⟩
  rcases h.form with ⟨rfl, _⟩ | ⟨g', cap', rfl, _, h2, _⟩
  · cases e
  · cases e
    exact h2
theorem GR.carry {w w' : World} {B E : Nat} {v : Value} {l : List G} (h : GR w B E v l) (hk : ∀ k, B ≤ k → k < E → w'.heap[k]? = w.heap[k]?) : GR w' B E v l := by
  refine ⟨?_, h.2⟩
  obtain ⟨h1, h2⟩ := h.1
  refine ⟨h1, ?_⟩
  rcases h2 with h2 | ⟨g, cap, cur, h3, h4, h5, h6⟩
  · exact .inl h2
  · exact .inr ⟨g, cap, cur, h3, h4, (hk g h4 (h.2 g _ cap h3)).trans h5, h6⟩
theorem GR.below {w w' : World} {B E D : Nat} {v : Value} {l : List G} (h : GR w B E v l) (hb : Below D w w') (hd : E ≤ D) : GR w' B E v l := h.carry fun k _ hk => hb.block k (Nat.lt_of_lt_of_le hk hd)
/-- nothing changed but the blocks from lo to hi -/
def KP (lo hi : Nat) (w w' : World) : Prop := Below lo w w' ∧ w'.heap.size = w.heap.size ∧ ∀ k, hi ≤ k → w'.heap[k]? = w.heap[k]?
theorem KP.refl (lo hi : Nat) (w : World) : KP lo hi w w := ⟨Below.refl _ _, rfl, fun _ _ => rfl⟩
theorem KP.low {w w' : World} {B E lo hi : Nat} {v : Value} {l : List G} (h : GR w B E v l) (hk : KP lo hi w w') (hd : E ≤ lo) : GR w' B E v l := h.below hk.1 hd
theorem KP.high {w w' : World} {B E lo hi : Nat} {v : Value} {l : List G} (h : GR w B E v l) (hk : KP lo hi w w') (hd : hi ≤ B) : GR w' B E v l := h.carry fun k h1 _ => hk.2.2 k (Nat.le_trans hd h1)
theorem row_put : ∀ (l : List G) (k : Nat), row (l.set k (0, 0)) = ((row l).set (k * 2) (.int .i64 0)).set (k * 2 + 1) (.int .i64 0)
  | [], k => by simp [row]
  | a :: l, 0 => by simp [row]
  | a :: l, k + 1 => by
    have ih := row_put l k
    show .int .i64 a.1 :: .int .i64 a.2 :: row (l.set k (0, 0)) = _
    rw [ih, show (k + 1) * 2 = k * 2 + 1 + 1 by omega]
    rfl
/-- rounds of writing nought -/
def ZR (lo hi : Nat) (w0 : World) (v : Value) (n : Nat) (wr : World) : Prop := (∃ l, l.length = n ∧ GR wr lo hi v l) ∧ KP lo hi w0 wr
theorem ZR.step {lo hi n cap k : Nat} {w0 wr : World} {sl : Option Addr} (h : ZR lo hi w0 (.slice sl n cap) n wr) (hk : k < n) :
    ∃ g, sl = some ⟨g, 0, none⟩ ∧ g < wr.heap.size ∧ (∃ y, wr.cell? ⟨g, k * 2, none⟩ = some (.int .i64 y)) ∧ (∃ y, wr.cell? ⟨g, k * 2 + 1, none⟩ = some (.int .i64 y)) ∧ wr.frozen? ⟨g, k * 2, none⟩ = false ∧ wr.frozen? ⟨g, k * 2 + 1, none⟩ = false ∧
      ZR lo hi w0 (.slice sl n cap) n ((wr.setCell ⟨g, k * 2, none⟩ (.int .i64 0)).setCell ⟨g, k * 2 + 1, none⟩ (.int .i64 0)) := by
  obtain ⟨⟨l, rfl, hg, hE⟩, hK, hs, hh⟩ := h
  obtain ⟨a, ha⟩ : ∃ a, l[k]? = some a := ⟨_, List.getElem?_eq_getElem hk⟩
  obtain ⟨g, rfl, h1, h2, h3, h4⟩ := hg.at ha
  have h5 := hE g _ _ rfl
  have h6 := (World.ownsRow.stored hg (k * 2) (.int .i64 0)).1
  have h7 := (World.ownsRow.stored h6 (k * 2 + 1) (.int .i64 0)).1
  refine ⟨g, rfl, h2, ⟨_, h3⟩, ⟨_, h4⟩, World.ownsRow.frozenAt hg _, World.ownsRow.frozenAt hg _, ⟨l.set k (0, 0), by simp, ?_, fun g' n' cap' e => by cases e; exact h5⟩, (hK.setCell (p := ⟨g, k * 2, none⟩) h1 _).setCell (p := ⟨g, k * 2 + 1, none⟩) h1 _, by simpa [World.setCell] using hs, fun j hj => ?_⟩
  · unfold GO
    rw [List.length_set, show row (l.set k (0, 0)) = ((row l).set (k * 2) (.int .i64 0)).set (k * 2 + 1) (.int .i64 0) from row_put l k]
    exact h7
  · exact (Below.heap_setCell _ _ _ _ (by show j ≠ g; omega)).trans ((Below.heap_setCell _ _ _ _ (by show j ≠ g; omega)).trans (hh j hj))
theorem GR.mine {w : World} {B E : Nat} {v : Value} {p : List G} {z : G} (h : GR w B E v (p ++ [z])) : ∃ g cap, v = .slice (some ⟨g, 0, none⟩) (p.length + 1) cap ∧ p.length + 1 ≤ cap ∧ B ≤ g := by
  obtain ⟨h1, h2⟩ := h.1
  rcases h2 with ⟨_, h2⟩ | ⟨g, cap, cur, h3, h4, h5, h6, h7, _⟩
  · simp at h2
  · simp at h3 h6
    exact ⟨g, cap, h3, h6, h4⟩
theorem GS.front {w : World} {sl : Option Addr} {cap : Nat} {p : List G} {z : G} {n : Nat} (h : GS w (.slice sl n cap) (p ++ [z])) : GS w (.slice sl p.length cap) p := by
  obtain ⟨h1, h2, s', c', h3, h4, h5⟩ := h
  cases h3
  refine ⟨by simp at h1; omega, fun g hg => h2 g (List.mem_append_left _ hg), _, _, rfl, h4, fun k a ha => ?_⟩
  exact h5 k a (by rw [List.getElem?_append_left (List.getElem?_eq_some_iff.1 ha).1]; exact ha)
theorem go_new0 {B : Nat} (w : World) (h : B ≤ w.heap.size) : GO (w.alloc (.cells #[] 42)) B (.slice (some ⟨w.heap.size, 0, none⟩) 0 0) [] := by
  have h1 := World.ownsRow_lit (base := B) (e := 42) (size := 2) w #[] 0 h (by decide) rfl
  exact h1
theorem gs_79 (w : World) : GS (w.alloc (.cells #[.int .i64 7, .int .i64 9] 42)) (.slice (some ⟨w.heap.size, 0, none⟩) 1 1) [(7, 9)] := by
  have h1 : GO (w.alloc (.cells #[.int .i64 7, .int .i64 9] 42)) w.heap.size (.slice (some ⟨w.heap.size, 0, none⟩) 1 1) [(7, 9)] := World.ownsRow_lit (base := w.heap.size) (e := 42) (size := 2) w #[.int .i64 7, .int .i64 9] 1 (Nat.le_refl _) (by decide) rfl
  exact h1.gs fun g hg => by
    simp at hg
    subst hg
    exact ⟨⟨by decide, by decide⟩, by decide, by decide⟩
theorem bd_mine {p : List G} (h : ∀ g ∈ p, N64 g.1 ∧ N64 g.2) : ∀ g ∈ p ++ [((7 : Int), (9 : Int))], N64 g.1 ∧ N64 g.2 := fun g hg => by
  rcases List.mem_append.1 hg with hg | hg
  · exact h g hg
  · simp at hg
    subst hg
    exact ⟨⟨by decide, by decide⟩, by decide, by decide⟩
theorem GO.lenK {w : World} {B : Nat} {v : Value} {l : List G} (h : GO w B v l) : l.length ≤ 9223372036854775807 := by
  rcases h.form with ⟨_, rfl⟩ | ⟨_, _, _, _, _, h⟩
  · simp
  · exact h
theorem own_alloc (w : World) (o : Obj) : Below w.heap.size w (w.alloc o) := (Below.refl _ _).alloc (Nat.le_refl _) o
set_option maxHeartbeats 4000000 in
set_option maxRecDepth 100000 in
theorem keepslaw_any (p q : List G) (x y : Value) (W : World) (hx : GS W x p) (hy : GS W y q) (hE : Vs.Env W) :
    Calls Tryz.prog 6 #[x, y] W fun e W' => e = .returned (.bool true) ∧ Below W.heap.size W W' := by
  have HE := Lib.hid hE
  have HX := Lib.hid hx
  have HY := Lib.hid hy
  obtain ⟨sx, kx, rfl, -, -⟩ := hx.form
  obtain ⟨sy, ky, rfl, -, -⟩ := hy.form
  clear hx hy hE
  by_cases hg1 : 200 < p.length
  · go_enter Tryz.func6, Tryz.ntmps6
    go_wp2_with (first
      | (go_at_call 8; refine (alive_any W HE.out).mono ?_; rintro e W1 ⟨rfl, hB2⟩)
      | (go_at_call 19; with_reducible refine (great_tt p _ _ (HX.out.below hB2) hg1).mono ?_; rintro e W3 ⟨rfl, hB3⟩; have hB4 := hB2.trans (hB3.mono hB2.size)))
    go_ret
    exact ⟨rfl, hB4⟩
  by_cases hg2 : 200 < q.length
  · go_enter Tryz.func6, Tryz.ntmps6
    go_wp2_with (first
      | (go_at_call 8; refine (alive_any W HE.out).mono ?_; rintro e W1 ⟨rfl, hB2⟩)
      | (go_at_call 19; with_reducible refine (great_ff p _ _ (HX.out.below hB2) hg1).mono ?_; rintro e W3 ⟨rfl, hB3⟩; have hB4 := hB2.trans (hB3.mono hB2.size))
      | (go_at_call 19; with_reducible refine (great_tt q _ _ (HY.out.below hB4) hg2).mono ?_; rintro e W5 ⟨rfl, hB5⟩; have hB6 := hB4.trans (hB5.mono hB4.size)))
    go_ret
    exact ⟨rfl, hB6⟩
  go_enter Tryz.func6, Tryz.ntmps6
  have hp2 : p.length ≤ 200 := by omega
  have hn64 : ∀ g ∈ p, N64 g.1 ∧ N64 g.2 := HX.out.2
  go_wp2_with (first
    | (go_at_call 8; refine (alive_any W HE.out).mono ?_; rintro e W1 ⟨rfl, hB2⟩)
    | (go_at_call 19; with_reducible refine (great_ff p _ _ (HX.out.below hB2) hg1).mono ?_; rintro e W3 ⟨rfl, hB3⟩; have hB4 := hB2.trans (hB3.mono hB2.size))
    | (go_at_call 19; with_reducible refine (great_ff q _ _ (HY.out.below hB4) hg2).mono ?_; rintro e W5 ⟨rfl, hB5⟩; have hB6 := hB4.trans (hB5.mono hB4.size); clear hB4 hB5 hB3 hB2; have hE0 := go_new0 W5 hB6.size; have hA := hB6.alloc hB6.size (.cells #[] 42))
    | (at_builtin; refine GO.cat (l := []) (r := p) (B := W.heap.size) hE0 (HX.out.below hA) ?hn hA.size ?hw _ _ rfl rfl rfl ?_; (case hn => simp; omega); (case hw => simp [Region.wanted]); intro v5 w5 hO5 hb5; have hB5 := hb5 _ hA; clear hA hb5 hE0; rw [List.nil_append] at hO5; have hA := hB5.alloc hB5.size (.cells #[.int .i64 7, .int .i64 9] 42); have hO6 := hO5.below (own_alloc w5 (.cells #[.int .i64 7, .int .i64 9] 42)); have h79 := gs_79 w5)
    | (at_builtin; refine GO.cat (l := p) (r := [(7, 9)]) (B := W.heap.size) hO6 h79 ?hn hA.size ?hw _ _ rfl rfl rfl ?_; (case hn => simp; omega); (case hw => simp [Region.wanted]); intro v6 w6 hO7 hb6; have hB7 := hb6 _ hA; clear hA hb6 hO6 hB5 h79; obtain ⟨gm, cm, rfl, hcm, hgm⟩ := hO7.gr.mine; have hF := (hO7.gs (bd_mine hn64)).front; have HO7 := Lib.hid hO7; clear hO7 hO5 hB6)
    | (go_at_call 17; refine (or_rp p q _ _ w6 hF (HY.out.below hB7)).mono ?_; rintro e W7 ⟨zx, cx, rfl, hRx, hb7⟩; have hB8 := hB7.trans (hb7.mono hB7.size); have hF7 := hF.below hb7; have HRx := Lib.hid hRx; clear hF hRx)
    | (go_at_call 18; refine (and_own p q _ _ W7 hF7 (HY.out.below hB8)).mono ?_; rintro e W8 ⟨zy, cy, ly, rfl, hOy, hb8⟩; have hB9 := hB8.trans (hb8.mono hB8.size); have hF8 := hF7.below hb8; obtain ⟨say, kay, rfl⟩ := hOy.isl; have HOy := Lib.hid hOy; clear hF7 hOy)
    | (go_at_call 20; refine (not_own p _ W8 hF8).mono ?_; rintro e W9 ⟨zz, cz, lz, rfl, hOz, hb9⟩; have hB10 := hB9.trans (hb9.mono hB9.size); obtain ⟨saz, kaz, rfl⟩ := hOz.isl; have HOz := Lib.hid hOz; clear hF8 hOz; have hG0 := go_new0 (B := W9.heap.size) W9 (Nat.le_refl _); have hA2 := hB10.alloc hB10.size (.cells #[] 42))
    | (at_builtin; refine GO.cat (l := []) (r := p) (B := W9.heap.size) hG0 (HX.out.below hA2) ?hn (own_alloc W9 _).size ?hw _ _ rfl rfl rfl ?_; (case hn => simp; omega); (case hw => simp [Region.wanted]); intro v10 w10 hO10 hb10; have hB11 := hb10 _ (own_alloc W9 _); clear hA2 hb10 hG0; rw [List.nil_append] at hO10; have hO11 := hO10.below (own_alloc w10 (.cells #[.int .i64 7, .int .i64 9] 42)); have h79' := gs_79 w10; have hA3 := hB11.alloc hB11.size (.cells #[.int .i64 7, .int .i64 9] 42))
    | (at_builtin; refine GO.cat (l := p) (r := [(7, 9)]) (B := W9.heap.size) hO11 h79' ?hn hA3.size ?hw _ _ rfl rfl rfl ?_; (case hn => simp; omega); (case hw => simp [Region.wanted]); intro v12 w12 hO12 hb12; have hB12 := hb12 _ hA3; clear hA3 hb12 hO11 hO10 hB11 h79'))
  have hb6 : Below w6.heap.size w6 w12 := hb7.trans ((hb8.trans ((hb9.trans (hB12.mono hb9.size)).mono hb8.size)).mono hb7.size)
  have hb7' : Below W7.heap.size W7 w12 := hb8.trans ((hb9.trans (hB12.mono hb9.size)).mono hb8.size)
  have hb8' : Below W8.heap.size W8 w12 := hb9.trans (hB12.mono hb9.size)
  refine (rsame_any (p ++ [(7, 9)]) _ _ w12 ((HO7.out.gs (bd_mine hn64)).below hb6) (hO12.gs (bd_mine hn64))).mono ?_
  rintro e W13 ⟨rfl, hB13⟩
  have z1 := hB7.size
  have z2 := hb7.size
  have z3 := hb8.size
  have z4 := hb9.size
  have hBW : Below W.heap.size W W13 := hB7.trans ((hb6.trans (hB13.mono hb6.size)).mono z1)
  have GM : Hid (∃ l, l.length = p.length + 1 ∧ GR W13 W.heap.size w6.heap.size (.slice (some ⟨gm, 0, none⟩) (p.length + 1) cm) l) := Lib.hid ⟨_, by simp, HO7.out.gr.below (hb6.trans (hB13.mono hb6.size)) (Nat.le_refl _)⟩
  have GY : Hid (GR W13 W7.heap.size W8.heap.size (.slice say ly.length kay) ly) := Lib.hid (HOy.out.gr.below (hb8'.trans (hB13.mono hb8'.size)) (Nat.le_refl _))
  have GZ : Hid (GR W13 W8.heap.size W9.heap.size (.slice saz lz.length kaz) lz) := Lib.hid (HOz.out.gr.below (hB12.trans (hB13.mono hB12.size)) (Nat.le_refl _))
  obtain ⟨lx, hx1, hx2, hx3⟩ := HRx.out
  have GX : Hid (GR W13 w6.heap.size W7.heap.size zx lx) := Lib.hid (hx1.gr.below (hb7'.trans (hB13.mono hb7'.size)) (Nat.le_refl _))
  have HX3 := Lib.hid hx3
  have HX2 := Lib.hid hx2
  have hyl := HOy.out.lenK
  have hzl := HOz.out.lenK
  generalize w6.heap.size = S6 at *
  generalize W7.heap.size = S7 at *
  generalize W8.heap.size = S8 at *
  generalize W9.heap.size = S9 at *
  clear hx1 hx2 hx3 hB7 hb7 hb8 hb9 hb6 hb7' hb8' HO7 HOy HOz HRx hB8 hB9 hB10 hB12 hB13 hO12 hg1 hg2 hn64
  generalize hnm : p.length + 1 = nm at GM hcm
  go_wp2_with fail
  go_loopw [68] (fun i wr => ∃ k : Nat, k ≤ nm ∧ i = .int .i64 (k : Int) ∧ ZR W.heap.size S6 W13 (.slice (some ⟨gm, 0, none⟩) nm cm) nm wr) (fun i _ => nm - (intOf i).toNat)
  case atStart => exact ⟨0, Nat.zero_le _, rfl, GM.out, KP.refl _ _ _⟩
  case round =>
    obtain ⟨k, hk, rfl, hZ⟩ := hrel
    by_cases hlt : k < nm
    · obtain ⟨g, e, hg, ⟨y1, c1⟩, ⟨y2, c2⟩, f1, f2, hZ'⟩ := hZ.step hlt
      cases e
      have HZ' := Lib.hid hZ'
      clear hZ hZ'
      go_wp2_with fail
      refine ⟨⟨k + 1, hlt, by push_cast; rfl, HZ'.out⟩, ?_⟩
      simp only [intOf]
      omega
    · obtain rfl : k = nm := by omega
      obtain ⟨-, hK⟩ := hZ
      obtain ⟨wx, hwx⟩ : ∃ w, w = wr := ⟨_, rfl⟩
      subst hwx
      have hBX : Below W.heap.size W wx := hBW.trans hK.1
      have GX1 := Lib.hid (KP.high GX.out hK (Nat.le_refl _))
      have GY1 := Lib.hid (KP.high GY.out hK z2)
      have GZ1 := Lib.hid (KP.high GZ.out hK (Nat.le_trans z2 z3))
      clear hK GX GY GZ GM hBW
      generalize hny : ly.length = ny at *
      go_wp2_with fail
      go_loopw [78] (fun i wz => ∃ k : Nat, k ≤ ny ∧ i = .int .i64 (k : Int) ∧ ZR S7 S8 wx (.slice say ny kay) ny wz) (fun i _ => ny - (intOf i).toNat)
      case atStart => exact ⟨0, Nat.zero_le _, rfl, ⟨ly, hny, GY1.out⟩, KP.refl _ _ _⟩
      case round =>
        obtain ⟨k, hk, rfl, hZ⟩ := hrel
        by_cases hlt : k < ny
        · obtain ⟨g, rfl, hg, ⟨y1, c1⟩, ⟨y2, c2⟩, f1, f2, hZ'⟩ := hZ.step hlt
          have HZ' := Lib.hid hZ'
          clear hZ hZ'
          go_wp2_with fail
          refine ⟨⟨k + 1, hlt, by push_cast; rfl, HZ'.out⟩, ?_⟩
          simp only [intOf]
          omega
        · obtain rfl : k = ny := by omega
          obtain ⟨-, hK⟩ := hZ
          obtain ⟨wy, hwy⟩ : ∃ w, w = wr := ⟨_, rfl⟩
          subst hwy
          have hBY := hBX.trans (hK.1.mono (Nat.le_trans z1 z2))
          have GX2 := Lib.hid (KP.low GX1.out hK (Nat.le_refl _))
          have GZ2 := Lib.hid (KP.high GZ1.out hK (Nat.le_refl _))
          clear hK GX1 GY1 GZ1 hBX
          generalize hnz : lz.length = nz at *
          go_wp2_with fail
          go_loopw [88] (fun i wz => ∃ k : Nat, k ≤ nz ∧ i = .int .i64 (k : Int) ∧ ZR S8 S9 wy (.slice saz nz kaz) nz wz) (fun i _ => nz - (intOf i).toNat)
          case atStart => exact ⟨0, Nat.zero_le _, rfl, ⟨lz, hnz, GZ2.out⟩, KP.refl _ _ _⟩
          case round =>
            obtain ⟨k, hk, rfl, hZ⟩ := hrel
            by_cases hlt : k < nz
            · obtain ⟨g, rfl, hg, ⟨y1, c1⟩, ⟨y2, c2⟩, f1, f2, hZ'⟩ := hZ.step hlt
              have HZ' := Lib.hid hZ'
              clear hZ hZ'
              go_wp2_with fail
              refine ⟨⟨k + 1, hlt, by push_cast; rfl, HZ'.out⟩, ?_⟩
              simp only [intOf]
              omega
            · obtain rfl : k = nz := by omega
              obtain ⟨-, hK⟩ := hZ
              obtain ⟨wz, hwz⟩ : ∃ w, w = wr := ⟨_, rfl⟩
              subst hwz
              have hBZ := hBY.trans (hK.1.mono (Nat.le_trans z1 (Nat.le_trans z2 z3)))
              have GX3 := Lib.hid (KP.low GX2.out hK z3)
              clear hK GX2 GZ2 hBY
              go_wp2_with (first
                | (go_at_call 21; refine (both_rp p q _ _ wz (HX.out.below hBZ) (HY.out.below hBZ)).mono ?_; rintro e W20 ⟨z', c', rfl, ⟨l', hl1, hl2, hl3⟩, hb20⟩; have hB20 := hBZ.trans (hb20.mono hBZ.size); have HE9 := RP.eq HX3.out hl3; have e9 := HE9.1; have e10 := HE9.2; clear hl3 HE9; subst e9 e10; have HS := rsame_any lx zx z' W20 ((GX3.out.1.gs fun g hg => (HX2.out g hg).n64).below hb20) (hl1.gs fun g hg => (HX2.out g hg).n64); clear hl1 hl2)
                | (go_at_call 11; refine HS.mono ?_; rintro e W21 ⟨rfl, hb21⟩; have hB21 := hB20.trans (hb21.mono hB20.size)))
              go_ret
              exact ⟨rfl, hB21⟩
end Sg
end Go.Proofs.YtlmmhhkhoaoheaaGreatDoor
