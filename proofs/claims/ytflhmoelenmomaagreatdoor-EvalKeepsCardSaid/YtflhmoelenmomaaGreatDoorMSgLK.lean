/-
  Law: SpanKeeps answers true.
-/
import Derived.Test.YtflhmoelenmomaaGreatDoorMSgV
namespace Go.Proofs.YtflhmoelenmomaaGreatDoor
open Go.RowKit Go.Shelf Go.Lib
namespace Sg

/-- what Or and the reference's Both answer alike -/
def RP (p q : List G) (B : Nat) (z : Value) (c : Int) (W' : World) : Prop := ∃ l, GO W' B z l ∧ (∀ g ∈ l, Bd g) ∧ (((goodB p && goodB q) = false ∧ l = [] ∧ c = 1) ∨ ((goodB p && goodB q) = true ∧ ∃ r, Nm r ∧ (∀ n, inR r n ↔ inR p n ∨ inR q n) ∧ c = (if 16 < r.length then 13 else 0) ∧ l = (if 16 < r.length then [] else r)))
theorem RP.eq {p q : List G} {c c' : Int} {l l' : List G}
    (h : ((goodB p && goodB q) = false ∧ l = [] ∧ c = 1) ∨ ((goodB p && goodB q) = true ∧ ∃ r, Nm r ∧ (∀ n, inR r n ↔ inR p n ∨ inR q n) ∧ c = (if 16 < r.length then 13 else 0) ∧ l = (if 16 < r.length then [] else r)))
    (h' : ((goodB p && goodB q) = false ∧ l' = [] ∧ c' = 1) ∨ ((goodB p && goodB q) = true ∧ ∃ r, Nm r ∧ (∀ n, inR r n ↔ inR p n ∨ inR q n) ∧ c' = (if 16 < r.length then 13 else 0) ∧ l' = (if 16 < r.length then [] else r))) : c = c' ∧ l = l' := by
  rcases h with ⟨h1, rfl, rfl⟩ | ⟨h1, r, h2, h3, rfl, rfl⟩
  · rcases h' with ⟨_, rfl, rfl⟩ | ⟨g1, _⟩
    · exact ⟨rfl, rfl⟩
    · rw [h1] at g1; cases g1
  · rcases h' with ⟨g1, _⟩ | ⟨_, r', g2, g3, rfl, rfl⟩
    · rw [h1] at g1; cases g1
    · have e : r = r' := nm_unique _ _ h2 g2 fun n => (h3 n).trans (g3 n).symm
      subst e
      exact ⟨rfl, rfl⟩
theorem SetP.rp {p q r : List G} {B : Nat} {e : Ending} {W' : World} (ha : goodB p = true) (hb : goodB q = true) (h : SetP B (fun n => inR p n ∨ inR q n) r e W') : ∃ z c, e = .returned (.tuple #[z, .int .i64 c]) ∧ RP p q B z c W' := by
  have hab : (goodB p && goodB q) = true := by rw [ha, hb]; rfl
  rcases h.ans with ⟨h1, h2⟩ | ⟨h1, v, h2, h3⟩
  · exact ⟨_, _, h2, [], go_nil _ _, (fun g hg => by cases hg), .inr ⟨hab, r, h.nm, h.mem, by rw [if_pos h1], by rw [if_pos h1]⟩⟩
  · exact ⟨_, _, h2, r, h3, h.bd, .inr ⟨hab, r, h.nm, h.mem, by rw [if_neg h1], by rw [if_neg h1]⟩⟩
theorem RP.bad {p q : List G} (B : Nat) (W' : World) (h : (goodB p && goodB q) = false) : RP p q B (.slice none 0 0) 1 W' := ⟨[], go_nil _ _, (fun g hg => by cases hg), .inl ⟨h, rfl, rfl⟩⟩
/-- an answer that is its holder's own -/
theorem SetP.own {S : Int → Prop} {r : List G} {B : Nat} {e : Ending} {W' : World} (h : SetP B S r e W') : ∃ z c l, e = .returned (.tuple #[z, .int .i64 c]) ∧ GO W' B z l := by
  rcases h.ans with ⟨h1, h2⟩ | ⟨h1, v, h2, h3⟩
  · exact ⟨_, _, [], h2, go_nil _ _⟩
  · exact ⟨_, _, r, h2, h3⟩
/-- a row whose block lies between two bounds -/
def GR (w : World) (B E : Nat) (v : Value) (l : List G) : Prop := GO w B v l ∧ ∀ g n cap, v = .slice (some ⟨g, 0, none⟩) n cap → g < E
theorem GO.gr {w : World} {B : Nat} {v : Value} {l : List G} (h : GO w B v l) : GR w B w.heap.size v l := by
  refine ⟨h, fun g n cap e => ?_⟩
  rcases h.form with ⟨rfl, _⟩ | ⟨g', cap', rfl, _, h2, _⟩
  · cases e
  · cases e
    exact h2
theorem GR.carry {w w' : World} {B E : Nat} {v : Value} {l : List G} (h : GR w B E v l) (hk : ∀ k, B ≤ k → k < E → w'.heap[k]? = w.heap[k]?) : GR w' B E v l := by
  refine ⟨?_, h.2⟩
  obtain ⟨h1, h2⟩ := h.1
  refine ⟨h1, ?_⟩
  rcases h2 with h2 | ⟨g, cap, cur, h3, h4, h5, h6⟩
  · exact .inl h2
  · exact .inr ⟨g, cap, cur, h3, h4, (hk g h4 (h.2 g _ cap h3)).trans h5, h6⟩
theorem GR.below {w w' : World} {B E D : Nat} {v : Value} {l : List G} (h : GR w B E v l) (hb : Below D w w') (hd : E ≤ D) : GR w' B E v l := h.carry fun k _ hk => hb.block k (Nat.lt_of_lt_of_le hk hd)
/-- nothing changed but the blocks from lo to hi -/
def KP (lo hi : Nat) (w w' : World) : Prop := Below lo w w' ∧ w'.heap.size = w.heap.size ∧ ∀ k, hi ≤ k → w'.heap[k]? = w.heap[k]?
theorem KP.refl (lo hi : Nat) (w : World) : KP lo hi w w := ⟨Below.refl _ _, rfl, fun _ _ => rfl⟩
theorem KP.low {w w' : World} {B E lo hi : Nat} {v : Value} {l : List G} (h : GR w B E v l) (hk : KP lo hi w w') (hd : E ≤ lo) : GR w' B E v l := h.below hk.1 hd
theorem KP.high {w w' : World} {B E lo hi : Nat} {v : Value} {l : List G} (h : GR w B E v l) (hk : KP lo hi w w') (hd : hi ≤ B) : GR w' B E v l := h.carry fun k h1 _ => hk.2.2 k (Nat.le_trans hd h1)
theorem row_put : ∀ (l : List G) (k : Nat), row (l.set k (0, 0)) = ((row l).set (k * 2) (.int .i64 0)).set (k * 2 + 1) (.int .i64 0)
  | [], k => by simp [row]
  | a :: l, 0 => by simp [row]
  | a :: l, k + 1 => by
    have ih := row_put l k
    show .int .i64 a.1 :: .int .i64 a.2 :: row (l.set k (0, 0)) = _
    rw [ih, show (k + 1) * 2 = k * 2 + 1 + 1 by omega]
    rfl
/-- rounds of writing nought -/
def ZR (lo hi : Nat) (w0 : World) (v : Value) (n : Nat) (wr : World) : Prop := (∃ l, l.length = n ∧ GR wr lo hi v l) ∧ KP lo hi w0 wr
theorem ZR.step {lo hi n cap k : Nat} {w0 wr : World} {sl : Option Addr} (h : ZR lo hi w0 (.slice sl n cap) n wr) (hk : k < n) :
    ∃ g, sl = some ⟨g, 0, none⟩ ∧ g < wr.heap.size ∧ (∃ y, wr.cell? ⟨g, k * 2, none⟩ = some (.int .i64 y)) ∧ (∃ y, wr.cell? ⟨g, k * 2 + 1, none⟩ = some (.int .i64 y)) ∧ wr.frozen? ⟨g, k * 2, none⟩ = false ∧ wr.frozen? ⟨g, k * 2 + 1, none⟩ = false ∧
      ZR lo hi w0 (.slice sl n cap) n ((wr.setCell ⟨g, k * 2, none⟩ (.int .i64 0)).setCell ⟨g, k * 2 + 1, none⟩ (.int .i64 0)) := by
  obtain ⟨⟨l, rfl, hg, hE⟩, hK, hs, hh⟩ := h
  obtain ⟨a, ha⟩ : ∃ a, l[k]? = some a := ⟨_, List.getElem?_eq_getElem hk⟩
  obtain ⟨g, rfl, h1, h2, h3, h4⟩ := hg.at ha
  have h5 := hE g _ _ rfl
  have h6 := (World.ownsRow.stored hg (k * 2) (.int .i64 0)).1
  have h7 := (World.ownsRow.stored h6 (k * 2 + 1) (.int .i64 0)).1
  refine ⟨g, rfl, h2, ⟨_, h3⟩, ⟨_, h4⟩, World.ownsRow.frozenAt hg _, World.ownsRow.frozenAt hg _, ⟨l.set k (0, 0), by simp, ?_, fun g' n' cap' e => by cases e; exact h5⟩, (hK.setCell (p := ⟨g, k * 2, none⟩) h1 _).setCell (p := ⟨g, k * 2 + 1, none⟩) h1 _, by simpa [World.setCell] using hs, fun j hj => ?_⟩
  · unfold GO
    rw [List.length_set, show row (l.set k (0, 0)) = ((row l).set (k * 2) (.int .i64 0)).set (k * 2 + 1) (.int .i64 0) from row_put l k]
    exact h7
  · exact (Below.heap_setCell _ _ _ _ (by show j ≠ g; omega)).trans ((Below.heap_setCell _ _ _ _ (by show j ≠ g; omega)).trans (hh j hj))
theorem GR.mine {w : World} {B E : Nat} {v : Value} {p : List G} {z : G} (h : GR w B E v (p ++ [z])) : ∃ g cap, v = .slice (some ⟨g, 0, none⟩) (p.length + 1) cap ∧ p.length + 1 ≤ cap ∧ B ≤ g := by
  obtain ⟨h1, h2⟩ := h.1
  rcases h2 with ⟨_, h2⟩ | ⟨g, cap, cur, h3, h4, h5, h6, h7, _⟩
  · simp at h2
  · simp at h3 h6
    exact ⟨g, cap, h3, h6, h4⟩
theorem GS.front {w : World} {sl : Option Addr} {cap : Nat} {p : List G} {z : G} {n : Nat} (h : GS w (.slice sl n cap) (p ++ [z])) : GS w (.slice sl p.length cap) p := by
  obtain ⟨h1, h2, s', c', h3, h4, h5⟩ := h
  cases h3
  refine ⟨by simp at h1; omega, fun g hg => h2 g (List.mem_append_left _ hg), _, _, rfl, h4, fun k a ha => ?_⟩
  exact h5 k a (by rw [List.getElem?_append_left (List.getElem?_eq_some_iff.1 ha).1]; exact ha)
theorem go_new0 {B : Nat} (w : World) (h : B ≤ w.heap.size) : GO (w.alloc (.cells #[] 55)) B (.slice (some ⟨w.heap.size, 0, none⟩) 0 0) [] := by
  have h1 := World.ownsRow_lit (base := B) (e := 55) (size := 2) w #[] 0 h (by decide) rfl
  exact h1
theorem gs_79 (w : World) : GS (w.alloc (.cells #[.int .i64 7, .int .i64 9] 55)) (.slice (some ⟨w.heap.size, 0, none⟩) 1 1) [(7, 9)] := by
  have h1 : GO (w.alloc (.cells #[.int .i64 7, .int .i64 9] 55)) w.heap.size (.slice (some ⟨w.heap.size, 0, none⟩) 1 1) [(7, 9)] := World.ownsRow_lit (base := w.heap.size) (e := 55) (size := 2) w #[.int .i64 7, .int .i64 9] 1 (Nat.le_refl _) (by decide) rfl
  exact h1.gs fun g hg => by
    simp at hg
    subst hg
    exact ⟨⟨by decide, by decide⟩, by decide, by decide⟩
theorem bd_mine {p : List G} (h : ∀ g ∈ p, N64 g.1 ∧ N64 g.2) : ∀ g ∈ p ++ [((7 : Int), (9 : Int))], N64 g.1 ∧ N64 g.2 := fun g hg => by
  rcases List.mem_append.1 hg with hg | hg
  · exact h g hg
  · simp at hg
    subst hg
    exact ⟨⟨by decide, by decide⟩, by decide, by decide⟩
theorem GO.lenK {w : World} {B : Nat} {v : Value} {l : List G} (h : GO w B v l) : l.length ≤ 9223372036854775807 := by
  rcases h.form with ⟨_, rfl⟩ | ⟨_, _, _, _, _, h⟩
  · simp
  · exact h
theorem own_alloc (w : World) (o : Obj) : Below w.heap.size w (w.alloc o) := (Below.refl _ _).alloc (Nat.le_refl _) o
end Sg
end Go.Proofs.YtflhmoelenmomaaGreatDoor
