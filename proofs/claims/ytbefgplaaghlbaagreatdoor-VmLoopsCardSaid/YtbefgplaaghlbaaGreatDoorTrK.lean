/-
  Walks: a copy of a tree's files (slices.Clone at files).
-/
import Derived.Test.YtbefgplaaghlbaaGreatDoorShelfZ
import Derived.Test.YtbefgplaaghlbaaGreatDoorTrJ
import Derived.Laws.AppendOwn
import Derived.Laws.OwnMore
namespace Go.Proofs.YtbefgplaaghlbaaGreatDoor
open Go.RowKit Go.Shelf Go.Lib Go.Sort
namespace Tr

theorem info_file : (Tryz.prog.info? 34).map (fun i => (i.zero, i.size, i.bytes)) = some (some (.agg #[.string ⟨#[]⟩, .string ⟨#[]⟩]), 2, 32) := by kernel_rfl
def rowF (l : List F) : List Value := l.flatMap fun f => [.string f.1, .string f.2]
theorem rowF_len : ∀ l : List F, (rowF l).length = l.length * 2
  | [] => rfl
  | a :: l => by
    have := rowF_len l
    simp only [rowF, List.flatMap_cons, List.length_append, List.length_cons, List.length_nil] at *
    omega
theorem rowF_at : ∀ (l : List F) (k : Nat) (a : F), l[k]? = some a → (rowF l)[k * 2]? = some (.string a.1) ∧ (rowF l)[k * 2 + 1]? = some (.string a.2)
  | [], k, a, h => by simp at h
  | b :: l, 0, a, h => by simp at h; subst h; exact ⟨rfl, rfl⟩
  | b :: l, k + 1, a, h => by
    have ih := rowF_at l k a (by simpa using h)
    rw [show (k + 1) * 2 = k * 2 + 2 by omega]
    exact ih
theorem rowF_one (l : List F) : ∀ v ∈ rowF l, v.oneCell' = true := by
  intro v hv
  obtain ⟨p, _, hp⟩ := List.mem_flatMap.1 hv
  simp at hp
  rcases hp with rfl | rfl <;> rfl
/-- files that can be read in a block, from a place on -/
def FC (w : World) (g off : Nat) (l : List F) : Prop := g < w.heap.size ∧ ∀ i f, l[i]? = some f → w.cell? ⟨g, off + i * 2, none⟩ = some (.string f.1) ∧ w.cell? ⟨g, off + i * 2 + 1, none⟩ = some (.string f.2)
theorem FR.fc {w : World} {g : Nat} {l : List F} (h : FR w g l) : FC w g 0 l := ⟨h.lt, fun i f hf => by simpa using h.cells hf⟩
theorem FC.keep {w w' : World} {g off : Nat} {l : List F} (h : FC w g off l) (hb : Below w.heap.size w w') : FC w' g off l :=
  ⟨Nat.lt_of_lt_of_le h.1 hb.size, fun i f hf => ⟨(hb.cell (p := ⟨g, off + i * 2, none⟩) h.1).trans (h.2 i f hf).1, (hb.cell (p := ⟨g, off + i * 2 + 1, none⟩) h.1).trans (h.2 i f hf).2⟩⟩
theorem FC.row {w : World} {g off : Nat} {l : List F} (h : FC w g off l) {j : Nat} {u : Value} (hj : (rowF l)[j]? = some u) : w.cell? ⟨g, off + j, none⟩ = some u := by
  have hjl : j < l.length * 2 := by rw [← rowF_len]; exact (List.getElem?_eq_some_iff.1 hj).1
  obtain ⟨f, hf⟩ : ∃ f, l[j / 2]? = some f := ⟨_, List.getElem?_eq_getElem (by omega)⟩
  obtain ⟨a1, a2⟩ := h.2 _ f hf
  obtain ⟨b1, b2⟩ := rowF_at l _ f hf
  rcases Nat.mod_two_eq_zero_or_one j with e | e
  · have e1 : j / 2 * 2 = j := by omega
    rw [e1] at a1 b1
    rw [hj] at b1
    rw [a1, b1]
  · have e1 : j / 2 * 2 + 1 = j := by omega
    rw [Nat.add_assoc, e1] at a2
    rw [e1] at b2
    rw [hj] at b2
    rw [a2, b2]
theorem sizeFile : ∀ w, (Go.sizeOf 34).run Tryz.prog w = .ok 2 w := Tryz.sizeOf34
theorem own_fr {w : World} {B : Nat} {v : Value} {l : List F} (h : w.ownsRow B 34 2 v l.length (rowF l)) (hv : v ≠ .slice none 0 0) : ∃ g cap, v = .slice (some ⟨g, 0, none⟩) l.length cap ∧ B ≤ g ∧ FR w g l ∧ l.length ≤ cap := by
  rcases h.2 with ⟨rfl, -⟩ | ⟨g, cap, cur, rfl, hb, hg, hn, hm, hs, ht⟩
  · exact absurd rfl hv
  · refine ⟨g, cap, rfl, hb, ⟨cur, hg, by omega, fun i f hf => ?_⟩, hn⟩
    obtain ⟨b1, b2⟩ := rowF_at l i f hf
    have hi := (List.getElem?_eq_some_iff.1 hf).1
    rw [← ht, List.getElem?_take_of_lt (by omega), Array.getElem?_toList] at b1 b2
    exact ⟨b1, b2⟩
theorem fclone_any (l : List F) (g off cap : Nat) (w : World) (hF : FC w g off l) (hl : l.length ≤ 1000000) :
    Calls Tryz.prog 37 #[.slice (some ⟨g, off, none⟩) l.length cap] w fun e w' => ∃ g' cap', e = .returned (.slice (some ⟨g', 0, none⟩) l.length cap') ∧ w.heap.size ≤ g' ∧ FR w' g' l ∧ Below w.heap.size w w' := by
  obtain ⟨i0, hi0, hz⟩ := Option.map_eq_some_iff.1 info_file
  obtain ⟨z1, z2⟩ := Prod.mk.inj hz
  obtain ⟨z2, z3⟩ := Prod.mk.inj z2
  refine (AnyE.slices_Clone Tryz.cloneF i0 _ 2 32 hi0 z1 z2 z3 rfl (by decide) sizeFile g off l.length cap (rowF l) w (rowF_len l) (by simp only [maxLen]; omega) (by omega) (fun j u hj => hF.row hj) (rowF_one l)).mono ?_
  rintro e w' ⟨v', rfl, h4, h5, h6⟩
  obtain ⟨g', cap', rfl, h7, h8, -⟩ := own_fr h4 h5
  exact ⟨g', cap', rfl, h7, h8, h6⟩
end Tr
end Go.Proofs.YtbefgplaaghlbaaGreatDoor
