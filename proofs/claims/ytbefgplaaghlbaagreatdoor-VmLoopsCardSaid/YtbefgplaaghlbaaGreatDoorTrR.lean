/-
  Plain: the reference's way to a tree: files put in one by one. No program in sight.
-/
import Derived.Test.YtbefgplaaghlbaaGreatDoorTrQ
namespace Go.Proofs.YtbefgplaaghlbaaGreatDoor
namespace Tr

/-- a file put where it belongs -/
def ins1 (t : List F) (f : F) : List F := t.filter (fun g => ltB (K g) (K f)) ++ f :: t.filter (fun g => ltB (K f) (K g))
theorem ins1_perm {t : List F} {f : F} (h : ∀ g ∈ t, K g ≠ K f) : (ins1 t f).Perm (f :: t) := by
  have e : t.filter (fun g => ltB (K f) (K g)) = t.filter (fun g => !ltB (K g) (K f)) := by
    refine List.filter_congr fun g hg => ?_
    cases h1 : ltB (K g) (K f) with
    | true => rw [ltB_asym h1]; rfl
    | false =>
      cases h2 : ltB (K f) (K g) with
      | true => rfl
      | false => exact absurd (ltB_tri h1 h2) (h g hg)
  unfold ins1
  rw [e]
  exact List.perm_middle.trans ((List.filter_append_perm _ t).cons f)
theorem ins1_srt {t : List F} {f : F} (h : Srt t) : Srt (ins1 t f) := by
  refine List.pairwise_append.2 ⟨h.sublist List.filter_sublist, List.pairwise_cons.2 ⟨fun g hg => ?_, h.sublist List.filter_sublist⟩, fun a ha b hb => ?_⟩
  · exact leB_of (by simpa using (List.mem_filter.1 hg).2)
  · have h1 : ltB (K a) (K f) = true := by simpa using (List.mem_filter.1 ha).2
    rcases List.mem_cons.1 hb with rfl | hb
    · exact leB_of h1
    · have h2 : ltB (K f) (K b) = true := by simpa using (List.mem_filter.1 hb).2
      exact leB_of (ltB_tr h1 h2)
def insA : List F → List F → Option (List F)
  | [], t => some t
  | f :: l, t => if (t.any fun g => K g == K f) = true then none else insA l (ins1 t f)
theorem any_iff {t : List F} {f : F} : (t.any fun g => K g == K f) = true ↔ ∃ g ∈ t, K g = K f := by
  rw [List.any_eq_true]
  constructor
  · rintro ⟨g, hg, h⟩
    exact ⟨g, hg, by simpa using h⟩
  · rintro ⟨g, hg, h⟩
    exact ⟨g, hg, by simpa using h⟩
theorem unl_cons {f : F} {t : List F} : Unl (f :: t) ↔ (∀ g ∈ t, K g ≠ K f) ∧ Unl t := by
  unfold Unl
  rw [List.map_cons, List.nodup_cons]
  constructor
  · rintro ⟨h1, h2⟩
    exact ⟨fun g hg e => h1 (List.mem_map.2 ⟨g, hg, e⟩), h2⟩
  · rintro ⟨h1, h2⟩
    refine ⟨fun h => ?_, h2⟩
    obtain ⟨g, hg, e⟩ := List.mem_map.1 h
    exact h1 g hg e
theorem insA_some : ∀ (l t s : List F), Srt t → Unl t → insA l t = some s → Srt s ∧ s.Perm (l ++ t) ∧ Unl (l ++ t)
  | [], t, s, h1, h2, h => by cases h; exact ⟨h1, List.Perm.refl _, h2⟩
  | f :: l, t, s, h1, h2, h => by
    rw [insA] at h
    split at h
    · cases h
    · rename_i hn
      have hf : ∀ g ∈ t, K g ≠ K f := fun g hg e => hn (any_iff.2 ⟨g, hg, e⟩)
      have hp := ins1_perm hf
      obtain ⟨a1, a2, a3⟩ := insA_some l (ins1 t f) s (ins1_srt h1) ((unl_cons.2 ⟨hf, h2⟩).perm hp.symm) h
      have hq : (l ++ ins1 t f).Perm ((f :: l) ++ t) := (List.Perm.append_left l hp).trans List.perm_middle
      exact ⟨a1, a2.trans hq, a3.perm hq⟩
theorem insA_none : ∀ (l t : List F), Srt t → Unl t → insA l t = none → ¬ Unl (l ++ t)
  | [], t, _, _, h => by cases h
  | f :: l, t, h1, h2, h => by
    rw [insA] at h
    split at h
    · rename_i hy
      obtain ⟨g, hg, e⟩ := any_iff.1 hy
      intro hu
      exact (unl_cons.1 hu).1 g (List.mem_append_right l hg) e
    · rename_i hn
      have hf : ∀ g ∈ t, K g ≠ K f := fun g hg e => hn (any_iff.2 ⟨g, hg, e⟩)
      have hp := ins1_perm hf
      intro hu
      have hq : (l ++ ins1 t f).Perm ((f :: l) ++ t) := (List.Perm.append_left l hp).trans List.perm_middle
      exact insA_none l (ins1 t f) (ins1_srt h1) ((unl_cons.2 ⟨hf, h2⟩).perm hp.symm) h (hu.perm hq.symm)
theorem insA_unl {l : List F} : (insA l []).isNone = true ↔ ¬ Unl l := by
  cases h : insA l [] with
  | none =>
    have := insA_none l [] List.Pairwise.nil List.nodup_nil h
    rw [List.append_nil] at this
    exact ⟨fun _ => this, fun _ => rfl⟩
  | some s =>
    have := (insA_some l [] s List.Pairwise.nil List.nodup_nil h).2.2
    rw [List.append_nil] at this
    exact ⟨fun e => (by cases e), fun e => absurd this e⟩
theorem insA_sort {l s : List F} (h : insA l [] = some s) : s = sortF l := by
  obtain ⟨h1, h2, h3⟩ := insA_some l [] s List.Pairwise.nil List.nodup_nil h
  rw [List.append_nil] at h2 h3
  exact srt_eq h1 (sort_srt l) (h3.perm h2.symm) (h2.trans (sort_perm l).symm)
/-! a path ahead of a stroke, as the reference sees it -/
theorem ahead_iff (p q : List UInt8) : aheadL p q = true ↔ p.length < q.length ∧ q.take p.length = p ∧ q[p.length]? = some 47 := by
  unfold aheadL
  rw [List.isPrefixOf_iff_prefix]
  constructor
  · rintro ⟨t, rfl⟩
    refine ⟨by simp, by simp, by simp⟩
  · rintro ⟨h1, h2, h3⟩
    refine ⟨q.drop (p.length + 1), ?_⟩
    have h4 := List.take_append_drop p.length q
    rw [h2] at h4
    have h5 : q.drop p.length = 47 :: q.drop (p.length + 1) := by
      obtain ⟨h6, h7⟩ := List.getElem?_eq_some_iff.1 h3
      rw [List.drop_eq_getElem_cons h6, h7]
    rw [h5] at h4
    rw [← h4]
    simp
end Tr
end Go.Proofs.YtbefgplaaghlbaaGreatDoor
