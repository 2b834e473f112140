/-
  Plain: trees of files: what can be one, what is read from it, what putting makes of it. No program in sight.
-/
import Derived.Test.YtbefgplaaghlbaaGreatDoorTrP
import Derived.Test.YtbefgplaaghlbaaGreatDoorVersionP
import Derived.Test.YtbefgplaaghlbaaGreatDoorNmP
namespace Go.Proofs.YtbefgplaaghlbaaGreatDoor
namespace Tr

/-- a path: names with strokes between them -/
def pathL (l : List UInt8) : Bool := decide (l.length ≤ 128) && decide ((Vs.pieces 47 l).length ≤ 8) && (Vs.pieces 47 l).all Nm.nameL
/-- the first file that can't be: its path (10), or its bytes (3) -/
def badF : List F → Option Int
  | [] => none
  | f :: l => if pathL (K f) = false then some 10 else if 2048 < f.2.size then some 3 else badF l
def leF (f g : F) : Bool := !ltB (K g) (K f)
theorem leF_iff {f g : F} : leF f g = true ↔ Le f g := by simp [leF, Le, leB]
def sortF (l : List F) : List F := l.mergeSort leF
theorem sort_srt (l : List F) : Srt (sortF l) := by
  have h := List.pairwise_mergeSort (le := leF) (fun a b c h1 h2 => by rw [leF_iff] at *; exact leB_tr h1 h2) (fun a b => by
    rcases leB_tot (K a) (K b) with h | h
    · rw [leF_iff.2 h]; rfl
    · rw [leF_iff.2 h, Bool.or_true]) l
  exact h.imp fun h => leF_iff.1 h
theorem sort_perm (l : List F) : (sortF l).Perm l := List.mergeSort_perm l leF
/-- unlike paths -/
def Unl (l : List F) : Prop := (l.map K).Nodup
instance (l : List F) : Decidable (Unl l) := inferInstanceAs (Decidable (l.map K).Nodup)
theorem Unl.perm {l m : List F} (h : Unl l) (hp : l.Perm m) : Unl m := (hp.map K).nodup_iff.1 h
/-- rising files with unlike paths stand in one order alone -/
theorem srt_eq : ∀ {l m : List F}, Srt l → Srt m → Unl l → l.Perm m → l = m
  | [], m, _, _, _, hp => (List.nil_perm.1 hp).symm
  | x :: l, m, h1, h2, h3, hp => by
    match m, h2, hp with
    | [], _, hp => exact absurd (List.perm_nil.1 hp) (by simp)
    | y :: m, h2, hp =>
      obtain ⟨a1, a2⟩ := List.pairwise_cons.1 h1
      obtain ⟨b1, b2⟩ := List.pairwise_cons.1 h2
      have hxy : x = y := by
        have hx : x ∈ y :: m := hp.mem_iff.1 (List.mem_cons_self ..)
        have hy : y ∈ x :: l := hp.mem_iff.2 (List.mem_cons_self ..)
        rcases List.mem_cons.1 hx with h | hx
        · exact h
        rcases List.mem_cons.1 hy with h | hy
        · exact h.symm
        · have e : K x = K y := leB_anti (a1 y hy) (b1 x hx)
          have hn := (List.nodup_cons.1 (by simpa [Unl] using h3 : (K x :: l.map K).Nodup)).1
          exact absurd (List.mem_map.2 ⟨y, hy, e.symm⟩) hn
      subst hxy
      rw [srt_eq a2 b2 (List.nodup_cons.1 (by simpa [Unl] using h3 : (K x :: l.map K).Nodup)).2 (List.perm_cons _ |>.1 hp)]
/-- does a path stand ahead of a stroke in another one? -/
def aheadL (p q : List UInt8) : Bool := (p ++ [47]).isPrefixOf q
def clashF (l : List F) : Bool := l.any fun f => l.any fun g => aheadL (K f) (K g)
theorem clash_perm {l m : List F} (h : l.Perm m) : clashF l = clashF m := by
  unfold clashF
  rw [Bool.eq_iff_iff]
  simp only [List.any_eq_true]
  constructor
  · rintro ⟨f, hf, g, hg, h1⟩
    exact ⟨f, h.mem_iff.1 hf, g, h.mem_iff.1 hg, h1⟩
  · rintro ⟨f, hf, g, hg, h1⟩
    exact ⟨f, h.mem_iff.2 hf, g, h.mem_iff.2 hg, h1⟩
/-- the tree of files -/
def makeP (l : List F) : Except Int (List F) :=
  if 32 < l.length then .error 13
  else match badF l with
    | some e => .error e
    | none => if ¬ Unl l then .error 11 else if clashF l = true then .error 12 else .ok (sortF l)
def goodT (l : List F) : Bool := match makeP l with
  | .error _ => false
  | .ok s => decide (s = l)
def getT (l : List F) (p : List UInt8) : Option ByteArray := (l.find? fun f => K f == p).map (·.2)
def putT (l : List F) (f : F) : Except Int (List F) := if goodT l = true then makeP ((l.filter fun g => !(K g == K f)) ++ [f]) else .error 1
theorem make_of {l s : List F} (h1 : ¬ 32 < l.length) (h2 : badF l = none) (h3 : Unl l) (h4 : clashF l = false) (hs : Srt s) (hp : s.Perm l) : makeP l = .ok s := by
  unfold makeP
  rw [if_neg h1, h2]
  show (if ¬ Unl l then _ else _) = _
  rw [if_neg (by simpa using h3), if_neg (by rw [h4]; decide), srt_eq (sort_srt l) hs (h3.perm (sort_perm l).symm) ((sort_perm l).trans hp.symm)]
theorem make_good {l s : List F} (h : makeP l = .ok s) : s = sortF l ∧ ¬ 32 < l.length ∧ badF l = none ∧ Unl l ∧ clashF l = false := by
  unfold makeP at h
  split at h
  · cases h
  · split at h
    · cases h
    · split at h
      · cases h
      · split at h
        · cases h
        · rename_i h1 _ h2 h3 h4
          cases h
          exact ⟨rfl, h1, h2, by simpa using h3, by simpa using h4⟩
theorem badF_none {l : List F} : badF l = none ↔ ∀ f ∈ l, pathL (K f) = true ∧ f.2.size ≤ 2048 := by
  induction l with
  | nil => simp [badF]
  | cons f l ih =>
    rw [badF]
    constructor
    · intro h
      split at h
      · cases h
      split at h
      · cases h
      · rename_i h1 h2
        intro g hg
        rcases List.mem_cons.1 hg with rfl | hg
        · exact ⟨by simpa using h1, by omega⟩
        · exact ih.1 h g hg
    · intro h
      have hf := h f (List.mem_cons_self ..)
      rw [if_neg (by rw [hf.1]; decide), if_neg (by omega)]
      exact ih.2 fun g hg => h g (List.mem_cons_of_mem _ hg)
theorem badF_perm {l m : List F} (h : l.Perm m) (hl : badF l = none) : badF m = none := badF_none.2 fun f hf => badF_none.1 hl f (h.mem_iff.2 hf)
/-- what is made can be -/
theorem make_is {l s : List F} (h : makeP l = .ok s) : goodT s = true := by
  obtain ⟨rfl, h1, h2, h3, h4⟩ := make_good h
  have hp := sort_perm l
  unfold goodT
  rw [make_of (by rw [hp.length_eq]; exact h1) (badF_perm hp.symm h2) (h3.perm hp.symm) (by rw [clash_perm hp]; exact h4) (sort_srt l) (List.Perm.refl _)]
  simp
theorem good_make {l : List F} (h : goodT l = true) : makeP l = .ok l := by
  unfold goodT at h
  split at h
  · cases h
  · rename_i s hs
    rw [hs, of_decide_eq_true h]
theorem good_srt {l : List F} (h : goodT l = true) : Srt l := by
  have h1 := good_make h
  obtain ⟨e, -⟩ := make_good h1
  have := sort_srt l
  rwa [← e] at this
theorem good_unl {l : List F} (h : goodT l = true) : Unl l := (make_good (good_make h)).2.2.2.1
theorem put_is {l : List F} {f : F} {s : List F} (h : putT l f = .ok s) : goodT s = true := by
  unfold putT at h
  split at h
  · exact make_is h
  · cases h
theorem good_nil : goodT [] = true := by
  unfold goodT makeP
  simp [badF, Unl, clashF, sortF]
end Tr
end Go.Proofs.YtbefgplaaghlbaaGreatDoor
