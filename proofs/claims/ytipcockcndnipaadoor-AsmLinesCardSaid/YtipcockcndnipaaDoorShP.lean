/-
  Plain: pairs by rising keys (layer 3): where a key stands, what it has, what putting does. No program in sight.
-/
import Derived.Test.YtipcockcndnipaaDoorRows
namespace Go.Proofs.YtipcockcndnipaaDoor
namespace Shf

structure Ord {κ : Type} (lt : κ → κ → Bool) : Prop where
  irr : ∀ a, lt a a = false
  tr : ∀ a b c, lt a b = true → lt b c = true → lt a c = true
  tri : ∀ a b, lt a b = false → lt b a = false → a = b
section
variable {κ ν : Type} (lt : κ → κ → Bool)
def Srt (l : List (κ × ν)) : Prop := l.Pairwise fun a b => lt a.1 b.1 = true
def pos : List (κ × ν) → κ → Nat
  | [], _ => 0
  | a :: l, k => if lt a.1 k = true then pos l k + 1 else 0
variable {lt}
theorem pos_le : ∀ (l : List (κ × ν)) (k : κ), pos lt l k ≤ l.length
  | [], _ => Nat.le_refl _
  | a :: l, k => by
    rw [pos]
    split
    · have := pos_le l k; simp only [List.length_cons]; omega
    · exact Nat.zero_le _
theorem pos_of : ∀ (l : List (κ × ν)) (k : κ) (p : Nat), p ≤ l.length → (∀ i a, i < p → l[i]? = some a → lt a.1 k = true) → (∀ i a, p ≤ i → l[i]? = some a → lt a.1 k = false) → pos lt l k = p
  | [], k, p, hp, _, _ => by simp at hp; subst hp; rfl
  | a :: l, k, 0, _, _, h => by rw [pos, if_neg (by rw [h 0 a (Nat.zero_le _) rfl]; simp)]
  | a :: l, k, p + 1, hp, h1, h2 => by
    rw [pos, if_pos (h1 0 a (Nat.succ_pos _) rfl), pos_of l k p (by simpa using hp) (fun i b hi hb => h1 (i + 1) b (by omega) (by simpa using hb)) (fun i b hi hb => h2 (i + 1) b (by omega) (by simpa using hb))]
theorem srt_get {l : List (κ × ν)} (h : Srt lt l) {i j : Nat} {a b : κ × ν} (hij : i < j) (ha : l[i]? = some a) (hb : l[j]? = some b) : lt a.1 b.1 = true := by
  obtain ⟨hi, rfl⟩ := List.getElem?_eq_some_iff.1 ha
  obtain ⟨hj, rfl⟩ := List.getElem?_eq_some_iff.1 hb
  exact List.pairwise_iff_getElem.1 h i j hi hj hij
variable (O : Ord lt)
include O
theorem srt_lo {l : List (κ × ν)} (h : Srt lt l) {k : κ} {i j : Nat} {a b : κ × ν} (hij : i ≤ j) (ha : l[i]? = some a) (hb : l[j]? = some b) (hk : lt b.1 k = true) : lt a.1 k = true := by
  rcases Nat.eq_or_lt_of_le hij with rfl | hlt
  · rw [ha] at hb
    cases hb
    exact hk
  · exact O.tr _ _ _ (srt_get h hlt ha hb) hk
theorem srt_hi {l : List (κ × ν)} (h : Srt lt l) {k : κ} {i j : Nat} {a b : κ × ν} (hij : i ≤ j) (ha : l[i]? = some a) (hb : l[j]? = some b) (hk : lt a.1 k = false) : lt b.1 k = false := by
  cases hc : lt b.1 k
  · rfl
  · rw [srt_lo O h hij ha hb hc] at hk
    cases hk
omit O in
theorem pos_lo : ∀ {l : List (κ × ν)} {k : κ} {i : Nat} {a : κ × ν}, i < pos lt l k → l[i]? = some a → lt a.1 k = true
  | [], k, i, a, h, _ => by simp [pos] at h
  | b :: l, k, i, a, h, ha => by
    rw [pos] at h
    split at h
    · rename_i hb
      cases i with
      | zero => simp at ha; subst ha; exact hb
      | succ i => exact pos_lo (l := l) (i := i) (by omega) (by simpa using ha)
    · omega
theorem pos_hi {l : List (κ × ν)} (hs : Srt lt l) {k : κ} {i : Nat} {a : κ × ν} (h : pos lt l k ≤ i) (ha : l[i]? = some a) : lt a.1 k = false := by
  have hlen := (List.getElem?_eq_some_iff.1 ha).1
  have h1 : ∀ (l : List (κ × ν)) (k : κ) (b : κ × ν), l[pos lt l k]? = some b → lt b.1 k = false := by
    intro l
    induction l with
    | nil => intro k b hb; simp at hb
    | cons c l ih =>
      intro k b hb
      rw [pos] at hb
      split at hb
      · exact ih k b (by simpa using hb)
      · rename_i hc
        simp at hb
        subst hb
        simpa using hc
  obtain ⟨b, hb⟩ : ∃ b, l[pos lt l k]? = some b := ⟨_, List.getElem?_eq_getElem (by omega)⟩
  exact srt_hi O hs h hb ha (h1 l k b hb)
omit O
variable [DecidableEq κ]
def look (l : List (κ × ν)) (k : κ) : Option ν := (l.find? fun p => decide (p.1 = k)).map (·.2)
/-- what stands where the key stands, if it is there -/
def hit (lt : κ → κ → Bool) (l : List (κ × ν)) (k : κ) : Option ν := match l[pos lt l k]? with
  | some a => if a.1 = k then some a.2 else none
  | none => none
def put (lt : κ → κ → Bool) (l : List (κ × ν)) (k : κ) (v : ν) : List (κ × ν) := match hit lt l k with
  | some _ => l.set (pos lt l k) (k, v)
  | none => l.take (pos lt l k) ++ (k, v) :: l.drop (pos lt l k)
include O
theorem mem_key {l : List (κ × ν)} (hs : Srt lt l) {k : κ} {v : ν} (h : (k, v) ∈ l) : hit lt l k = some v ∧ l[pos lt l k]? = some (k, v) := by
  obtain ⟨i, hi⟩ := List.mem_iff_getElem?.1 h
  have hp : pos lt l k = i := by
    rcases Nat.lt_trichotomy (pos lt l k) i with hlt | he | hgt
    · obtain ⟨b, hb⟩ : ∃ b, l[pos lt l k]? = some b := ⟨_, List.getElem?_eq_getElem (by have := (List.getElem?_eq_some_iff.1 hi).1; omega)⟩
      have h1 := srt_get hs hlt hb hi
      rw [pos_hi O hs (Nat.le_refl _) hb] at h1
      cases h1
    · exact he
    · have h1 := pos_lo hgt hi
      rw [O.irr] at h1
      cases h1
  rw [hp]
  refine ⟨?_, hi⟩
  unfold hit
  rw [hp, hi]
  simp
theorem look_mem {l : List (κ × ν)} (hs : Srt lt l) {k : κ} {v : ν} (h : (k, v) ∈ l) : look l k = some v := by
  unfold look
  cases hf : l.find? fun p => decide (p.1 = k) with
  | none => exact absurd (List.find?_eq_none.1 hf _ h) (by simp)
  | some a =>
    have h1 := List.mem_of_find?_eq_some hf
    have h2 := List.find?_some hf
    obtain ⟨k', v'⟩ := a
    simp only [decide_eq_true_eq] at h2
    subst h2
    have e1 := (mem_key O hs h1).1
    have e2 := (mem_key O hs h).1
    rw [e1] at e2
    exact e2
theorem look_hit {l : List (κ × ν)} (hs : Srt lt l) (k : κ) : look l k = hit lt l k := by
  cases hh : hit lt l k with
  | some v =>
    unfold hit at hh
    cases hg : l[pos lt l k]? with
    | none => rw [hg] at hh; cases hh
    | some a =>
      rw [hg] at hh
      dsimp only at hh
      split at hh
      · rename_i e
        obtain ⟨k', v'⟩ := a
        dsimp only at e hh
        subst e
        cases hh
        exact look_mem O hs (List.mem_of_getElem? hg)
      · cases hh
  | none =>
    unfold look
    cases hf : l.find? fun p => decide (p.1 = k) with
    | none => rfl
    | some a =>
      have h1 := List.mem_of_find?_eq_some hf
      have h2 := List.find?_some hf
      obtain ⟨k', v'⟩ := a
      simp only [decide_eq_true_eq] at h2
      subst h2
      rw [(mem_key O hs h1).1] at hh
      cases hh
omit O in
theorem hit_at {l : List (κ × ν)} {k : κ} {v : ν} (h : hit lt l k = some v) : l[pos lt l k]? = some (k, v) := by
  unfold hit at h
  cases hg : l[pos lt l k]? with
  | none => rw [hg] at h; cases h
  | some a =>
    rw [hg] at h
    dsimp only at h
    split at h
    · rename_i e
      obtain ⟨k', v'⟩ := a
      dsimp only at e h
      subst e
      cases h
      rfl
    · cases h
omit O in
theorem put_old {l : List (κ × ν)} {k : κ} {v w : ν} (h : hit lt l k = some w) : put lt l k v = l.set (pos lt l k) (k, v) := by unfold put; rw [h]
omit O in
theorem put_new {l : List (κ × ν)} {k : κ} {v : ν} (h : hit lt l k = none) : put lt l k v = l.take (pos lt l k) ++ (k, v) :: l.drop (pos lt l k) := by unfold put; rw [h]
omit O in
theorem put_len (l : List (κ × ν)) (k : κ) (v : ν) : (put lt l k v).length ≤ l.length + 1 := by
  unfold put
  split
  · rw [List.length_set]; omega
  · have := pos_le (lt := lt) l k
    simp only [List.length_append, List.length_take, List.length_cons, List.length_drop]
    omega
theorem put_srt {l : List (κ × ν)} (hs : Srt lt l) (k : κ) (v : ν) : Srt lt (put lt l k v) := by
  cases hh : hit lt l k with
  | some w =>
    rw [put_old hh]
    have hat := hit_at hh
    unfold Srt
    rw [List.pairwise_iff_getElem]
    intro i j hi hj hij
    rw [List.length_set] at hi hj
    have h1 := List.pairwise_iff_getElem.1 hs i j hi hj hij
    obtain ⟨hp, he⟩ := List.getElem?_eq_some_iff.1 hat
    rw [List.getElem_set, List.getElem_set]
    split
    · split
      · omega
      · rename_i e _
        subst e
        rw [he] at h1
        exact h1
    · split
      · rename_i e
        subst e
        rw [he] at h1
        exact h1
      · exact h1
  | none =>
    rw [put_new hh]
    unfold Srt
    rw [List.pairwise_append, List.pairwise_cons]
    have hd : ∀ a ∈ l.drop (pos lt l k), lt k a.1 = true := by
      intro a ha
      obtain ⟨i, hi⟩ := List.mem_iff_getElem?.1 ha
      rw [List.getElem?_drop] at hi
      have h1 := pos_hi O hs (Nat.le_add_right _ i) hi
      cases h2 : lt k a.1
      · have e := O.tri _ _ h1 h2
        obtain ⟨k', v'⟩ := a
        dsimp only at e
        subst e
        rw [(mem_key O hs (List.mem_of_getElem? hi)).1] at hh
        cases hh
      · rfl
    have ht : ∀ a ∈ l.take (pos lt l k), lt a.1 k = true := by
      intro a ha
      obtain ⟨i, hi⟩ := List.mem_iff_getElem?.1 ha
      rw [List.getElem?_take] at hi
      split at hi
      · exact pos_lo (by assumption) hi
      · cases hi
    refine ⟨hs.sublist (List.take_sublist _ _), ⟨hd, hs.sublist (List.drop_sublist _ _)⟩, ?_⟩
    intro a ha b hb
    rcases List.mem_cons.1 hb with rfl | hb
    · exact ht a ha
    · exact O.tr _ _ _ (ht a ha) (hd b hb)
theorem put_look {l : List (κ × ν)} (hs : Srt lt l) (k : κ) (v : ν) (k' : κ) : look (put lt l k v) k' = if k' = k then some v else look l k' := by
  have hs' := put_srt O hs k v
  have hmem : ∀ a : κ × ν, a ∈ put lt l k v ↔ a = (k, v) ∨ (a ∈ l ∧ a.1 ≠ k) := by
    intro a
    cases hh : hit lt l k with
    | some w =>
      have hat := hit_at hh
      obtain ⟨hp, he⟩ := List.getElem?_eq_some_iff.1 hat
      rw [put_old hh]
      constructor
      · intro h
        obtain ⟨i, hi⟩ := List.mem_iff_getElem?.1 h
        rw [List.getElem?_set] at hi
        split at hi
        · exact .inl (Option.some.inj hi).symm
        · rename_i hne
          refine .inr ⟨List.mem_of_getElem? hi, fun e => hne ?_⟩
          obtain ⟨k1, v1⟩ := a
          dsimp only at e
          subst e
          rcases Nat.lt_trichotomy (pos lt l k1) i with h1 | h1 | h1
          · have := srt_get hs h1 hat hi
            rw [O.irr] at this
            cases this
          · exact h1
          · have := srt_get hs h1 hi hat
            rw [O.irr] at this
            cases this
      · rintro (rfl | ⟨h, hne⟩)
        · exact List.mem_of_getElem? (i := pos lt l k) (by rw [List.getElem?_set, if_pos rfl, if_pos hp])
        · obtain ⟨i, hi⟩ := List.mem_iff_getElem?.1 h
          refine List.mem_of_getElem? (i := i) ?_
          rw [List.getElem?_set, if_neg]
          · exact hi
          · intro e
            subst e
            rw [hat] at hi
            cases hi
            exact hne rfl
    | none =>
      rw [put_new hh, List.mem_append, List.mem_cons]
      have hno : ∀ a ∈ l, a.1 ≠ k := fun a ha e => by
        obtain ⟨k1, v1⟩ := a
        dsimp only at e
        subst e
        rw [(mem_key O hs ha).1] at hh
        cases hh
      have hsp : a ∈ l ↔ a ∈ l.take (pos lt l k) ∨ a ∈ l.drop (pos lt l k) := by
        conv => lhs; rw [← List.take_append_drop (pos lt l k) l]
        exact List.mem_append
      constructor
      · rintro (h | h | h)
        · exact .inr ⟨hsp.2 (.inl h), hno a (hsp.2 (.inl h))⟩
        · exact .inl h
        · exact .inr ⟨hsp.2 (.inr h), hno a (hsp.2 (.inr h))⟩
      · rintro (h | ⟨h, _⟩)
        · exact .inr (.inl h)
        · rcases hsp.1 h with h | h
          · exact .inl h
          · exact .inr (.inr h)
  by_cases e : k' = k
  · subst e
    rw [if_pos rfl]
    exact look_mem O hs' ((hmem _).2 (.inl rfl))
  · rw [if_neg e]
    cases hl : look l k' with
    | some w =>
      have : (k', w) ∈ l := by
        rw [look_hit O hs] at hl
        exact List.mem_of_getElem? (hit_at hl)
      exact look_mem O hs' ((hmem _).2 (.inr ⟨this, e⟩))
    | none =>
      unfold look
      cases hf : (put lt l k v).find? fun p => decide (p.1 = k') with
      | none => rfl
      | some a =>
        have h1 := List.mem_of_find?_eq_some hf
        have h2 := List.find?_some hf
        obtain ⟨k1, v1⟩ := a
        simp only [decide_eq_true_eq] at h2
        subst h2
        rcases (hmem _).1 h1 with h3 | ⟨h3, _⟩
        · cases h3
          exact absurd rfl e
        · rw [look_mem O hs h3] at hl
          cases hl
end
theorem less_irr : ∀ a : List UInt8, Op.bytesLess a a = false
  | [] => rfl
  | a :: l => by
    have : ¬ a < a := UInt8.lt_irrefl a
    simp [Op.bytesLess, less_irr l]
theorem less_tri : ∀ a b : List UInt8, Op.bytesLess a b = false → Op.bytesLess b a = false → a = b
  | [], [], _, _ => rfl
  | [], b :: y, h, _ => by simp [Op.bytesLess] at h
  | a :: x, [], _, h => by simp [Op.bytesLess] at h
  | a :: x, b :: y, h1, h2 => by
    simp only [Op.bytesLess, Bool.or_eq_false_iff, decide_eq_false_iff_not, Bool.and_eq_false_iff] at h1 h2
    have e : a = b := UInt8.le_antisymm (UInt8.not_lt.1 h2.1) (UInt8.not_lt.1 h1.1)
    subst e
    have h3 := h1.2.resolve_left (by simp)
    have h4 := h2.2.resolve_left (by simp)
    rw [less_tri x y h3 h4]
theorem less_tr : ∀ a b c : List UInt8, Op.bytesLess a b = true → Op.bytesLess b c = true → Op.bytesLess a c = true
  | a, [], _, h, _ => by cases a <;> simp [Op.bytesLess] at h
  | a, b :: y, [], _, h => by simp [Op.bytesLess] at h
  | [], b :: y, c :: z, _, _ => rfl
  | a :: x, b :: y, c :: z, h1, h2 => by
    simp only [Op.bytesLess, Bool.or_eq_true, decide_eq_true_eq, Bool.and_eq_true, beq_iff_eq] at h1 h2 ⊢
    rcases h1 with h1 | ⟨rfl, h1⟩
    · rcases h2 with h2 | ⟨rfl, h2⟩
      · exact .inl (UInt8.lt_trans h1 h2)
      · exact .inl h1
    · rcases h2 with h2 | ⟨rfl, h2⟩
      · exact .inl h2
      · exact .inr ⟨rfl, less_tr x y z h1 h2⟩
theorem ordS : Ord Op.bytesLess := ⟨less_irr, less_tr, less_tri⟩
def ltI (a b : Int) : Bool := decide (a < b)
theorem ordI : Ord ltI := ⟨fun a => by simp [ltI], fun a b c => by simp only [ltI, decide_eq_true_eq]; omega, fun a b => by simp only [ltI, decide_eq_false_iff_not]; omega⟩
end Shf
end Go.Proofs.YtipcockcndnipaaDoor
