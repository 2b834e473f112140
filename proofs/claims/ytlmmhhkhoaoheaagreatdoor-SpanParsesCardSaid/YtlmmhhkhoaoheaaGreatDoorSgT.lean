/-
  Plain law of ranges' texts: the pieces of a text, what a comparison, a term and a text mean. No program in sight.
-/
import Derived.Test.YtlmmhhkhoaoheaaGreatDoorSgA
import Derived.Test.YtlmmhhkhoaoheaaGreatDoorVersionQ
import Derived.Lib.IndexMore
import Derived.Lib.IndexAny
namespace Go.Proofs.YtlmmhhkhoaoheaaGreatDoor
namespace Sg
open Go.Lib

/-- what stands between the places of sep, the first ones first -/
def cutsF (sep : List UInt8) : Nat → List UInt8 → List (List UInt8)
  | 0, l => [l]
  | n + 1, l => if index l sep = -1 then [l] else l.take (index l sep).toNat :: cutsF sep n (l.drop ((index l sep).toNat + sep.length))
def cuts (sep l : List UInt8) : List (List UInt8) := cutsF sep l.length l
theorem index_nil {sep : List UInt8} (h : sep ≠ []) : index [] sep = -1 := by
  cases sep with
  | nil => exact absurd rfl h
  | cons a t => rfl
theorem cutsF_same {sep : List UInt8} (h : sep ≠ []) : ∀ (n m : Nat) (l : List UInt8), l.length ≤ n → l.length ≤ m → cutsF sep n l = cutsF sep m l
  | 0, m, l, hn, _ => by
    have : l = [] := List.length_eq_zero_iff.1 (by omega)
    subst this
    cases m with
    | zero => rfl
    | succ m => rw [cutsF, cutsF, if_pos (index_nil h)]
  | n + 1, 0, l, _, hm => by
    have : l = [] := List.length_eq_zero_iff.1 (by omega)
    subst this
    rw [cutsF, cutsF, if_pos (index_nil h)]
  | n + 1, m + 1, l, hn, hm => by
    rw [cutsF, cutsF]
    by_cases hi : index l sep = -1
    · rw [if_pos hi, if_pos hi]
    · rw [if_neg hi, if_neg hi]
      have hp : 0 < sep.length := List.length_pos_iff.2 h
      have hlt : (l.drop ((index l sep).toNat + sep.length)).length ≤ l.length - 1 := by rw [List.length_drop]; omega
      rw [cutsF_same h n m _ (by omega) (by omega)]
theorem cuts_none {sep l : List UInt8} (h : index l sep = -1) : cuts sep l = [l] := by
  unfold cuts
  cases l with
  | nil => rfl
  | cons a t => rw [List.length_cons, cutsF, if_pos h]
theorem cuts_some {sep l : List UInt8} (hs : sep ≠ []) {o : Nat} (h : index l sep = o) : cuts sep l = l.take o :: cuts sep (l.drop (o + sep.length)) := by
  unfold cuts
  have hr := index_room l sep (by omega)
  have hp : 0 < sep.length := List.length_pos_iff.2 hs
  obtain ⟨n, hn⟩ : ∃ n, l.length = n + 1 := ⟨l.length - 1, by omega⟩
  rw [hn, cutsF, if_neg (by omega), h]
  have e : ((o : Nat) : Int).toNat = o := by omega
  rw [e, cutsF_same hs n (l.drop (o + sep.length)).length _ (by rw [List.length_drop]; omega) (Nat.le_refl _)]
theorem take_drop_at {l : List UInt8} {o : Nat} {c : UInt8} (h : l[o]? = some c) : l = l.take o ++ c :: l.drop (o + 1) := by
  obtain ⟨h1, h2⟩ := List.getElem?_eq_some_iff.1 h
  conv => lhs; rw [← List.take_append_drop o l]
  rw [List.drop_eq_getElem_cons h1, h2]
theorem occ_one {l : List UInt8} {c : UInt8} {j : Nat} : occAt l [c] j = true ↔ l[j]? = some c := by
  unfold occAt
  cases hd : l.drop j with
  | nil =>
    have : l.length ≤ j := by simpa using hd
    rw [List.getElem?_eq_none this]
    simp
  | cons a t =>
    have h1 : j < l.length := by
      have : (l.drop j).length = t.length + 1 := by rw [hd]; rfl
      rw [List.length_drop] at this
      omega
    have h2 : l[j]? = some a := by
      have : (l.drop j)[0]? = some a := by rw [hd]; rfl
      rw [List.getElem?_drop] at this
      simpa using this
    rw [h2]
    simp [List.isPrefixOf]
    exact eq_comm
theorem cuts_pieces (c : UInt8) : ∀ (n : Nat) (l : List UInt8), l.length ≤ n → cuts [c] l = Vs.pieces c l
  | n, l, hn => by
    rcases index_spec l [c] with ⟨h1, h2⟩ | ⟨o, h1, h2, h3, h4⟩
    · rw [cuts_none h1, Vs.pieces_no c l]
      intro hc
      obtain ⟨j, hj⟩ := List.mem_iff_getElem?.1 hc
      have := h2 j (by have := (List.getElem?_eq_some_iff.1 hj).1; omega)
      rw [occ_one.2 hj] at this
      cases this
    · have ho := occ_one.1 h3
      have hlt := (List.getElem?_eq_some_iff.1 ho).1
      rw [cuts_some (by simp) h1]
      have hno : c ∉ l.take o := fun hc => by
        obtain ⟨j, hj⟩ := List.mem_iff_getElem?.1 hc
        rw [List.getElem?_take] at hj
        split at hj
        · have := h4 j (by assumption)
          rw [occ_one.2 hj] at this
          cases this
        · cases hj
      conv => rhs; rw [take_drop_at ho]
      rw [Vs.pieces_app c _ _ hno]
      cases n with
      | zero => omega
      | succ n =>
        rw [show ([c] : List UInt8).length = 1 from rfl, cuts_pieces c n _ (by rw [List.length_drop]; omega)]
/-- a sign and a version -/
def signL (p : List UInt8) (a b c : Int) : Option G :=
  if p = [61] then some (Vs.num a b c, Vs.num a b c + 1)
  else if p = [62, 61] then some (Vs.num a b c, 1000000000)
  else if p = [62] then some (Vs.num a b c + 1, 1000000000)
  else if p = [60] then some (0, Vs.num a b c)
  else if p = [60, 61] then some (0, Vs.num a b c + 1)
  else if p = [94] then some (Vs.num a b c, (a + 1) * 1000000)
  else if p = [126] then some (Vs.num a b c, (a * 1000 + b + 1) * 1000)
  else none
abbrev digs : List UInt8 := [48, 49, 50, 51, 52, 53, 54, 55, 56, 57]
/-- a comparison -/
def boundL (w : List UInt8) : Option G :=
  if indexAny w digs = -1 then (if w = [42] then some (0, 1000000000) else none)
  else (Vs.parseL (w.drop (indexAny w digs).toNat)).bind fun v => signL (w.take (indexAny w digs).toNat) v.1 v.2.1 v.2.2
def meet (g h : G) : G := (max g.1 h.1, min g.2 h.2)
def top : G := (0, 1000000000)
def wordsF : List (List UInt8) → G → Option G
  | [], g => some g
  | w :: ws, g => (boundL w).bind fun h => wordsF ws (meet g h)
theorem words_app : ∀ (a b : List (List UInt8)) (g : G), wordsF (a ++ b) g = (wordsF a g).bind (wordsF b)
  | [], _, _ => rfl
  | w :: a, b, g => by
    rw [List.cons_append, wordsF, wordsF]
    cases boundL w with
    | none => rfl
    | some h => exact words_app a b (meet g h)
def termF (t : List UInt8) : Option G := wordsF (cuts [32] t) top
def termsF : List (List UInt8) → List G → Option (List G)
  | [], out => some out
  | t :: ts, out => (termF t).bind fun g => termsF ts (out ++ [g])
theorem terms_app : ∀ (a b : List (List UInt8)) (out : List G), termsF (a ++ b) out = (termsF a out).bind (termsF b)
  | [], _, _ => rfl
  | t :: a, b, out => by
    rw [List.cons_append, termsF, termsF]
    cases termF t with
    | none => rfl
    | some h => exact terms_app a b (out ++ [h])
abbrev bar : List UInt8 := [32, 124, 32]
def allF (s : List UInt8) : Option (List G) := termsF (cuts bar s) []
abbrev noneL : List UInt8 := [110, 111, 110, 101]

/-- a gap among the versions -/
def In9 (g : G) : Prop := 0 ≤ g.1 ∧ g.1 ≤ 1000000000 ∧ 0 ≤ g.2 ∧ g.2 ≤ 1000000000
theorem num_bd {a b c : Int} (h : Vs.goodB a b c = true) : Vs.num a b c = (a * 1000 + b) * 1000 + c ∧ 0 ≤ Vs.num a b c ∧ Vs.num a b c < 1000000000 := by
  have hg := Vs.of_good h
  unfold Vs.num
  rw [if_pos h]
  omega
theorem sign_in {p : List UInt8} {a b c : Int} (h : Vs.goodB a b c = true) {g : G} (hg : signL p a b c = some g) : In9 g := by
  have hn := num_bd h
  have hh := Vs.of_good h
  unfold signL at hg
  generalize Vs.num a b c = n at *
  repeat' split at hg
  all_goals first
    | (cases hg; done)
    | (have := Option.some.inj hg; subst this; unfold In9; dsimp only; omega)
theorem bound_in {w : List UInt8} {g : G} (h : boundL w = some g) : In9 g := by
  unfold boundL at h
  split at h
  · split at h
    · have := Option.some.inj h
      subst this
      unfold In9; dsimp only; omega
    · cases h
  · cases hp : Vs.parseL (w.drop (indexAny w digs).toNat) with
    | none => rw [hp] at h; cases h
    | some v =>
      rw [hp] at h
      obtain ⟨a, b, c⟩ := v
      exact sign_in (Vs.text_parse hp).2 h
theorem meet_in {g h : G} (hg : In9 g) (hh : In9 h) : In9 (meet g h) := by
  unfold In9 meet at *
  dsimp only
  omega
theorem top_in : In9 top := by unfold In9 top; dsimp only; omega
theorem words_in : ∀ (ws : List (List UInt8)) (g : G), In9 g → ∀ h, wordsF ws g = some h → In9 h
  | [], g, hg, h, hh => by cases hh; exact hg
  | w :: ws, g, hg, h, hh => by
    rw [wordsF] at hh
    cases hb : boundL w with
    | none => rw [hb] at hh; cases hh
    | some k => rw [hb] at hh; exact words_in ws _ (meet_in hg (bound_in hb)) h hh
theorem terms_in : ∀ (ts : List (List UInt8)) (out : List G), (∀ g ∈ out, In9 g) → ∀ r, termsF ts out = some r → (∀ g ∈ r, In9 g) ∧ r.length = out.length + ts.length
  | [], out, ho, r, hr => by cases hr; exact ⟨ho, by simp⟩
  | t :: ts, out, ho, r, hr => by
    rw [termsF] at hr
    cases ht : termF t with
    | none => rw [ht] at hr; cases hr
    | some g =>
      rw [ht] at hr
      have h1 := terms_in ts (out ++ [g]) (fun x hx => by
        rcases List.mem_append.1 hx with hx | hx
        · exact ho x hx
        · rw [List.mem_singleton.1 hx]; exact words_in _ _ top_in _ ht) r hr
      refine ⟨h1.1, ?_⟩
      have := h1.2
      simp at this ⊢
      omega
theorem cutsF_len (sep : List UInt8) : ∀ (n : Nat) (l : List UInt8), (cutsF sep n l).length ≤ n + 1
  | 0, _ => by simp [cutsF]
  | n + 1, l => by
    rw [cutsF]
    split
    · simp
    · have := cutsF_len sep n (l.drop ((index l sep).toNat + sep.length))
      rw [List.length_cons]
      omega
theorem cuts_len (sep l : List UInt8) : (cuts sep l).length ≤ l.length + 1 := cutsF_len sep _ _
theorem meet_top {g : G} (h : In9 g) : meet top g = g := by
  obtain ⟨a, b⟩ := g
  unfold In9 at h
  unfold meet top
  dsimp only at h ⊢
  rw [Int.max_eq_right h.1, Int.min_eq_right h.2.2.2]
theorem top_meet {g : G} (h : In9 g) : meet g top = g := by
  obtain ⟨a, b⟩ := g
  unfold In9 at h
  unfold meet top
  dsimp only at h ⊢
  rw [Int.max_eq_left h.1, Int.min_eq_left h.2.2.2]
theorem meet_assoc (a b c : G) : meet (meet a b) c = meet a (meet b c) := by
  unfold meet
  dsimp only
  rw [Int.max_assoc, Int.min_assoc]
theorem words_meet : ∀ (ws : List (List UInt8)) (g h : G), wordsF ws (meet g h) = (wordsF ws h).map (meet g)
  | [], _, _ => rfl
  | w :: ws, g, h => by
    rw [wordsF, wordsF]
    cases boundL w with
    | none => rfl
    | some k =>
      show wordsF ws (meet (meet g h) k) = (wordsF ws (meet h k)).map (meet g)
      rw [meet_assoc, words_meet ws g (meet h k)]
/-- what a word that is a comparison has not -/
def okW (w : List UInt8) : Prop := w ≠ [] ∧ ∀ c ∈ w, c ≠ 32 ∧ c ≠ 124
theorem itoa_no : ∀ n : Fin 1000, ∀ c ∈ itoa ((n.val : Nat) : Int), c ≠ 32 ∧ c ≠ 124 := by decide +kernel
theorem itoa_no' {n : Int} (h0 : 0 ≤ n) (h1 : n ≤ 999) : ∀ c ∈ itoa n, c ≠ 32 ∧ c ≠ 124 := by
  have := itoa_no ⟨n.toNat, by omega⟩
  rw [show ((n.toNat : Nat) : Int) = n by omega] at this
  exact this
theorem text_no {a b c : Int} (h : Vs.goodB a b c = true) : ∀ x ∈ Vs.textL a b c, x ≠ 32 ∧ x ≠ 124 := by
  obtain ⟨a0, a1, b0, b1, c0, c1⟩ := Vs.of_good h
  unfold Vs.textL
  rw [if_pos h]
  intro x hx
  simp only [List.mem_append, List.mem_cons, List.not_mem_nil, or_false] at hx
  rcases hx with hx | rfl | hx | rfl | hx
  · exact itoa_no' a0 a1 x hx
  · decide
  · exact itoa_no' b0 b1 x hx
  · decide
  · exact itoa_no' c0 c1 x hx
theorem sign_some {p : List UInt8} {a b c : Int} {g : G} (h : signL p a b c = some g) : p ∈ ([[61], [62, 61], [62], [60], [60, 61], [94], [126]] : List (List UInt8)) := by
  unfold signL at h
  repeat' split at h
  all_goals first
    | (cases h; done)
    | simp_all
theorem bound_ok {w : List UInt8} {g : G} (h : boundL w = some g) : okW w := by
  unfold boundL at h
  split at h
  · split at h
    · rename_i _ e
      subst e
      exact ⟨by simp, by decide⟩
    · cases h
  · cases hp : Vs.parseL (w.drop (indexAny w digs).toNat) with
    | none => rw [hp] at h; cases h
    | some v =>
      rw [hp] at h
      obtain ⟨a, b, c⟩ := v
      obtain ⟨ht, hgd⟩ := Vs.text_parse hp
      have hs := sign_some h
      have key : ∀ p ∈ ([[61], [62, 61], [62], [60], [60, 61], [94], [126]] : List (List UInt8)), p ≠ [] ∧ ∀ c ∈ p, c ≠ 32 ∧ c ≠ 124 := by decide
      obtain ⟨k1, k2⟩ := key _ hs
      have e := (List.take_append_drop (indexAny w digs).toNat w).symm
      constructor
      · intro e0
        rw [e0] at k1
        simp at k1
      · intro x hx
        rw [e] at hx
        rcases List.mem_append.1 hx with hx | hx
        · exact k2 x hx
        · rw [← ht] at hx
          exact text_no hgd x hx
theorem words_ok : ∀ (ws : List (List UInt8)) (g h : G), wordsF ws g = some h → ∀ w ∈ ws, okW w
  | [], _, _, _, w, hw => by cases hw
  | x :: ws, g, h, hh, w, hw => by
    rw [wordsF] at hh
    cases hb : boundL x with
    | none => rw [hb] at hh; cases hh
    | some k =>
      rw [hb] at hh
      rcases List.mem_cons.1 hw with rfl | hw
      · exact bound_ok hb
      · exact words_ok ws _ h hh w hw
/-- a term has no stroke -/
theorem term_bar {t : List UInt8} {g : G} (h : termF t = some g) : (124 : UInt8) ∉ t := by
  unfold termF at h
  have hw := words_ok _ _ _ h
  rw [cuts_pieces 32 _ t (Nat.le_refl _)] at hw
  rw [← Vs.join_pieces 32 t]
  generalize Vs.pieces 32 t = ps at hw
  have key : ∀ ps : List (List UInt8), (∀ w ∈ ps, okW w) → (124 : UInt8) ∉ ([32] : List UInt8).intercalate ps := by
    intro ps
    induction ps with
    | nil => intro _; simp [List.intercalate]
    | cons p ps ih =>
      intro hp hc
      cases ps with
      | nil =>
        simp [List.intercalate] at hc
        exact ((hp p (.head _)).2 _ hc).2 rfl
      | cons q ps =>
        have e : ([32] : List UInt8).intercalate (p :: q :: ps) = p ++ ([32] ++ ([32] : List UInt8).intercalate (q :: ps)) := by simp [List.intercalate, List.intersperse]
        rw [e] at hc
        rcases List.mem_append.1 hc with hc | hc
        · exact ((hp p (.head _)).2 _ hc).2 rfl
        · rcases List.mem_append.1 hc with hc | hc
          · simp at hc
          · exact ih (fun w hw => hp w (.tail _ hw)) hc
  exact key ps hw
theorem terms_bar : ∀ (ts : List (List UInt8)) (out r : List G), termsF ts out = some r → ∀ t ∈ ts, (124 : UInt8) ∉ t
  | [], _, _, _, t, ht => by cases ht
  | x :: ts, out, r, hr, t, ht => by
    rw [termsF] at hr
    cases hx : termF x with
    | none => rw [hx] at hr; cases hr
    | some g =>
      rw [hx] at hr
      rcases List.mem_cons.1 ht with rfl | ht
      · exact term_bar hx
      · exact terms_bar ts _ r hr t ht
theorem occ_bar {l : List UInt8} {j : Nat} (h : occAt l bar j = true) : l[j]? = some 32 ∧ l[j + 1]? = some 124 ∧ l[j + 2]? = some 32 := by
  unfold occAt at h
  obtain ⟨t, ht⟩ := List.isPrefixOf_iff_prefix.1 h
  have e : ∀ k, (l.drop j)[k]? = l[j + k]? := fun k => by rw [List.getElem?_drop]
  have e0 := e 0
  rw [Nat.add_zero] at e0
  rw [← e0, ← e 1, ← e 2, ← ht]
  simp
/-- two texts with a stroke between, the first of which has a stroke nowhere but where it is cut -/
theorem cuts_bar : ∀ (n : Nat) (a b : List UInt8), a.length ≤ n → (∀ t ∈ cuts bar a, (124 : UInt8) ∉ t) → cuts bar (a ++ (bar ++ b)) = cuts bar a ++ cuts bar b
  | n, a, b, hn, h => by
    rcases index_spec a bar with ⟨h1, h2⟩ | ⟨o, h1, h2, h3, h4⟩
    · rw [cuts_none h1] at h ⊢
      have hb := h a (.head _)
      have hix : index (a ++ (bar ++ b)) bar = (a.length : Nat) := by
        refine index_first (by simp) ?_ fun j hj => ?_
        · unfold occAt
          rw [List.drop_left]
          exact List.isPrefixOf_iff_prefix.2 ⟨b, rfl⟩
        · cases ho : occAt (a ++ (bar ++ b)) bar j with
          | false => rfl
          | true =>
            have h5 := (occ_bar ho).2.1
            by_cases hj1 : j + 1 < a.length
            · rw [List.getElem?_append_left hj1] at h5
              exact absurd (List.mem_of_getElem? h5) hb
            · rw [show j + 1 = a.length by omega, List.getElem?_append_right (Nat.le_refl _), Nat.sub_self] at h5
              cases h5
      rw [cuts_some (by simp) hix]
      rw [List.take_left]
      rw [show (a ++ (bar ++ b)).drop (a.length + bar.length) = b by rw [← List.append_assoc]; rw [show a.length + bar.length = (a ++ bar).length by simp]; exact List.drop_left]
      rfl
    · have hr : o + 3 ≤ a.length := by have := index_room a bar (by omega); rw [h1] at this; simp only [List.length_cons, List.length_nil] at this; omega
      rw [cuts_some (by simp) h1] at h ⊢
      have hix : index (a ++ (bar ++ b)) bar = (o : Nat) := by
        refine index_first (by rw [List.length_append]; omega) ?_ fun j hj => ?_
        · rw [occAt_iff_take _ _ _ (by simp; omega)]
          rw [occAt_iff_take _ _ _ (by simpa using hr)] at h3
          rw [List.drop_append_of_le_length (by omega), List.take_append_of_le_length (by rw [List.length_drop]; simp; omega)]
          exact h3
        · cases ho : occAt (a ++ (bar ++ b)) bar j with
          | false => rfl
          | true =>
            have h6 := h4 j hj
            rw [occAt_iff_take _ _ _ (by simp; omega)] at ho
            rw [occAt_iff_take _ _ _ (by simp; omega)] at h6
            rw [List.drop_append_of_le_length (by omega), List.take_append_of_le_length (by rw [List.length_drop]; simp; omega)] at ho
            rw [ho] at h6
            cases h6
      rw [cuts_some (by simp) hix, List.take_append_of_le_length (by omega), List.drop_append_of_le_length (by simp; omega)]
      cases n with
      | zero => omega
      | succ n =>
        rw [cuts_bar n _ b (by rw [List.length_drop]; simp; omega) (fun t ht => h t (.tail _ ht))]
        rfl
theorem terms_acc : ∀ (ts : List (List UInt8)) (out : List G), termsF ts out = (termsF ts []).map (out ++ ·)
  | [], out => by simp [termsF]
  | t :: ts, out => by
    rw [termsF, termsF]
    cases termF t with
    | none => rfl
    | some g =>
      show termsF ts (out ++ [g]) = (termsF ts ([] ++ [g])).map (out ++ ·)
      rw [terms_acc ts (out ++ [g]), terms_acc ts ([] ++ [g])]
      cases termsF ts [] <;> simp
/-- a stroke between -/
theorem all_bar {a b : List UInt8} {x y : List G} (ha : allF a = some x) (hb : allF b = some y) : allF (a ++ (bar ++ b)) = some (x ++ y) := by
  unfold allF at *
  rw [cuts_bar _ a b (Nat.le_refl _) (terms_bar _ _ _ ha), terms_app, ha]
  show termsF (cuts bar b) x = _
  rw [terms_acc, hb]
  rfl
theorem cuts_no {l : List UInt8} (h : (124 : UInt8) ∉ l) : cuts bar l = [l] := by
  refine cuts_none (index_none fun j _ => ?_)
  cases ho : occAt l bar j with
  | false => rfl
  | true => exact absurd (List.mem_of_getElem? (occ_bar ho).2.1) h
/-- a blank between -/
theorem all_blank {a b : List UInt8} {x y : List G} (ha : allF a = some x) (hb : allF b = some y) (na : (124 : UInt8) ∉ a) (nb : (124 : UInt8) ∉ b) : ∃ g h, x = [g] ∧ y = [h] ∧ In9 g ∧ In9 h ∧ allF (a ++ ([32] ++ b)) = some [meet g h] := by
  unfold allF at *
  rw [cuts_no na] at ha
  rw [cuts_no nb] at hb
  rw [cuts_no (by simp [na, nb])]
  rw [termsF] at ha hb ⊢
  cases hta : termF a with
  | none => rw [hta] at ha; cases ha
  | some g =>
    cases htb : termF b with
    | none => rw [htb] at hb; cases hb
    | some h =>
      rw [hta] at ha
      rw [htb] at hb
      have e1 : [] ++ [g] = x := Option.some.inj ha
      have e2 : [] ++ [h] = y := Option.some.inj hb
      have hg := words_in _ _ top_in _ hta
      have hh := words_in _ _ top_in _ htb
      refine ⟨g, h, by rw [← e1]; rfl, by rw [← e2]; rfl, hg, hh, ?_⟩
      have hp : cuts [32] (a ++ ([32] ++ b)) = cuts [32] a ++ cuts [32] b := by
        have key : ∀ l m : List UInt8, Vs.pieces 32 (l ++ 32 :: m) = Vs.pieces 32 l ++ Vs.pieces 32 m := by
          intro l m
          induction l with
          | nil => simp [Vs.pieces]
          | cons c l ih =>
            rw [List.cons_append, Vs.pieces, Vs.pieces, ih]
            split
            · rfl
            · obtain ⟨p, ps, hp⟩ := Vs.pieces_ne 32 l
              rw [hp]
              rfl
        rw [cuts_pieces 32 _ _ (Nat.le_refl _), cuts_pieces 32 _ _ (Nat.le_refl _), cuts_pieces 32 _ _ (Nat.le_refl _)]
        exact key a b
      have : termF (a ++ ([32] ++ b)) = some (meet g h) := by
        unfold termF at hta htb ⊢
        rw [hp, words_app, hta]
        show wordsF (cuts [32] b) g = _
        rw [← top_meet hg, words_meet, htb]
        rw [top_meet hg]
        rfl
      rw [this]
      rfl
theorem in_meet (g h : G) (n : Int) : ((meet g h).1 ≤ n ∧ n < (meet g h).2) ↔ (g.1 ≤ n ∧ n < g.2) ∧ (h.1 ≤ n ∧ n < h.2) := by
  unfold meet
  dsimp only
  omega
end Sg
end Go.Proofs.YtlmmhhkhoaoheaaGreatDoor
