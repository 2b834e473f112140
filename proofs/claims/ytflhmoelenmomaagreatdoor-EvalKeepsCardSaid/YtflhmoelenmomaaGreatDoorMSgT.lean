/-
  Plain law of ranges' texts: the pieces of a text, what a comparison, a term and a text mean. No program in sight.
-/
import Derived.Test.YtflhmoelenmomaaGreatDoorMSgP
import Derived.Test.YtflhmoelenmomaaGreatDoorMVersionC
import Derived.Lib.IndexMore
import Derived.Lib.IndexAny
import Derived.Test.YtflhmoelenmomaaGreatDoorShelf
import Derived.Test.YtflhmoelenmomaaGreatDoorMRcP
import Derived.Laws.RangeAny
import Derived.Lib.DecodeN
import Derived.Lib.OthersKept
import Derived.WalkKit
import Derived.WalkLawsBesides
import Derived.WalkSpells
import Derived.WalkSmall
import Derived.Lib.Hide
import Derived.Deep.LoopGhost
import Derived.Test.YtflhmoelenmomaaGreatDoorMVersionA
namespace Go.Proofs.YtflhmoelenmomaaGreatDoor
namespace Sg
open Go.Lib

/-- what stands between the places of sep, the first ones first -/
def cutsF (sep : List UInt8) : Nat → List UInt8 → List (List UInt8)
  | 0, l => [l]
  | n + 1, l => if index l sep = -1 then [l] else l.take (index l sep).toNat :: cutsF sep n (l.drop ((index l sep).toNat + sep.length))
def cuts (sep l : List UInt8) : List (List UInt8) := cutsF sep l.length l
theorem index_nil {sep : List UInt8} (h : sep ≠ []) : index [] sep = -1 := by
  cases sep with
  | nil => exact absurd rfl h
  | cons a t => rfl
theorem cutsF_same {sep : List UInt8} (h : sep ≠ []) : ∀ (n m : Nat) (l : List UInt8), l.length ≤ n → l.length ≤ m → cutsF sep n l = cutsF sep m l
  | 0, m, l, hn, _ => by
    have : l = [] := List.length_eq_zero_iff.1 (by omega)
    subst this
    cases m with
    | zero => rfl
    | succ m => rw [cutsF, cutsF, if_pos (index_nil h)]
  | n + 1, 0, l, _, hm => by
    have : l = [] := List.length_eq_zero_iff.1 (by omega)
    subst this
    rw [cutsF, cutsF, if_pos (index_nil h)]
  | n + 1, m + 1, l, hn, hm => by
    rw [cutsF, cutsF]
    by_cases hi : index l sep = -1
    · rw [if_pos hi, if_pos hi]
    · rw [if_neg hi, if_neg hi]
      have hp : 0 < sep.length := List.length_pos_iff.2 h
      have hlt : (l.drop ((index l sep).toNat + sep.length)).length ≤ l.length - 1 := by rw [List.length_drop]; omega
      rw [cutsF_same h n m _ (by omega) (by omega)]
theorem cuts_none {sep l : List UInt8} (h : index l sep = -1) : cuts sep l = [l] := by
  unfold cuts
  cases l with
  | nil => rfl
  | cons a t => rw [List.length_cons, cutsF, if_pos h]
theorem cuts_some {sep l : List UInt8} (hs : sep ≠ []) {o : Nat} (h : index l sep = o) : cuts sep l = l.take o :: cuts sep (l.drop (o + sep.length)) := by
  unfold cuts
  have hr := index_room l sep (by omega)
  have hp : 0 < sep.length := List.length_pos_iff.2 hs
  obtain ⟨n, hn⟩ : ∃ n, l.length = n + 1 := ⟨l.length - 1, by omega⟩
  rw [hn, cutsF, if_neg (by omega), h]
  have e : ((o : Nat) : Int).toNat = o := by omega
  rw [e, cutsF_same hs n (l.drop (o + sep.length)).length _ (by rw [List.length_drop]; omega) (Nat.le_refl _)]
theorem take_drop_at {l : List UInt8} {o : Nat} {c : UInt8} (h : l[o]? = some c) : l = l.take o ++ c :: l.drop (o + 1) := by
  obtain ⟨h1, h2⟩ := List.getElem?_eq_some_iff.1 h
  conv => lhs; rw [← List.take_append_drop o l]
  rw [List.drop_eq_getElem_cons h1, h2]
theorem occ_one {l : List UInt8} {c : UInt8} {j : Nat} : occAt l [c] j = true ↔ l[j]? = some c := by
  unfold occAt
  cases hd : l.drop j with
  | nil =>
    have : l.length ≤ j := by simpa using hd
    rw [List.getElem?_eq_none this]
    simp
  | cons a t =>
    have h1 : j < l.length := by
      have : (l.drop j).length = t.length + 1 := by rw [hd]; rfl
      rw [List.length_drop] at this
      omega
    have h2 : l[j]? = some a := by
      have : (l.drop j)[0]? = some a := by rw [hd]; rfl
      rw [List.getElem?_drop] at this
      simpa using this
    rw [h2]
    simp [List.isPrefixOf]
    exact eq_comm
theorem cuts_pieces (c : UInt8) : ∀ (n : Nat) (l : List UInt8), l.length ≤ n → cuts [c] l = Vs.pieces c l
  | n, l, hn => by
    rcases index_spec l [c] with ⟨h1, h2⟩ | ⟨o, h1, h2, h3, h4⟩
    · rw [cuts_none h1, Vs.pieces_no c l]
      intro hc
      obtain ⟨j, hj⟩ := List.mem_iff_getElem?.1 hc
      have := h2 j (by have := (List.getElem?_eq_some_iff.1 hj).1; omega)
      rw [occ_one.2 hj] at this
      cases this
    · have ho := occ_one.1 h3
      have hlt := (List.getElem?_eq_some_iff.1 ho).1
      rw [cuts_some (by simp) h1]
      have hno : c ∉ l.take o := fun hc => by
        obtain ⟨j, hj⟩ := List.mem_iff_getElem?.1 hc
        rw [List.getElem?_take] at hj
        split at hj
        · have := h4 j (by assumption)
          rw [occ_one.2 hj] at this
          cases this
        · cases hj
      conv => rhs; rw [take_drop_at ho]
      rw [Vs.pieces_app c _ _ hno]
      cases n with
      | zero => omega
      | succ n =>
        rw [show ([c] : List UInt8).length = 1 from rfl, cuts_pieces c n _ (by rw [List.length_drop]; omega)]
/-- a sign and a version -/
def signL (p : List UInt8) (a b c : Int) : Option G :=
  if p = [61] then some (Vs.num a b c, Vs.num a b c + 1)
  else if p = [62, 61] then some (Vs.num a b c, 1000000000)
  else if p = [62] then some (Vs.num a b c + 1, 1000000000)
  else if p = [60] then some (0, Vs.num a b c)
  else if p = [60, 61] then some (0, Vs.num a b c + 1)
  else if p = [94] then some (Vs.num a b c, (a + 1) * 1000000)
  else if p = [126] then some (Vs.num a b c, (a * 1000 + b + 1) * 1000)
  else none
abbrev digs : List UInt8 := [48, 49, 50, 51, 52, 53, 54, 55, 56, 57]
/-- a comparison -/
def boundL (w : List UInt8) : Option G :=
  if indexAny w digs = -1 then (if w = [42] then some (0, 1000000000) else none)
  else (Vs.parseL (w.drop (indexAny w digs).toNat)).bind fun v => signL (w.take (indexAny w digs).toNat) v.1 v.2.1 v.2.2
def meet (g h : G) : G := (max g.1 h.1, min g.2 h.2)
def top : G := (0, 1000000000)
def wordsF : List (List UInt8) → G → Option G
  | [], g => some g
  | w :: ws, g => (boundL w).bind fun h => wordsF ws (meet g h)
theorem words_app : ∀ (a b : List (List UInt8)) (g : G), wordsF (a ++ b) g = (wordsF a g).bind (wordsF b)
  | [], _, _ => rfl
  | w :: a, b, g => by
    rw [List.cons_append, wordsF, wordsF]
    cases boundL w with
    | none => rfl
    | some h => exact words_app a b (meet g h)
def termF (t : List UInt8) : Option G := wordsF (cuts [32] t) top
def termsF : List (List UInt8) → List G → Option (List G)
  | [], out => some out
  | t :: ts, out => (termF t).bind fun g => termsF ts (out ++ [g])
theorem terms_app : ∀ (a b : List (List UInt8)) (out : List G), termsF (a ++ b) out = (termsF a out).bind (termsF b)
  | [], _, _ => rfl
  | t :: a, b, out => by
    rw [List.cons_append, termsF, termsF]
    cases termF t with
    | none => rfl
    | some h => exact terms_app a b (out ++ [h])
abbrev bar : List UInt8 := [32, 124, 32]
def allF (s : List UInt8) : Option (List G) := termsF (cuts bar s) []
abbrev noneL : List UInt8 := [110, 111, 110, 101]

/-- a gap among the versions -/
def In9 (g : G) : Prop := 0 ≤ g.1 ∧ g.1 ≤ 1000000000 ∧ 0 ≤ g.2 ∧ g.2 ≤ 1000000000
theorem num_bd {a b c : Int} (h : Vs.goodB a b c = true) : Vs.num a b c = (a * 1000 + b) * 1000 + c ∧ 0 ≤ Vs.num a b c ∧ Vs.num a b c < 1000000000 := by
  have hg := Vs.of_good h
  unfold Vs.num
  rw [if_pos h]
  omega
theorem sign_in {p : List UInt8} {a b c : Int} (h : Vs.goodB a b c = true) {g : G} (hg : signL p a b c = some g) : In9 g := by
  have hn := num_bd h
  have hh := Vs.of_good h
  unfold signL at hg
  generalize Vs.num a b c = n at *
  repeat' split at hg
  all_goals first
    | (cases hg; done)
    | (have := Option.some.inj hg; subst this; unfold In9; dsimp only; omega)
theorem bound_in {w : List UInt8} {g : G} (h : boundL w = some g) : In9 g := by
  unfold boundL at h
  split at h
  · split at h
    · have := Option.some.inj h
      subst this
      unfold In9; dsimp only; omega
    · cases h
  · cases hp : Vs.parseL (w.drop (indexAny w digs).toNat) with
    | none => rw [hp] at h; cases h
    | some v =>
      rw [hp] at h
      obtain ⟨a, b, c⟩ := v
      exact sign_in (Vs.text_parse hp).2 h
theorem meet_in {g h : G} (hg : In9 g) (hh : In9 h) : In9 (meet g h) := by
  unfold In9 meet at *
  dsimp only
  omega
theorem top_in : In9 top := by unfold In9 top; dsimp only; omega
theorem words_in : ∀ (ws : List (List UInt8)) (g : G), In9 g → ∀ h, wordsF ws g = some h → In9 h
  | [], g, hg, h, hh => by cases hh; exact hg
  | w :: ws, g, hg, h, hh => by
    rw [wordsF] at hh
    cases hb : boundL w with
    | none => rw [hb] at hh; cases hh
    | some k => rw [hb] at hh; exact words_in ws _ (meet_in hg (bound_in hb)) h hh
theorem terms_in : ∀ (ts : List (List UInt8)) (out : List G), (∀ g ∈ out, In9 g) → ∀ r, termsF ts out = some r → (∀ g ∈ r, In9 g) ∧ r.length = out.length + ts.length
  | [], out, ho, r, hr => by cases hr; exact ⟨ho, by simp⟩
  | t :: ts, out, ho, r, hr => by
    rw [termsF] at hr
    cases ht : termF t with
    | none => rw [ht] at hr; cases hr
    | some g =>
      rw [ht] at hr
      have h1 := terms_in ts (out ++ [g]) (fun x hx => by
        rcases List.mem_append.1 hx with hx | hx
        · exact ho x hx
        · rw [List.mem_singleton.1 hx]; exact words_in _ _ top_in _ ht) r hr
      refine ⟨h1.1, ?_⟩
      have := h1.2
      simp at this ⊢
      omega
theorem cutsF_len (sep : List UInt8) : ∀ (n : Nat) (l : List UInt8), (cutsF sep n l).length ≤ n + 1
  | 0, _ => by simp [cutsF]
  | n + 1, l => by
    rw [cutsF]
    split
    · simp
    · have := cutsF_len sep n (l.drop ((index l sep).toNat + sep.length))
      rw [List.length_cons]
      omega
theorem cuts_len (sep l : List UInt8) : (cuts sep l).length ≤ l.length + 1 := cutsF_len sep _ _
theorem meet_top {g : G} (h : In9 g) : meet top g = g := by
  obtain ⟨a, b⟩ := g
  unfold In9 at h
  unfold meet top
  dsimp only at h ⊢
  rw [Int.max_eq_right h.1, Int.min_eq_right h.2.2.2]
theorem top_meet {g : G} (h : In9 g) : meet g top = g := by
  obtain ⟨a, b⟩ := g
  unfold In9 at h
  unfold meet top
  dsimp only at h ⊢
  rw [Int.max_eq_left h.1, Int.min_eq_left h.2.2.2]
theorem meet_assoc (a b c : G) : meet (meet a b) c = meet a (meet b c) := by
  unfold meet
  dsimp only
  rw [Int.max_assoc, Int.min_assoc]
theorem words_meet : ∀ (ws : List (List UInt8)) (g h : G), wordsF ws (meet g h) = (wordsF ws h).map (meet g)
  | [], _, _ => rfl
  | w :: ws, g, h => by
    rw [wordsF, wordsF]
    cases boundL w with
    | none => rfl
    | some k =>
      show wordsF ws (meet (meet g h) k) = (wordsF ws (meet h k)).map (meet g)
      rw [meet_assoc, words_meet ws g (meet h k)]
/-- what a word that is a comparison has not -/
def okW (w : List UInt8) : Prop := w ≠ [] ∧ ∀ c ∈ w, c ≠ 32 ∧ c ≠ 124
theorem itoa_no : ∀ n : Fin 1000, ∀ c ∈ itoa ((n.val : Nat) : Int), c ≠ 32 ∧ c ≠ 124 := by decide +kernel
theorem itoa_no' {n : Int} (h0 : 0 ≤ n) (h1 : n ≤ 999) : ∀ c ∈ itoa n, c ≠ 32 ∧ c ≠ 124 := by
  have := itoa_no ⟨n.toNat, by omega⟩
  rw [show ((n.toNat : Nat) : Int) = n by omega] at this
  exact this
theorem text_no {a b c : Int} (h : Vs.goodB a b c = true) : ∀ x ∈ Vs.textL a b c, x ≠ 32 ∧ x ≠ 124 := by
  obtain ⟨a0, a1, b0, b1, c0, c1⟩ := Vs.of_good h
  unfold Vs.textL
  rw [if_pos h]
  intro x hx
  simp only [List.mem_append, List.mem_cons, List.not_mem_nil, or_false] at hx
  rcases hx with hx | rfl | hx | rfl | hx
  · exact itoa_no' a0 a1 x hx
  · decide
  · exact itoa_no' b0 b1 x hx
  · decide
  · exact itoa_no' c0 c1 x hx
theorem sign_some {p : List UInt8} {a b c : Int} {g : G} (h : signL p a b c = some g) : p ∈ ([[61], [62, 61], [62], [60], [60, 61], [94], [126]] : List (List UInt8)) := by
  unfold signL at h
  repeat' split at h
  all_goals first
    | (cases h; done)
    | simp_all
theorem bound_ok {w : List UInt8} {g : G} (h : boundL w = some g) : okW w := by
  unfold boundL at h
  split at h
  · split at h
    · rename_i _ e
      subst e
      exact ⟨by simp, by decide⟩
    · cases h
  · cases hp : Vs.parseL (w.drop (indexAny w digs).toNat) with
    | none => rw [hp] at h; cases h
    | some v =>
      rw [hp] at h
      obtain ⟨a, b, c⟩ := v
      obtain ⟨ht, hgd⟩ := Vs.text_parse hp
      have hs := sign_some h
      have key : ∀ p ∈ ([[61], [62, 61], [62], [60], [60, 61], [94], [126]] : List (List UInt8)), p ≠ [] ∧ ∀ c ∈ p, c ≠ 32 ∧ c ≠ 124 := by decide
      obtain ⟨k1, k2⟩ := key _ hs
      have e := (List.take_append_drop (indexAny w digs).toNat w).symm
      constructor
      · intro e0
        rw [e0] at k1
        simp at k1
      · intro x hx
        rw [e] at hx
        rcases List.mem_append.1 hx with hx | hx
        · exact k2 x hx
        · rw [← ht] at hx
          exact text_no hgd x hx
theorem words_ok : ∀ (ws : List (List UInt8)) (g h : G), wordsF ws g = some h → ∀ w ∈ ws, okW w
  | [], _, _, _, w, hw => by cases hw
  | x :: ws, g, h, hh, w, hw => by
    rw [wordsF] at hh
    cases hb : boundL x with
    | none => rw [hb] at hh; cases hh
    | some k =>
      rw [hb] at hh
      rcases List.mem_cons.1 hw with rfl | hw
      · exact bound_ok hb
      · exact words_ok ws _ h hh w hw
/-- a term has no stroke -/
theorem term_bar {t : List UInt8} {g : G} (h : termF t = some g) : (124 : UInt8) ∉ t := by
  unfold termF at h
  have hw := words_ok _ _ _ h
  rw [cuts_pieces 32 _ t (Nat.le_refl _)] at hw
  rw [← Vs.join_pieces 32 t]
  generalize Vs.pieces 32 t = ps at hw
  have key : ∀ ps : List (List UInt8), (∀ w ∈ ps, okW w) → (124 : UInt8) ∉ ([32] : List UInt8).intercalate ps := by
    intro ps
    induction ps with
    | nil => intro _; simp [List.intercalate]
    | cons p ps ih =>
      intro hp hc
      cases ps with
      | nil =>
        simp [List.intercalate] at hc
        exact ((hp p (.head _)).2 _ hc).2 rfl
      | cons q ps =>
        have e : ([32] : List UInt8).intercalate (p :: q :: ps) = p ++ ([32] ++ ([32] : List UInt8).intercalate (q :: ps)) := by simp [List.intercalate, List.intersperse]
        rw [e] at hc
        rcases List.mem_append.1 hc with hc | hc
        · exact ((hp p (.head _)).2 _ hc).2 rfl
        · rcases List.mem_append.1 hc with hc | hc
          · simp at hc
          · exact ih (fun w hw => hp w (.tail _ hw)) hc
  exact key ps hw
theorem terms_bar : ∀ (ts : List (List UInt8)) (out r : List G), termsF ts out = some r → ∀ t ∈ ts, (124 : UInt8) ∉ t
  | [], _, _, _, t, ht => by cases ht
  | x :: ts, out, r, hr, t, ht => by
    rw [termsF] at hr
    cases hx : termF x with
    | none => rw [hx] at hr; cases hr
    | some g =>
      rw [hx] at hr
      rcases List.mem_cons.1 ht with rfl | ht
      · exact term_bar hx
      · exact terms_bar ts _ r hr t ht
theorem occ_bar {l : List UInt8} {j : Nat} (h : occAt l bar j = true) : l[j]? = some 32 ∧ l[j + 1]? = some 124 ∧ l[j + 2]? = some 32 := by
  unfold occAt at h
  obtain ⟨t, ht⟩ := List.isPrefixOf_iff_prefix.1 h
  have e : ∀ k, (l.drop j)[k]? = l[j + k]? := fun k => by rw [List.getElem?_drop]
  have e0 := e 0
  rw [Nat.add_zero] at e0
  rw [← e0, ← e 1, ← e 2, ← ht]
  simp
/-- two texts with a stroke between, the first of which has a stroke nowhere but where it is cut -/
theorem cuts_bar : ∀ (n : Nat) (a b : List UInt8), a.length ≤ n → (∀ t ∈ cuts bar a, (124 : UInt8) ∉ t) → cuts bar (a ++ (bar ++ b)) = cuts bar a ++ cuts bar b
  | n, a, b, hn, h => by
    rcases index_spec a bar with ⟨h1, h2⟩ | ⟨o, h1, h2, h3, h4⟩
    · rw [cuts_none h1] at h ⊢
      have hb := h a (.head _)
      have hix : index (a ++ (bar ++ b)) bar = (a.length : Nat) := by
        refine index_first (by simp) ?_ fun j hj => ?_
        · unfold occAt
          rw [List.drop_left]
          exact List.isPrefixOf_iff_prefix.2 ⟨b, rfl⟩
        · cases ho : occAt (a ++ (bar ++ b)) bar j with
          | false => rfl
          | true =>
            have h5 := (occ_bar ho).2.1
            by_cases hj1 : j + 1 < a.length
            · rw [List.getElem?_append_left hj1] at h5
              exact absurd (List.mem_of_getElem? h5) hb
            · rw [show j + 1 = a.length by omega, List.getElem?_append_right (Nat.le_refl _), Nat.sub_self] at h5
              cases h5
      rw [cuts_some (by simp) hix]
      rw [List.take_left]
      rw [show (a ++ (bar ++ b)).drop (a.length + bar.length) = b by rw [← List.append_assoc]; rw [show a.length + bar.length = (a ++ bar).length by simp]; exact List.drop_left]
      rfl
    · have hr : o + 3 ≤ a.length := by have := index_room a bar (by omega); rw [h1] at this; simp only [List.length_cons, List.length_nil] at this; omega
      rw [cuts_some (by simp) h1] at h ⊢
      have hix : index (a ++ (bar ++ b)) bar = (o : Nat) := by
        refine index_first (by rw [List.length_append]; omega) ?_ fun j hj => ?_
        · rw [occAt_iff_take _ _ _ (by simp; omega)]
          rw [occAt_iff_take _ _ _ (by simpa using hr)] at h3
          rw [List.drop_append_of_le_length (by omega), List.take_append_of_le_length (by rw [List.length_drop]; simp; omega)]
          exact h3
        · cases ho : occAt (a ++ (bar ++ b)) bar j with
          | false => rfl
          | true =>
            have h6 := h4 j hj
            rw [occAt_iff_take _ _ _ (by simp; omega)] at ho
            rw [occAt_iff_take _ _ _ (by simp; omega)] at h6
            rw [List.drop_append_of_le_length (by omega), List.take_append_of_le_length (by rw [List.length_drop]; simp; omega)] at ho
            rw [ho] at h6
            cases h6
      rw [cuts_some (by simp) hix, List.take_append_of_le_length (by omega), List.drop_append_of_le_length (by simp; omega)]
      cases n with
      | zero => omega
      | succ n =>
        rw [cuts_bar n _ b (by rw [List.length_drop]; simp; omega) (fun t ht => h t (.tail _ ht))]
        rfl
theorem terms_acc : ∀ (ts : List (List UInt8)) (out : List G), termsF ts out = (termsF ts []).map (out ++ ·)
  | [], out => by simp [termsF]
  | t :: ts, out => by
    rw [termsF, termsF]
    cases termF t with
    | none => rfl
    | some g =>
      show termsF ts (out ++ [g]) = (termsF ts ([] ++ [g])).map (out ++ ·)
      rw [terms_acc ts (out ++ [g]), terms_acc ts ([] ++ [g])]
      cases termsF ts [] <;> simp
/-- a stroke between -/
theorem all_bar {a b : List UInt8} {x y : List G} (ha : allF a = some x) (hb : allF b = some y) : allF (a ++ (bar ++ b)) = some (x ++ y) := by
  unfold allF at *
  rw [cuts_bar _ a b (Nat.le_refl _) (terms_bar _ _ _ ha), terms_app, ha]
  show termsF (cuts bar b) x = _
  rw [terms_acc, hb]
  rfl
theorem cuts_no {l : List UInt8} (h : (124 : UInt8) ∉ l) : cuts bar l = [l] := by
  refine cuts_none (index_none fun j _ => ?_)
  cases ho : occAt l bar j with
  | false => rfl
  | true => exact absurd (List.mem_of_getElem? (occ_bar ho).2.1) h
/-- a blank between -/
theorem all_blank {a b : List UInt8} {x y : List G} (ha : allF a = some x) (hb : allF b = some y) (na : (124 : UInt8) ∉ a) (nb : (124 : UInt8) ∉ b) : ∃ g h, x = [g] ∧ y = [h] ∧ In9 g ∧ In9 h ∧ allF (a ++ ([32] ++ b)) = some [meet g h] := by
  unfold allF at *
  rw [cuts_no na] at ha
  rw [cuts_no nb] at hb
  rw [cuts_no (by simp [na, nb])]
  rw [termsF] at ha hb ⊢
  cases hta : termF a with
  | none => rw [hta] at ha; cases ha
  | some g =>
    cases htb : termF b with
    | none => rw [htb] at hb; cases hb
    | some h =>
      rw [hta] at ha
      rw [htb] at hb
      have e1 : [] ++ [g] = x := Option.some.inj ha
      have e2 : [] ++ [h] = y := Option.some.inj hb
      have hg := words_in _ _ top_in _ hta
      have hh := words_in _ _ top_in _ htb
      refine ⟨g, h, by rw [← e1]; rfl, by rw [← e2]; rfl, hg, hh, ?_⟩
      have hp : cuts [32] (a ++ ([32] ++ b)) = cuts [32] a ++ cuts [32] b := by
        have key : ∀ l m : List UInt8, Vs.pieces 32 (l ++ 32 :: m) = Vs.pieces 32 l ++ Vs.pieces 32 m := by
          intro l m
          induction l with
          | nil => simp [Vs.pieces]
          | cons c l ih =>
            rw [List.cons_append, Vs.pieces, Vs.pieces, ih]
            split
            · rfl
            · obtain ⟨p, ps, hp⟩ := Vs.pieces_ne 32 l
              rw [hp]
              rfl
        rw [cuts_pieces 32 _ _ (Nat.le_refl _), cuts_pieces 32 _ _ (Nat.le_refl _), cuts_pieces 32 _ _ (Nat.le_refl _)]
        exact key a b
      have : termF (a ++ ([32] ++ b)) = some (meet g h) := by
        unfold termF at hta htb ⊢
        rw [hp, words_app, hta]
        show wordsF (cuts [32] b) g = _
        rw [← top_meet hg, words_meet, htb]
        rw [top_meet hg]
        rfl
      rw [this]
      rfl
theorem in_meet (g h : G) (n : Int) : ((meet g h).1 ≤ n ∧ n < (meet g h).2) ↔ (g.1 ≤ n ∧ n < g.2) ∧ (h.1 ≤ n ∧ n < h.2) := by
  unfold meet
  dsimp only
  omega
end Sg
end Go.Proofs.YtflhmoelenmomaaGreatDoor

/-
  Walk: strings.IndexAny at the ten digits, for every text (bytes beyond ASCII too).
-/
namespace Go.Proofs.YtflhmoelenmomaaGreatDoor
open Go.RowKit Go.Shelf Go.Lib
namespace Sg

abbrev digB : ByteArray := ⟨#[48, 49, 50, 51, 52, 53, 54, 55, 56, 57]⟩
theorem digs_low : ∀ b ∈ digs, b.toNat < 128 := by decide
theorem digs_hi {b : UInt8} (h : 128 ≤ b.toNat) : digs.contains b = false := by
  cases hc : digs.contains b with
  | false => rfl
  | true => have := digs_low b (by simpa using hc); omega
theorem byte_no {l : List UInt8} {c : UInt8} (h : c ∉ l) : Lib.indexByte l c = -1 := by
  induction l with
  | nil => rfl
  | cons a l ih =>
    have h1 : (a == c) = false := beq_eq_false_iff_ne.2 fun e => h (by rw [e]; exact .head _)
    rw [Lib.indexByte, h1, ih fun hc => h (.tail _ hc)]
    rfl
/-- the bytes of one rune beyond ASCII are beyond ASCII -/
theorem decode_hi (s : ByteArray) (i : Nat) (h : i < s.size) (ha : 128 ≤ (s[i]'h).toNat) : ∀ k, k < (Utf8.decode s i).2 → ∃ hk : i + k < s.size, 128 ≤ (s[i + k]'hk).toNat := by
  have get : ∀ j (hj : j < s.size), s.get! j = s[j]'hj := fun j hj => get_at s j hj
  have cont : ∀ k, 1 ≤ k → k < s.size - i → (s.get! (i + k)).toNat / 64 = 2 → ∃ hk : i + k < s.size, 128 ≤ (s[i + k]'hk).toNat := fun k _ h2 h3 => by
    have hk : i + k < s.size := by omega
    refine ⟨hk, ?_⟩
    rw [get _ hk] at h3
    omega
  intro k hk
  by_cases h0 : k = 0
  · subst h0; exact ⟨h, ha⟩
  rw [decode_at] at hk
  have hn : ¬ (s.get! i).toNat < 128 := by rw [get i h]; omega
  unfold decodeN at hk
  rw [if_neg hn] at hk
  split at hk
  · rename_i h1
    split at hk
    · have : k = 1 := by simp only at hk; omega
      subst this
      exact cont 1 (by omega) h1.2.1 h1.2.2
    · simp only at hk; omega
  · split at hk
    · rename_i h1
      split at hk
      · have : k = 1 ∨ k = 2 := by simp only at hk; omega
        rcases this with rfl | rfl
        · exact cont 1 (by omega) h1.2.1.1 h1.2.1.2
        · exact cont 2 (by omega) h1.2.2.1 h1.2.2.2
      · simp only at hk; omega
    · split at hk
      · rename_i h1
        split at hk
        · have : k = 1 ∨ k = 2 ∨ k = 3 := by simp only at hk; omega
          rcases this with rfl | rfl | rfl
          · exact cont 1 (by omega) h1.2.1.1 h1.2.1.2
          · exact cont 2 (by omega) h1.2.2.1.1 h1.2.2.1.2
          · exact cont 3 (by omega) h1.2.2.2.1 h1.2.2.2.2
        · simp only at hk; omega
      · simp only at hk; omega
/-- a rune beyond ASCII as text: two to four bytes, the last of them beyond ASCII -/
theorem encode_hi {r : Int} (h0 : 128 ≤ r) : ∃ (l : Nat) (b : UInt8), 1 ≤ l ∧ l ≤ 3 ∧ (Utf8.encode r).size = l + 1 ∧ (Utf8.encode r).data.toList[l]? = some b ∧ 128 ≤ b.toNat := by
  have low : ∀ n : Nat, n < 256 → (UInt8.ofNat n).toNat = n := fun n hn => by simp; omega
  have hc : 128 ≤ (if Utf8.valid r then r.toNat else Utf8.runeError) := by
    split
    · omega
    · decide
  unfold Utf8.encode
  generalize (if Utf8.valid r then r.toNat else Utf8.runeError) = c at hc
  simp only
  have hc2 : ¬ c < 128 := by omega
  rw [if_neg hc2]
  split
  · exact ⟨1, UInt8.ofNat (0x80 + c % 64), by omega, by omega, rfl, rfl, by rw [low _ (by omega)]; omega⟩
  · split
    · exact ⟨2, UInt8.ofNat (0x80 + c % 64), by omega, by omega, rfl, rfl, by rw [low _ (by omega)]; omega⟩
    · exact ⟨3, UInt8.ofNat (0x80 + c % 64), by omega, by omega, rfl, rfl, by rw [low _ (by omega)]; omega⟩
theorem quiet_at {P : Program} {f : FuncId} {args : Array Value} {v : Value} (h : ∀ w, Calls P f args w fun e w' => e = .returned v ∧ w' = w) (w : World) (a : Nat) : Calls P f args (w.drewN a) fun e w'' => e = .returned v ∧ ∃ n, w'' = w.drewN n :=
  (h (w.drewN a)).mono fun _ _ hw => ⟨hw.1, a, hw.2⟩
theorem data_get {s : ByteArray} {k : Nat} {b : UInt8} (h : s.data.toList[k]? = some b) (hk : k < s.size) : s[k]'hk = b := by
  rw [Lib.data_getElem? s k hk] at h
  exact Option.some.inj h
set_option maxHeartbeats 4000000 in
set_option maxRecDepth 100000 in
/-- IndexRune of a rune beyond ASCII among the digits -/
theorem rune_hi (r : Int) (h0 : 128 ≤ r) (h1 : r ≤ 2147483647) (W : World) :
    Calls Tryz.prog 104 #[.string digB, .int .i32 r] W fun e W' => e = .returned (.int .i64 (-1)) ∧ Below W.heap.size W W' := by
  have k0 : ¬ r < 128 := by omega
  have k1 : (0 : Int) ≤ r := by omega
  by_cases he : r = 65533
  · subst he
    go_enter Tryz.func104, Tryz.ntmps104
    go_wp2_with fail
    go_loopw [5, 6] (fun _ _ wr => ∃ i : Nat, i ≤ 10 ∧ wr = W.iter digB i) (fun _ _ wr => 10 - wr.iterPos W.heap.size)
    case atStart => exact ⟨0, by omega, rfl⟩
    case round =>
      obtain ⟨i, hi, rfl⟩ := hrel
      by_cases hlt : i < 10
      · have hlt2 : i < digB.size := hlt
        have hx : (digB[i]'hlt2).toNat < 128 := digs_low _ (List.getElem_mem hlt)
        have hnx := fun ty => run_next_ascii (P := Tryz.prog) W digB i ty hlt2 hx
        have hne : (((digB[i]'hlt2).toNat : Int) == 65533) = false := beq_eq_false_iff_ne.2 (by omega)
        obtain ⟨x, hxx⟩ : ∃ x : UInt8, digB[i]'hlt2 = x := ⟨_, rfl⟩
        rw [hxx] at hnx hne
        clear hx hxx
        go_wp2_with fail
        go_roundw
        case rel => exact ⟨i + 1, by omega, rfl⟩
        case measure => rw [World.iterPos_iter, World.iterPos_iter]; omega
      · obtain rfl : i = 10 := by omega
        have hnx := fun ty => run_next_end (P := Tryz.prog) W digB 10 ty (by decide)
        go_wp2_with fail
        go_ret
        exact ⟨rfl, (Below.refl _ _).alloc (Nat.le_refl _) _⟩
  · have k2 : (r == 65533) = false := beq_eq_false_iff_ne.2 he
    cases hv : Lib.validRune r with
    | false =>
      have hvr := fun w => Tryz.utf8_ValidRune r w
      rw [hv] at hvr
      go_enter Tryz.func104, Tryz.ntmps104
      go_wp2_with (go_at_call 128; refine (hvr _).mono ?_; rintro e w' ⟨rfl, rfl⟩)
      go_ret
      exact ⟨rfl, Below.refl _ _⟩
    | true =>
      have hvr := fun w => Tryz.utf8_ValidRune r w
      rw [hv] at hvr
      go_enter Tryz.func104, Tryz.ntmps104
      go_wp2_with (go_at_call 128; refine (hvr _).mono ?_; rintro e w' ⟨rfl, rfl⟩)
      go_step3
      go_wp2_with fail
      obtain ⟨l, b, l1, l3, hsz, hb, hb128⟩ := encode_hi h0
      generalize Utf8.encode r = e at hsz hb ⊢
      have hw : wrap64 (((l + 1 : Nat) : Int) - 1) = (l : Int) := by
        rcases (show l = 1 ∨ l = 2 ∨ l = 3 by omega) with rfl | rfl | rfl <;> decide +kernel
      rw [hsz, hw]
      clear hw
      go_loopw [9, 10, 11, 12] (fun i _ _ _ wr => i = .int .i64 (l : Int) ∧ w' = wr) (fun _ _ _ _ _ => 0)
      case atStart => exact ⟨rfl, rfl⟩
      case round =>
        obtain ⟨rfl, rfl⟩ := hrel
        have hl10 : l < digB.size := by show l < 10; omega
        have hle : l < e.size := by omega
        have heb := data_get hb hle
        have hdl := digs_low (digB[l]'hl10) (List.getElem_mem hl10)
        have hne : (((digB[l]'hl10).toNat : Int) == ((e[l]'hle).toNat : Int)) = false := beq_eq_false_iff_ne.2 (by rw [heb]; omega)
        have hne2 : (((digB[l]'hl10).toNat : Int) != ((e[l]'hle).toNat : Int)) = true := by unfold bne; rw [hne]; rfl
        have j1 : ((l : Int) + 1).toNat = l + 1 := by omega
        have j2 : (0 : Int) ≤ (l : Int) + 1 := by omega
        have j3 : (l : Int) + 1 ≤ 10 := by omega
        have j4 : IntKind.i64.wrap ((l : Int) + 1) = (l : Int) + 1 := IntWalk.i64_in _ (by omega)
        have i1 : ∀ w, Calls Tryz.prog 127 #[.string (digB.extract (l + 1) 10), .int .u8 ((e[l]'hle).toNat : Int)] w fun e w' => e = .returned (.int .i64 (-1)) ∧ w' = w := fun w => (Tryz.strings_IndexByte _ _ w).mono fun e w' h => ⟨by
          rw [h.1, byte_no]
          intro hm
          have h9 : ∀ x ∈ digs, x.toNat < 128 := digs_low
          rw [Lib.extract_data] at hm
          have h8 := h9 _ (List.mem_of_mem_drop (List.mem_of_mem_take hm))
          rw [heb] at h8
          simp at h8
          omega, h.2⟩
        have i2 := quiet_at i1
        have HSZ := Lib.hid hsz
        clear hsz i1 hdl heb hb
        go_wp2_with fail
        go_step3
        go_wp2_with fail
        go_quiet (fail)
        have hb1 := Sx.below_drewN (Below.refl w'.heap.size w') nq
        generalize w'.drewN nq = w1 at hb1 ⊢
        go_wp2_with fail
        go_quiet ((go_at_call 127; exact i2 _ _))
        have hb2 := Sx.below_drewN hb1 nq
        generalize w1.drewN nq = w2 at hb2 ⊢
        go_wp2_with fail
        simp (config := { zetaDelta := true }) only [Exit.inBlock, Exit.then, Exit.noGoto_ret]
        go_ret
        exact ⟨rfl, hb2⟩
theorem anyd_go {l : List UInt8} {i : Nat} (h : Lib.NoAny l digs i) {k : Nat} (hk : ∀ j, j < k → ∀ b, l[i + j]? = some b → digs.contains b = false) : Lib.NoAny l digs (i + k) := fun j b hj hb => by
  by_cases h1 : j < i
  · exact h j b h1 hb
  · exact hk (j - i) (by omega) b (by rw [show i + (j - i) = j by omega]; exact hb)
theorem below_iterAt {B : Nat} {W w : World} (h : Below B W w) {k : Nat} (hk : B ≤ k) (s : ByteArray) (p : Nat) : Below B W (w.iterAt k s p) :=
  ⟨h.os, h.tape, h.output, by have := h.size; simpa [World.iterAt] using this, fun j hj => by
    have h1 : (w.iterAt k s p).heap[j]? = w.heap[j]? := by
      show (w.heap.setIfInBounds k _)[j]? = _
      rw [Array.getElem?_setIfInBounds_ne (by omega)]
    exact h1.trans (h.block j hj)⟩
theorem iterPos_of {w : World} {k : Nat} {s : ByteArray} {p : Nat} (h : w.heap[k]? = some (.stringIter s p)) : w.iterPos k = p := by simp [World.iterPos, h]
set_option maxHeartbeats 4000000 in
set_option maxRecDepth 100000 in
/-- s of at most 8 bytes -/
theorem any_short (s : ByteArray) (W : World) (h8 : s.size ≤ 8) :
    Calls Tryz.prog 73 #[.string s, .string digB] W fun e W' => e = .returned (.int .i64 (Lib.indexAny s.data.toList digs)) ∧ Below W.heap.size W W' := by
  have h8z : decide ((8 : Int) < (s.size : Int)) = false := decide_eq_false (by omega)
  have hsu := fun w => Tryz.strings_shouldUseASCIISet (s.size : Int) w
  rw [h8z] at hsu
  have hemp : digB.toList.isEmpty = false := by decide +kernel
  go_enter Tryz.func73, Tryz.ntmps73
  go_wp2_with (go_at_call 105; refine (hsu _).mono ?_; rintro e w' ⟨rfl, rfl⟩)
  clear hsu
  obtain ⟨W, rfl⟩ : ∃ W, W = w' := ⟨_, rfl⟩
  go_loopw [9, 10] (fun _ _ wr => ∃ i : Nat, i ≤ s.size ∧ wr.heap[W.heap.size]? = some (.stringIter s i) ∧ Lib.NoAny s.data.toList digs i ∧ Below W.heap.size W wr) (fun _ _ wr => s.size - wr.iterPos W.heap.size)
  case atStart => exact ⟨0, Nat.zero_le _, heap_alloc_new _ _, Lib.NoAny.zero _ _, (Below.refl _ _).alloc (Nat.le_refl _) _⟩
  case round =>
    obtain ⟨i, hi, hk, hno, hb⟩ := hrel
    have HN := Lib.hid hno
    have HK := Lib.hid hk
    by_cases hlt : i < s.size
    · obtain ⟨x, hx⟩ : ∃ x : UInt8, s[i]'hlt = x := ⟨_, rfl⟩
      have hxl : s.data.toList[i]? = some x := by rw [← hx]; exact Lib.data_getElem? s i hlt
      have HX := Lib.hid hxl
      have HB := Lib.hid (fun p => below_iterAt hb (Nat.le_refl _) s p)
      have HA := Lib.hid (fun p => iterAt_heap wr W.heap.size s i p hk)
      by_cases ha : x.toNat < 128
      · have hnx := fun ty => run_next_ascii_at (P := Tryz.prog) wr W.heap.size s i ty hk hlt (by rw [hx]; exact ha)
        rw [hx] at hnx
        have hir := fun w => Tryz.strings_IndexRune_ascii digB (x.toNat : Int) w (by omega) (by omega)
        have hcon := Lib.contains_iff_indexByte digs x
        have hback : ((x.toNat : Int)).toNat.toUInt8 = x := by simp
        rw [hback] at hir
        obtain ⟨v, hv⟩ : ∃ v, v = Lib.indexByte digs x := ⟨_, rfl⟩
        rw [show Lib.indexByte digB.data.toList x = v from hv.symm] at hir
        rw [← hv] at hcon
        clear hk hno hxl hx hback hv
        cases hin : digs.contains x with
        | false =>
          rw [hin] at hcon
          have HIN := Lib.hid hin
          have hlt0 : ¬ ((0 : Int) ≤ v) := of_decide_eq_false hcon.symm
          clear hcon hin
          go_wp2_with (go_at_call 104; refine (hir _).mono ?_; rintro e w' ⟨rfl, rfl⟩)
          go_roundw
          case rel => exact ⟨i + 1, by omega, HA.out _, HN.out.succ HX.out HIN.out, HB.out _⟩
          case measure => rw [iterPos_of HK.out, iterPos_of (HA.out _)]; omega
        | true =>
          rw [hin] at hcon
          have HIN := Lib.hid hin
          have hge : (0 : Int) ≤ v := of_decide_eq_true hcon.symm
          clear hcon hin
          go_wp2_with (go_at_call 104; refine (hir _).mono ?_; rintro e w' ⟨rfl, rfl⟩)
          go_ret
          exact ⟨by rw [Lib.indexAny_hit HN.out HX.out HIN.out]; rfl, HB.out _⟩
      · have hxa : 128 ≤ (s[i]'hlt).toNat := by rw [hx]; omega
        have hnx := fun ty => run_next_any_at (P := Tryz.prog) wr W.heap.size s i ty hk hlt
        obtain ⟨h128, hw1⟩ := decode_high s i hlt hxa
        have hmax := decode_le s i
        have hd := decode_hi s i hlt hxa
        rcases hdec : Utf8.decode s i with ⟨rn, wd⟩
        rw [hdec] at hnx h128 hw1 hmax hd
        have hir := fun w => rune_hi (rn : Int) (by omega) (by omega) w
        have hle : i + wd ≤ s.size := by
          obtain ⟨h9, _⟩ := hd (wd - 1) (by omega)
          omega
        have HGO := Lib.hid (show Lib.NoAny s.data.toList digs (i + wd) from anyd_go hno fun j hj b hb' => by
          obtain ⟨h9, h8⟩ := hd j hj
          rw [Lib.data_getElem? s (i + j) h9] at hb'
          rw [← Option.some.inj hb']
          exact digs_hi h8)
        have HW := Lib.hid hw1
        clear hk hno hxl hx hdec h128 hmax hd hxa hw1
        go_wp2_with (go_at_call 104; refine (hir _).mono ?_; rintro e w' ⟨rfl, hb9⟩)
        have HK9 := Lib.hid ((hb9.block W.heap.size (Array.getElem?_eq_some_iff.1 (HA.out _)).1).trans (HA.out _))
        have HB9 := Lib.hid ((HB.out _).trans (hb9.mono (HB.out _).size))
        clear hb9
        go_wp2_with fail
        go_roundw
        case rel => exact ⟨i + wd, hle, HK9.out, HGO.out, HB9.out⟩
        case measure => rw [iterPos_of HK.out, iterPos_of HK9.out]; have := HW.out; omega
    · obtain rfl : i = s.size := by omega
      have hnx := fun ty => run_next_end_at (P := Tryz.prog) wr W.heap.size s s.size ty hk hlt
      clear hk hno
      go_wp2_with fail
      go_ret
      exact ⟨by rw [Lib.indexAny_none (by rw [← Lib.size_eq]; exact HN.out)]; rfl, hb⟩
theorem zero_as (w : World) : (zeroValue 156).run Tryz.prog w = .ok (.agg (Array.replicate 256 (.bool false))) w := (zero_of_info (P := Tryz.prog) (n := 256) (by kernel_rfl)).1 w
/-- where the first digit stands -/
theorem anyd_any (s : ByteArray) (W : World) (hs : s.size ≤ 1048576) :
    Calls Tryz.prog 73 #[.string s, .string digB] W fun e W' => e = .returned (.int .i64 (Lib.indexAny s.data.toList digs)) ∧ Below W.heap.size W W' := by
  by_cases h8 : s.size ≤ 8
  · exact any_short s W h8
  · refine (Tryz.strings_IndexAny_long zero_as s digB W (by decide) (by omega) (by omega) (by decide) (fun j b hb => digs_low b (List.mem_of_getElem? hb))).mono ?_
    rintro e w' ⟨rfl, rfl⟩
    exact ⟨rfl, ((Below.refl _ _).alloc (Nat.le_refl _) _).alloc (by simp) _⟩
end Sg
end Go.Proofs.YtflhmoelenmomaaGreatDoor

/-
  Walk: bound: the gap that a comparison is.
-/
namespace Go.Proofs.YtflhmoelenmomaaGreatDoor
open Go.RowKit Go.Shelf Go.Lib
namespace Sg

abbrev gapV (g : G) : Value := .agg #[.int .i64 g.1, .int .i64 g.2]
/-- what bound answers -/
def BQ (o : Option G) (e : Ending) : Prop := (∃ g, o = some g ∧ e = .returned (.tuple #[gapV g, .bool true])) ∨ (o = none ∧ ∃ g : G, e = .returned (.tuple #[gapV g, .bool false]))
theorem str_ff {s : ByteArray} {l : List UInt8} (h : s.data.toList ≠ l) : (s.toList == l) = false := by
  rw [ByteArray.toList_eq]
  exact beq_eq_false_iff_ne.2 h
theorem str_tt {s : ByteArray} {l : List UInt8} (h : s.data.toList = l) : (s.toList == l) = true := by rw [ByteArray.toList_eq, h]; exact beq_self_eq_true _
theorem head_take (s : ByteArray) (i : Nat) : (s.extract 0 i).data.toList = s.data.toList.take i := by
  rw [ByteArray.data_extract, Array.toList_extract]
  simp [List.extract]
theorem tail_drop (s : ByteArray) (i : Nat) : (s.extract i s.size).data.toList = s.data.toList.drop i := by
  rw [Lib.extract_data, List.take_of_length_le]
  have : s.size = s.data.toList.length := Lib.size_eq s
  rw [List.length_drop]
  omega
theorem two_below {W W' : World} {b : Nat} {u0 u1 : Value} {T : TypeId} (hb : Below W.heap.size W W') (h : W.heap[b]? = some (.cells #[u0, u1] T (0, 0))) : W'.heap[b]? = some (.cells #[u0, u1] T (0, 0)) := (hb.block b (Array.getElem?_eq_some_iff.1 h).1).trans h
theorem two_set {W : World} {b : Nat} {u0 u1 : Value} {T : TypeId} (h : W.heap[b]? = some (.cells #[u0, u1] T (0, 0))) (x y : Value) : ((W.setCell ⟨b, 0, none⟩ x).setCell ⟨b, 1, none⟩ y).heap[b]? = some (.cells #[x, y] T (0, 0)) :=
  heap_setCell_same _ b 1 _ _ _ (heap_setCell_same W b 0 _ _ _ h)
theorem below_two {B : Nat} {W w : World} (h : Below B W w) {b : Nat} (hb : B ≤ b) (x y : Value) : Below B W ((w.setCell ⟨b, 0, none⟩ x).setCell ⟨b, 1, none⟩ y) := (h.setCell (p := ⟨b, 0, none⟩) hb x).setCell (p := ⟨b, 1, none⟩) hb y
theorem indexAny_lt (chars : List UInt8) : ∀ l : List UInt8, Lib.indexAny l chars < l.length ∨ Lib.indexAny l chars = -1
  | [] => .inr rfl
  | b :: l => by
    have ih := indexAny_lt chars l
    rw [Lib.indexAny, List.length_cons]
    split
    · exact .inl (by omega)
    · split
      · exact .inr rfl
      · rcases ih with ih | ih
        · exact .inl (by omega)
        · rename_i h; exact absurd (beq_iff_eq.2 ih) h
theorem bound_results {tmps : Array Value} {X : World} {h : Nat} {x y : Int} {b : Bool} (t2 : tmps[2]? = some (.pointer (some ⟨h, 0, none⟩))) (t3 : tmps[3]? = some (.bool b)) (k : X.heap[h]? = some (.cells #[.int .i64 x, .int .i64 y] 55 (0, 0))) :
    (results Tryz.f49 tmps).run Tryz.prog X = .ok (.tuple #[gapV (x, y), .bool b]) X := by
  obtain ⟨c0, c1, -, -⟩ := obj_two k
  simp [results, Tryz.results49, go_sem, t2, t3, c0, c1]
theorem bq_some {o : Option G} {x y : Int} (h : o = some (x, y)) : BQ o (.returned (.tuple #[gapV (x, y), .bool true])) := .inl ⟨_, h, rfl⟩
theorem bq_none {o : Option G} (h : o = none) (g : G) : BQ o (.returned (.tuple #[gapV g, .bool false])) := .inr ⟨h, g, rfl⟩
set_option maxHeartbeats 8000000 in
set_option maxRecDepth 100000 in
theorem bound_any (s : ByteArray) (W : World) (hs : s.size ≤ 1048576) (hE : Vs.Env W) :
    Calls Tryz.prog 49 #[.string s] W fun e W' => BQ (boundL s.data.toList) e ∧ Below W.heap.size W W' := by
  have hB0 := (Below.refl W.heap.size W).alloc (Nat.le_refl _) (.cells #[.int .i64 0, .int .i64 0] 55)
  have hK0 := heap_alloc_new W (.cells #[.int .i64 0, .int .i64 0] 55)
  have HK0 := Lib.hid hK0
  clear hK0
  have hia := fun w => anyd_any s w hs
  have hge := Lib.indexAny_ge digs s.data.toList
  by_cases hi : Lib.indexAny s.data.toList digs = -1
  · rw [hi] at hia
    by_cases hst : s.data.toList = [42]
    · have HQ := Lib.hid (show boundL s.data.toList = some (0, 1000000000) by unfold boundL; rw [if_pos hi, if_pos hst])
      have j1 := str_tt hst
      clear hi hge hst
      go_enter Tryz.func49, Tryz.ntmps49
      go_wp2_with (go_at_call 73; refine (hia _).mono ?_; rintro e W1 ⟨rfl, hB1⟩; have hB2 := hB0.trans (hB1.mono hB0.size); obtain ⟨c0, c1, f0, f1⟩ := obj_two (two_below hB1 HK0.out); have HK1 := Lib.hid (two_below hB1 HK0.out); clear hB1)
      refine bodyPost_ret (bound_results rfl rfl (two_set HK1.out _ _)) rfl ?_
      exact ⟨bq_some HQ.out, below_two hB2 (Nat.le_refl _) _ _⟩
    · have HQ := Lib.hid (show boundL s.data.toList = none by unfold boundL; rw [if_pos hi, if_neg hst])
      have j1 := str_ff hst
      clear hi hge hst
      go_enter Tryz.func49, Tryz.ntmps49
      go_wp2_with (go_at_call 73; refine (hia _).mono ?_; rintro e W1 ⟨rfl, hB1⟩; have hB2 := hB0.trans (hB1.mono hB0.size); obtain ⟨c0, c1, f0, f1⟩ := obj_two (two_below hB1 HK0.out); have HK1 := Lib.hid (two_below hB1 HK0.out); clear hB1)
      refine bodyPost_ret (bound_results rfl rfl (two_set HK1.out _ _)) rfl ?_
      exact ⟨bq_none HQ.out _, below_two hB2 (Nat.le_refl _) _ _⟩
  · obtain ⟨i, hii⟩ : ∃ i : Nat, Lib.indexAny s.data.toList digs = i := ⟨(Lib.indexAny s.data.toList digs).toNat, by omega⟩
    have HQ := Lib.hid (show boundL s.data.toList = (Vs.parseL (s.data.toList.drop i)).bind fun v => signL (s.data.toList.take i) v.1 v.2.1 v.2.2 by unfold boundL; rw [if_neg hi, hii]; rfl)
    rw [hii] at hia
    have hil2 : i ≤ s.size := by
      have h1 := indexAny_lt digs s.data.toList
      have h2 : s.size = s.data.toList.length := Lib.size_eq s
      rw [hii] at h1
      omega
    clear hi hge hii
    have hpa := fun w (hb : Below W.heap.size W w) => Vs.parse_any (s.extract i s.size) (by rw [ByteArray.size_extract]; omega) w (hE.below (Nat.le_refl _) hb)
    rw [tail_drop] at hpa
    cases hp : Vs.parseL (s.data.toList.drop i) with
    | none =>
      have HQ2 := Lib.hid (show boundL s.data.toList = none by rw [HQ.out, hp]; rfl)
      rw [hp, Vs.PV_none] at hpa
      have hnum := fun w => Vs.number_any 0 0 0 w
      clear hp
      go_enter Tryz.func49, Tryz.ntmps49
      go_wp2_with (first
        | (go_at_call 73; refine (hia _).mono ?_; rintro e W1 ⟨rfl, hB1⟩; have hB2 := hB0.trans (hB1.mono hB0.size); have HK1 := Lib.hid (two_below hB1 HK0.out); clear hB1)
        | (go_at_call 28; refine (hpa _ hB2).mono ?_; rintro e W3 ⟨rfl, hB3⟩; have hB4 := hB2.trans (hB3.mono hB2.size); have HK3 := Lib.hid (two_below hB3 HK1.out); clear hB3; have hB5 := hB4.alloc hB4.size (.cells #[.int .i64 0, .int .i64 0, .int .i64 0] 37); have HK5 := Lib.hid (two_below ((Below.refl _ _).alloc (Nat.le_refl _) (.cells #[.int .i64 0, .int .i64 0, .int .i64 0] 37)) HK3.out))
        | (go_at_call 74; refine (hnum _).mono ?_; rintro e W6 ⟨rfl, hB6⟩; have hB7 := hB5.trans (hB6.mono hB5.size); obtain ⟨c0, c1, f0, f1⟩ := obj_two (two_below hB6 HK5.out); have HK7 := Lib.hid (two_below hB6 HK5.out); clear hB6))
      refine bodyPost_ret (bound_results rfl rfl (two_set HK7.out _ _)) rfl ?_
      exact ⟨bq_none HQ2.out _, below_two hB7 (Nat.le_refl _) _ _⟩
    | some v =>
      obtain ⟨a, b, c⟩ := v
      have hgd := (Vs.text_parse hp).2
      have HQ2 := Lib.hid (show boundL s.data.toList = signL (s.data.toList.take i) a b c by rw [HQ.out, hp]; rfl)
      rw [hp, Vs.PV_some] at hpa
      have hnum := fun w => Vs.number_any a b c w
      obtain ⟨-, n0, n1⟩ := num_bd hgd
      obtain ⟨a0, a1, b0, b1, -, -⟩ := Vs.of_good hgd
      generalize hn : Vs.num a b c = n at hnum n0 n1
      have HN := Lib.hid hn
      have hT := head_take s i
      clear hp hgd HQ hn
      go_enter Tryz.func49, Tryz.ntmps49
      go_wp2_with (first
        | (go_at_call 73; refine (hia _).mono ?_; rintro e W1 ⟨rfl, hB1⟩; have hB2 := hB0.trans (hB1.mono hB0.size); have HK1 := Lib.hid (two_below hB1 HK0.out); clear hB1)
        | (go_at_call 28; refine (hpa _ hB2).mono ?_; rintro e W3 ⟨rfl, hB3⟩; have hB4 := hB2.trans (hB3.mono hB2.size); have HK3 := Lib.hid (two_below hB3 HK1.out); clear hB3; have hB5 := hB4.alloc hB4.size (.cells #[.int .i64 a, .int .i64 b, .int .i64 c] 37); have HK5 := Lib.hid (two_below ((Below.refl _ _).alloc (Nat.le_refl _) (.cells #[.int .i64 a, .int .i64 b, .int .i64 c] 37)) HK3.out); have HC5 := Lib.hid (Vs.C3.new W3 a b c)))
      go_at_call 74
      refine (hnum _).mono ?_
      rintro e W6 ⟨rfl, hB6⟩
      have hB7 := hB5.trans (hB6.mono hB5.size)
      obtain ⟨c0, c1, f0, f1⟩ := obj_two (two_below hB6 HK5.out)
      have HK7 := Lib.hid (two_below hB6 HK5.out)
      obtain ⟨-, d0, d1, -, -⟩ := HC5.out.below hB6
      clear hB6 hB5 hB4 hB2 hpa hnum hia hB0
      by_cases e0 : s.data.toList.take i = [61]
      · have k0 := str_tt (s := s.extract 0 i) (l := [61]) (by rw [hT]; exact e0)
        have HR := Lib.hid (show boundL s.data.toList = some (n, n + 1) by rw [HQ2.out]; unfold signL; rw [if_pos e0, HN.out])
        clear hT e0
        go_wp2_with fail
        refine bodyPost_ret (bound_results rfl rfl (two_set HK7.out _ _)) rfl ?_
        exact ⟨bq_some HR.out, below_two hB7 (Nat.le_refl _) _ _⟩
      by_cases e1 : s.data.toList.take i = [62, 61]
      · have k0 := str_ff (s := s.extract 0 i) (l := [61]) (by rw [hT]; exact e0)
        have k1 := str_tt (s := s.extract 0 i) (l := [62, 61]) (by rw [hT]; exact e1)
        have HR := Lib.hid (show boundL s.data.toList = some (n, 1000000000) by rw [HQ2.out]; unfold signL; rw [if_neg e0]; rw [if_pos e1, HN.out])
        clear hT e0 e1
        go_wp2_with fail
        refine bodyPost_ret (bound_results rfl rfl (two_set HK7.out _ _)) rfl ?_
        exact ⟨bq_some HR.out, below_two hB7 (Nat.le_refl _) _ _⟩
      by_cases e2 : s.data.toList.take i = [62]
      · have k0 := str_ff (s := s.extract 0 i) (l := [61]) (by rw [hT]; exact e0)
        have k1 := str_ff (s := s.extract 0 i) (l := [62, 61]) (by rw [hT]; exact e1)
        have k2 := str_tt (s := s.extract 0 i) (l := [62]) (by rw [hT]; exact e2)
        have HR := Lib.hid (show boundL s.data.toList = some (n + 1, 1000000000) by rw [HQ2.out]; unfold signL; rw [if_neg e0]; rw [if_neg e1]; rw [if_pos e2, HN.out])
        clear hT e0 e1 e2
        go_wp2_with fail
        refine bodyPost_ret (bound_results rfl rfl (two_set HK7.out _ _)) rfl ?_
        exact ⟨bq_some HR.out, below_two hB7 (Nat.le_refl _) _ _⟩
      by_cases e3 : s.data.toList.take i = [60]
      · have k0 := str_ff (s := s.extract 0 i) (l := [61]) (by rw [hT]; exact e0)
        have k1 := str_ff (s := s.extract 0 i) (l := [62, 61]) (by rw [hT]; exact e1)
        have k2 := str_ff (s := s.extract 0 i) (l := [62]) (by rw [hT]; exact e2)
        have k3 := str_tt (s := s.extract 0 i) (l := [60]) (by rw [hT]; exact e3)
        have HR := Lib.hid (show boundL s.data.toList = some (0, n) by rw [HQ2.out]; unfold signL; rw [if_neg e0]; rw [if_neg e1]; rw [if_neg e2]; rw [if_pos e3, HN.out])
        clear hT e0 e1 e2 e3
        go_wp2_with fail
        refine bodyPost_ret (bound_results rfl rfl (two_set HK7.out _ _)) rfl ?_
        exact ⟨bq_some HR.out, below_two hB7 (Nat.le_refl _) _ _⟩
      by_cases e4 : s.data.toList.take i = [60, 61]
      · have k0 := str_ff (s := s.extract 0 i) (l := [61]) (by rw [hT]; exact e0)
        have k1 := str_ff (s := s.extract 0 i) (l := [62, 61]) (by rw [hT]; exact e1)
        have k2 := str_ff (s := s.extract 0 i) (l := [62]) (by rw [hT]; exact e2)
        have k3 := str_ff (s := s.extract 0 i) (l := [60]) (by rw [hT]; exact e3)
        have k4 := str_tt (s := s.extract 0 i) (l := [60, 61]) (by rw [hT]; exact e4)
        have HR := Lib.hid (show boundL s.data.toList = some (0, n + 1) by rw [HQ2.out]; unfold signL; rw [if_neg e0]; rw [if_neg e1]; rw [if_neg e2]; rw [if_neg e3]; rw [if_pos e4, HN.out])
        clear hT e0 e1 e2 e3 e4
        go_wp2_with fail
        refine bodyPost_ret (bound_results rfl rfl (two_set HK7.out _ _)) rfl ?_
        exact ⟨bq_some HR.out, below_two hB7 (Nat.le_refl _) _ _⟩
      by_cases e5 : s.data.toList.take i = [94]
      · have k0 := str_ff (s := s.extract 0 i) (l := [61]) (by rw [hT]; exact e0)
        have k1 := str_ff (s := s.extract 0 i) (l := [62, 61]) (by rw [hT]; exact e1)
        have k2 := str_ff (s := s.extract 0 i) (l := [62]) (by rw [hT]; exact e2)
        have k3 := str_ff (s := s.extract 0 i) (l := [60]) (by rw [hT]; exact e3)
        have k4 := str_ff (s := s.extract 0 i) (l := [60, 61]) (by rw [hT]; exact e4)
        have k5 := str_tt (s := s.extract 0 i) (l := [94]) (by rw [hT]; exact e5)
        have HR := Lib.hid (show boundL s.data.toList = some (n, (a + 1) * 1000000) by rw [HQ2.out]; unfold signL; rw [if_neg e0]; rw [if_neg e1]; rw [if_neg e2]; rw [if_neg e3]; rw [if_neg e4]; rw [if_pos e5, HN.out])
        clear hT e0 e1 e2 e3 e4 e5
        go_wp2_with fail
        refine bodyPost_ret (bound_results rfl rfl (two_set HK7.out _ _)) rfl ?_
        exact ⟨bq_some HR.out, below_two hB7 (Nat.le_refl _) _ _⟩
      by_cases e6 : s.data.toList.take i = [126]
      · have k0 := str_ff (s := s.extract 0 i) (l := [61]) (by rw [hT]; exact e0)
        have k1 := str_ff (s := s.extract 0 i) (l := [62, 61]) (by rw [hT]; exact e1)
        have k2 := str_ff (s := s.extract 0 i) (l := [62]) (by rw [hT]; exact e2)
        have k3 := str_ff (s := s.extract 0 i) (l := [60]) (by rw [hT]; exact e3)
        have k4 := str_ff (s := s.extract 0 i) (l := [60, 61]) (by rw [hT]; exact e4)
        have k5 := str_ff (s := s.extract 0 i) (l := [94]) (by rw [hT]; exact e5)
        have k6 := str_tt (s := s.extract 0 i) (l := [126]) (by rw [hT]; exact e6)
        have HR := Lib.hid (show boundL s.data.toList = some (n, (a * 1000 + b + 1) * 1000) by rw [HQ2.out]; unfold signL; rw [if_neg e0]; rw [if_neg e1]; rw [if_neg e2]; rw [if_neg e3]; rw [if_neg e4]; rw [if_neg e5]; rw [if_pos e6, HN.out])
        clear hT e0 e1 e2 e3 e4 e5 e6
        go_wp2_with fail
        refine bodyPost_ret (bound_results rfl rfl (two_set HK7.out _ _)) rfl ?_
        exact ⟨bq_some HR.out, below_two hB7 (Nat.le_refl _) _ _⟩
      have k0 := str_ff (s := s.extract 0 i) (l := [61]) (by rw [hT]; exact e0)
      have k1 := str_ff (s := s.extract 0 i) (l := [62, 61]) (by rw [hT]; exact e1)
      have k2 := str_ff (s := s.extract 0 i) (l := [62]) (by rw [hT]; exact e2)
      have k3 := str_ff (s := s.extract 0 i) (l := [60]) (by rw [hT]; exact e3)
      have k4 := str_ff (s := s.extract 0 i) (l := [60, 61]) (by rw [hT]; exact e4)
      have k5 := str_ff (s := s.extract 0 i) (l := [94]) (by rw [hT]; exact e5)
      have k6 := str_ff (s := s.extract 0 i) (l := [126]) (by rw [hT]; exact e6)
      have HR := Lib.hid (show boundL s.data.toList = none by rw [HQ2.out]; unfold signL; rw [if_neg e0]; rw [if_neg e1]; rw [if_neg e2]; rw [if_neg e3]; rw [if_neg e4]; rw [if_neg e5]; rw [if_neg e6])
      clear hT e0 e1 e2 e3 e4 e5 e6
      go_wp2_with fail
      refine bodyPost_ret (bound_results rfl rfl (two_set HK7.out _ _)) rfl ?_
      exact ⟨bq_none HR.out _, below_two hB7 (Nat.le_refl _) _ _⟩
end Sg
end Go.Proofs.YtflhmoelenmomaaGreatDoor
