/-
  Plain: a recipe that is printed is read as it is; what is read can be.
-/
import Derived.Test.YtcigggffaofkhaaRpR
import Derived.Test.YtcigggffaofkhaaRcB
namespace Go.Proofs.Ytcigggffaofkhaa
open Go.RowKit
namespace Rc

/-! printed, then read -/
def goodF (f : Int × E × E) : Prop := (f.1 = 1 ∨ f.1 = 2 ∨ f.1 = 3) ∧ Wf f.2.1 ∧ Wf f.2.2
def wKw (k : Int) : List UInt8 := if k = 1 then [116, 111, 111, 108] else if k = 2 then [98, 117, 105, 108, 100] else [114, 117, 110]
theorem wKw_eq (k : Int) : wKind k = wKw k ++ [32] := by unfold wKind wKw; split <;> (try split) <;> rfl
theorem kw_word {k : Int} (h : k = 1 ∨ k = 2 ∨ k = 3) (p q : Nat) : wKw k ≠ [] ∧ (wKw k).all letter = true ∧ wKw k ≠ [43] ∧ (fieldK ⟨1, ⟨(wKw k).toArray⟩, p, q⟩ : Int) = k ∧ fieldK ⟨1, ⟨(wKw k).toArray⟩, p, q⟩ ≠ 0 := by
  rcases h with rfl | rfl | rfl
  · refine ⟨by decide, by decide, by decide, ?_⟩
    have : fieldK ⟨1, ⟨(wKw 1).toArray⟩, p, q⟩ = 1 := by unfold fieldK; rw [if_pos (show isW ⟨1, ⟨(wKw 1).toArray⟩, p, q⟩ [116, 111, 111, 108] = true from isW_mk (k := 1) [116, 111, 111, 108] p q (.inl rfl))]
    rw [this]
    decide
  · refine ⟨by decide, by decide, by decide, ?_⟩
    have : fieldK ⟨1, ⟨(wKw 2).toArray⟩, p, q⟩ = 2 := by
      unfold fieldK
      rw [if_neg (by rw [isW_no _ _ (by decide)]; decide), if_pos (show isW ⟨1, ⟨(wKw 2).toArray⟩, p, q⟩ [98, 117, 105, 108, 100] = true from isW_mk (k := 1) [98, 117, 105, 108, 100] p q (.inl rfl))]
    rw [this]
    decide
  · refine ⟨by decide, by decide, by decide, ?_⟩
    have : fieldK ⟨1, ⟨(wKw 3).toArray⟩, p, q⟩ = 3 := by
      unfold fieldK
      rw [if_neg (by rw [isW_no _ _ (by decide)]; decide), if_neg (by rw [isW_no _ _ (by decide)]; decide), if_pos (show isW ⟨1, ⟨(wKw 3).toArray⟩, p, q⟩ [114, 117, 110] = true from isW_mk (k := 1) [114, 117, 110] p q (.inl rfl))]
    rw [this]
    decide
theorem fields_reads : ∀ (l : List (Int × E × E)), (∀ f ∈ l, goodF f) → ∀ (s : List UInt8) (p : Nat), s.drop p = 10 :: l.flatMap fieldL → ∃ t, tokAt s p = .ok t ∧ isW t [43] = false ∧
    ∀ (m : Nat) (acc : List (Int × E × E)), l.length < m → acc.length + l.length ≤ 20 → ∃ t', Rd (fieldsP s (exprP s (termP s 32)) m t acc) (acc ++ l) t'
  | [], _, s, p, hd => by
    refine ⟨_, tokp_fin okSp_nl (by simpa using hd), rfl, fun m acc hm _ => ?_⟩
    obtain ⟨m, rfl⟩ : ∃ k, m = k + 1 := ⟨m - 1, by simp at hm; omega⟩
    rw [fieldsP, if_pos rfl, List.append_nil]
    exact ⟨_, Rd.ok _ _⟩
  | f :: l, hg, s, p, hd => by
    obtain ⟨hk, ha, hb⟩ := hg f (List.mem_cons_self ..)
    have hd0 : s.drop p = [10] ++ (wKw f.1 ++ (32 :: (textE f.2.1 ++ ([32] ++ (textE f.2.2 ++ (10 :: l.flatMap fieldL)))))) := by rw [hd]; simp [fieldL, wKw_eq]
    obtain ⟨k1, k2, k3, k4, k5⟩ := kw_word hk (p + [(10 : UInt8)].length) (p + [(10 : UInt8)].length + (wKw f.1).length)
    obtain ⟨t0, e0⟩ := wordq_at okSp_nl hd0 k1 k2
    obtain ⟨ta, a1, a2, a3, a4⟩ := (reads_any _ ha).1 s _ [32] _ okSp_sp e0 (sepr_cons (by decide))
    have e1 := drop2 (a := [32]) e0
    obtain ⟨tb, b1, b2, b3, b4⟩ := (reads_any _ hb).1 s _ [32] _ okSp_sp e1 (sepr_cons (by decide))
    have e2 := drop2 (a := [32]) e1
    obtain ⟨tc, c1, c2, c3⟩ := fields_reads l (fun g hg' => hg g (List.mem_cons_of_mem _ hg')) s _ e2
    refine ⟨_, t0, isW_no _ _ k3, fun m acc hm hn => ?_⟩
    obtain ⟨m, rfl⟩ : ∃ k, m = k + 1 := ⟨m - 1, by simp at hm; omega⟩
    simp only [List.length_cons] at hm hn
    obtain ⟨t', h'⟩ := c3 m (acc ++ [(f.1, f.2.1, f.2.2)]) (by omega) (by simp; omega)
    refine ⟨t', ?_⟩
    rw [fieldsP, if_neg (by simp), if_neg k5, if_neg (by omega)]
    refine Rd.bind (step_rd a1) ?_
    refine Rd.bind (a4 32 _ b1 (fun _ => b2)) ?_
    refine Rd.bind (b4 32 _ c1 (fun _ => c2)) ?_
    rw [k4]
    simpa using h'
theorem source_reads (x : Src) (hn : Wf x.name) (hv : Wf x.version) (hf : ∀ f ∈ x.fields, goodF f) (h20 : x.fields.length ≤ 20) : ∃ t, Rd (sourceP (textS x)) x t := by
  have hd0 : (textS x).drop 0 = [] ++ ([112, 97, 99, 107, 97, 103, 101] ++ (32 :: (textE x.name ++ ([10] ++ ([118, 101, 114, 115, 105, 111, 110] ++ (32 :: (textE x.version ++ (10 :: x.fields.flatMap fieldL)))))))) := by simp [textS, wPack, wVers]
  generalize textS x = s at *
  obtain ⟨t0, e0⟩ := wordq_at okSp_nil hd0 (by decide) (by decide)
  obtain ⟨ta, a1, a2, a3, a4⟩ := (reads_any _ hn).1 s _ [32] _ okSp_sp e0 (sepr_cons (by decide))
  have e1 := drop2 (a := [32]) e0
  obtain ⟨t1, e2⟩ := wordq_at okSp_nl e1 (by decide) (by decide)
  obtain ⟨tb, b1, b2, b3, b4⟩ := (reads_any _ hv).1 s _ [32] _ okSp_sp e2 (sepr_cons (by decide))
  have e3 := drop2 (a := [32]) e2
  obtain ⟨tc, c1, c2, c3⟩ := fields_reads x.fields hf s _ e3
  have hlen : x.fields.length ≤ s.length := by
    have h1 := congrArg List.length e3
    have h2 : ∀ l : List (Int × E × E), l.length ≤ (l.flatMap fieldL).length := fun l => by
      induction l with
      | nil => simp
      | cons f l ih => rw [List.flatMap_cons, List.length_append, List.length_cons]; have : 1 ≤ (fieldL f).length := by simp [fieldL]; omega
                       omega
    have := h2 x.fields
    simp only [List.length_drop, List.length_cons] at h1
    omega
  obtain ⟨t', h'⟩ := c3 (s.length + 1) [] (by omega) (by simpa using h20)
  refine ⟨t', ?_⟩
  unfold sourceP
  rw [t0]
  simp only
  refine Rd.bind (want_rd (isW_mk (k := 1) [112, 97, 99, 107, 97, 103, 101] _ _ (.inl rfl)) a1) ?_
  refine Rd.bind (a4 32 _ t1 (fun _ => isW_no (w := [118, 101, 114, 115, 105, 111, 110]) _ _ (by decide))) ?_
  refine Rd.bind (want_rd (isW_mk (k := 1) [118, 101, 114, 115, 105, 111, 110] _ _ (.inl rfl)) b1) ?_
  refine Rd.bind (b4 32 _ c1 (fun _ => c2)) ?_
  refine Rd.bind h' ?_
  exact Rd.ok _ _
theorem good_wf {x : E} (h : goodE x = true) : Wf x := (count_le x 0 4096 (by decide)).2.2 (by simpa [goodE] using h)
theorem goodS_parts {x : Src} (h : goodS x = true) : Wf x.name ∧ Wf x.version ∧ x.fields.length ≤ 20 ∧ ∀ f ∈ x.fields, goodF f := by
  simp only [goodS, Bool.and_eq_true, decide_eq_true_eq, List.all_eq_true] at h
  obtain ⟨⟨⟨h1, h2⟩, h3⟩, h4⟩ := h
  refine ⟨good_wf h1, good_wf h2, h3, fun f hf => ?_⟩
  obtain ⟨⟨⟨a, b⟩, c⟩, d⟩ := h4 f hf
  exact ⟨by omega, good_wf c, good_wf d⟩
/-- WHAT CAN BE PRINTED IS READ AS IT IS, or it is too deep -/
theorem print_parse {x : Src} (h : goodS x = true) (hl : (textS x).length ≤ 4096) : parseP (textS x) = .ok x ∨ ∃ q, parseP (textS x) = .bad q 4 := by
  obtain ⟨h1, h2, h3, h4⟩ := goodS_parts h
  obtain ⟨t, hr | ⟨q, hr⟩⟩ := source_reads x h1 h2 h4 h3
  · left; unfold parseP; rw [if_neg (by omega), hr]
  · right; exact ⟨q, by unfold parseP; rw [if_neg (by omega), hr]⟩

/-! what is read can be -/
mutual
def dpE : E → Nat
  | .mk _ _ ks => 1 + dpEs ks
def dpEs : List E → Nat
  | [] => 0
  | x :: l => max (dpE x) (dpEs l)
end
mutual
def npE : E → Nat
  | .mk _ _ ks => 1 + npEs ks
def npEs : List E → Nat
  | [] => 0
  | x :: l => npE x + npEs l
end
theorem dpEs_mem {l : List E} {x : E} (h : x ∈ l) : dpE x ≤ dpEs l := by
  induction l with
  | nil => simp at h
  | cons y l ih =>
    rw [dpEs]
    rcases List.mem_cons.1 h with rfl | h
    · omega
    · have := ih h; omega
theorem counts_eq (l : List E) (d : Nat) (ih : ∀ x ∈ l, ∀ m : Int, (npE x : Int) ≤ m → count x d m = m - npE x) : ∀ m : Int, (npEs l : Int) ≤ m → counts l d m = m - npEs l := by
  induction l with
  | nil => intro m _; rw [counts, npEs]; simp
  | cons x l ihl =>
    intro m hm
    rw [npEs] at hm ⊢
    rw [counts, if_neg (by omega), ih x (List.mem_cons_self ..) m (by omega), ihl (fun y hy => ih y (List.mem_cons_of_mem _ hy)) _ (by omega)]
    omega
theorem count_eq (x : E) : Wf x → ∀ d, d + dpE x ≤ 64 → ∀ m : Int, (npE x : Int) ≤ m → count x d m = m - npE x := by
  refine Eind (P := fun x => Wf x → ∀ d, d + dpE x ≤ 64 → ∀ m : Int, (npE x : Int) ≤ m → count x d m = m - npE x) (fun k s ks ih hw d hd m hm => ?_) x
  obtain ⟨hp, hk⟩ := wf_mk hw
  rw [dpE] at hd
  rw [npE] at hm ⊢
  rw [count, if_neg (by rw [hp]; simp; omega), counts_eq ks (d + 1) (fun y hy m hm => ih y hy (hk y hy) (d + 1) (by have := dpEs_mem hy; omega) m hm) _ (by omega)]
  omega
/-- an expression of few parts, not deep -/
structure OkX (x : E) (h n : Nat) : Prop where
  wf : Wf x
  dep : dpE x ≤ h
  np : npE x ≤ n
  wt : sizeW x ≤ 2 * n
theorem OkX.good {x : E} {h n : Nat} (o : OkX x h n) (hh : h ≤ 64) (hn : n ≤ 4096) : goodE x = true := by
  have h1 := o.dep
  have h2 := o.np
  unfold goodE
  rw [count_eq x o.wf 0 (by omega) 4096 (by omega)]
  simp
  omega
theorem OkX.up {x : E} {h n h' n' : Nat} (o : OkX x h n) (hh : h ≤ h') (hn : n ≤ n') : OkX x h' n' := ⟨o.wf, Nat.le_trans o.dep hh, Nat.le_trans o.np hn, Nat.le_trans o.wt (by omega)⟩
theorem strF_ge : ∀ (f : Nat) (l : List UInt8) (x : List UInt8) (n : Nat), strF f l = some (x, n) → x.length + 1 ≤ n
  | 0, l, x, n, h => by simp [strF] at h
  | f + 1, [], x, n, h => by simp [strF] at h
  | f + 1, c :: l, x, n, h => by
    unfold strF at h
    split at h
    · simp at h; obtain ⟨rfl, rfl⟩ := h; simp
    · split at h
      · cases h
      · split at h
        · obtain ⟨⟨y, k⟩, hy, he⟩ := Option.map_eq_some_iff.1 h
          have := strF_ge f l y k hy
          simp at he
          obtain ⟨rfl, rfl⟩ := he
          simp only [List.length_cons]
          omega
        · match l, h with
          | a :: b :: r, h =>
            simp only at h
            split at h
            · cases h
            · obtain ⟨⟨y, k⟩, hy, he⟩ := Option.map_eq_some_iff.1 h
              have := strF_ge f r y k hy
              simp at he
              obtain ⟨rfl, rfl⟩ := he
              simp only [List.length_cons]
              omega
          | [a], h => simp at h
          | [], h => simp at h
/-- a token that was read -/
structure Tok (s : List UInt8) (t : Tk) : Prop where
  at_ : tokP s t.pl = .ok t
  le : t.fin ≤ s.length
theorem tokP_len {s : List UInt8} {p : Nat} {t : Tk} (h : tokP s p = .ok t) : t.pl = p ∧ t.s.size ≤ t.fin - p ∧ (t.fin ≤ s.length ∨ (t.kind = 0 ∧ t.fin = p)) := by
  unfold tokP at h
  cases hd : s.drop p with
  | nil =>
    rw [hd] at h
    simp only [RT.ok.injEq] at h
    subst h
    exact ⟨rfl, Nat.zero_le _, .inr ⟨rfl, rfl⟩⟩
  | cons c l =>
    have hl := congrArg List.length hd
    simp only [List.length_drop, List.length_cons] at hl
    rw [hd] at h
    simp only at h
    split at h
    · split at h
      · rename_i x n hs
        simp only [RT.ok.injEq] at h
        subst h
        have h1 := strF_ge _ _ _ _ hs
        have h2 : n ≤ l.length := strF_le _ _ _ _ hs
        refine ⟨rfl, ?_, .inl ?_⟩
        · show x.length ≤ p + 1 + n - p; omega
        · show p + 1 + n ≤ s.length; omega
      · cases h
    · split at h
      · simp only [RT.ok.injEq] at h
        subst h
        exact ⟨rfl, by show 1 ≤ p + 1 - p; omega, .inl (by show p + 1 ≤ s.length; omega)⟩
      · split at h
        · cases h
        · simp only [RT.ok.injEq] at h
          subst h
          have h1 : wordN (c :: l) ≤ (c :: l).length := by unfold wordN; exact (List.takeWhile_sublist _).length_le
          simp only [List.length_cons] at h1
          refine ⟨rfl, ?_, .inl ?_⟩
          · show ((c :: l).take (wordN (c :: l))).length ≤ p + wordN (c :: l) - p
            rw [List.length_take]
            omega
          · show p + wordN (c :: l) ≤ s.length; omega
theorem skipL_le : ∀ (l : List UInt8) (note : Bool), skipL note l ≤ l.length
  | [], _ => by simp [skipL]
  | c :: l, note => by
    unfold skipL
    split
    · have := skipL_le l (c == 35 || (note && c != 10))
      simp only [List.length_cons]
      omega
    · simp
theorem tok_tok {s : List UInt8} {p : Nat} {t : Tk} (hp : p ≤ s.length) (h : tokAt s p = .ok t) : Tok s t ∧ p ≤ t.pl := by
  unfold tokAt at h
  obtain ⟨h1, h2, h3⟩ := tokP_len h
  have h4 := skipL_le (s.drop p) false
  rw [List.length_drop] at h4
  refine ⟨⟨by rw [h1]; exact h, ?_⟩, by omega⟩
  rcases h3 with h3 | ⟨-, h3⟩ <;> omega
theorem Tok.lt {s : List UInt8} {t : Tk} (h : Tok s t) : t.pl ≤ t.fin ∧ t.s.size ≤ t.fin - t.pl ∧ (t.kind ≠ 0 → t.pl < t.fin) := by
  have h1 := tokP_prog h.at_
  exact ⟨h1.1, (tokP_len h.at_).2.1, h1.2⟩
theorem step_tok {s : List UInt8} {t t' : Tk} {u : Unit} (h : stepT s t = .ok u t') (ht : Tok s t) : Tok s t' ∧ t.fin ≤ t'.pl := by
  unfold stepT at h
  split at h
  · rename_i t1 h1
    cases h
    exact tok_tok ht.le h1
  · cases h
theorem want_tok {s w : List UInt8} {t t' : Tk} {u : Unit} (h : wantT s w t = .ok u t') (ht : Tok s t) : Tok s t' ∧ t.pl < t'.pl := by
  unfold wantT at h
  split at h
  · rename_i hw
    have h1 := step_tok h ht
    have h2 := ht.lt.2.2 (isW_kind hw)
    exact ⟨h1.1, by omega⟩
  · cases h
def OkF (s : List UInt8) (f : Tk → Res E) (H : Nat) : Prop := ∀ t x t', Tok s t → f t = .ok x t' → Tok s t' ∧ t.pl ≤ t'.pl ∧ OkX x H (t'.pl - t.pl)
theorem sum_okx {s : List UInt8} {f : Tk → Res E} {H : Nat} (hf : OkF s f H) : ∀ (m : Nat) (t : Tk) (acc l : List E) (t' : Tk), sumP s f m t acc = .ok l t' → Tok s t →
    ∃ l2, l = acc ++ l2 ∧ Tok s t' ∧ t.pl ≤ t'.pl ∧ (∀ x ∈ l2, Wf x) ∧ dpEs l2 ≤ H ∧ npEs l2 + l2.length ≤ t'.pl - t.pl ∧ sizeWs l2 + l2.length ≤ 2 * (t'.pl - t.pl)
  | 0, t, acc, l, t', h, _ => by cases h
  | m + 1, t, acc, l, t', h, ht => by
    unfold sumP at h
    split at h
    · rename_i hw
      obtain ⟨_, t1, h1, h⟩ := bind_ok h
      obtain ⟨y, t2, h2, h⟩ := bind_ok h
      have a1 := step_tok h1 ht
      have a2 := ht.lt.2.2 (isW_kind hw)
      obtain ⟨b1, b2, b3⟩ := hf _ _ _ a1.1 h2
      obtain ⟨l2, rfl, c2, c3, c4, c5, c6, c7⟩ := sum_okx hf m t2 _ l t' h b1
      have := b3.dep
      have := b3.np
      have := b3.wt
      refine ⟨y :: l2, by simp, c2, by omega, fun x hx => ?_, ?_, ?_, ?_⟩
      · rcases List.mem_cons.1 hx with rfl | hx
        · exact b3.wf
        · exact c4 x hx
      · rw [dpEs]; omega
      · rw [npEs, List.length_cons]; omega
      · rw [sizeWs, List.length_cons]; omega
    · cases h
      exact ⟨[], by simp, ht, Nat.le_refl _, by simp, by simp [dpEs], by simp [npEs], by simp [sizeWs]⟩
theorem expr_okx {s : List UInt8} {f : Tk → Res E} {H : Nat} (hf : OkF s f H) : OkF s (exprP s f) (H + 1) := by
  intro t x t' ht h
  unfold exprP at h
  obtain ⟨y, t1, h1, h⟩ := bind_ok h
  obtain ⟨l, t2, h2, h⟩ := bind_ok h
  simp only [Res.ok.injEq] at h
  obtain ⟨rfl, rfl⟩ := h
  obtain ⟨a1, a2, a3⟩ := hf _ _ _ ht h1
  obtain ⟨l2, hl, c2, c3, c4, c5, c6, c7⟩ := sum_okx hf _ _ _ _ _ h2 a1
  rw [List.nil_append] at hl
  subst hl
  refine ⟨c2, by omega, ?_⟩
  unfold catE
  split
  · exact a3.up (by omega) (by omega)
  · rename_i hne
    have : 1 ≤ l.length := by cases l with | nil => exact absurd rfl hne | cons _ _ => simp
    have e1 := a3.dep
    have e2 := a3.np
    have e3 := a3.wt
    have e4 := a3.wf
    refine ⟨.mk 3 _ _ (by unfold partOk; simp; omega) (fun x hx => ?_), ?_, ?_, ?_⟩
    · rcases List.mem_cons.1 hx with rfl | hx
      · exact e4
      · exact c4 x hx
    · rw [dpE, dpEs]; omega
    · rw [npE, npEs]; omega
    · rw [sizeW, sizeWs]; show 1 + 0 + _ ≤ _; omega
theorem term_okx (s : List UInt8) : ∀ h, OkF s (termP s h) (2 * h - 1)
  | 0, t, x, t', ht, h => by
    unfold termP at h
    split at h <;> cases h
  | n + 1, t, x, t', ht, h => by
    have ih : OkF s (exprP s (termP s n)) (2 * n) := by
      cases n with
      | zero =>
        intro t x t' ht h
        obtain ⟨a, b, c⟩ := expr_okx (term_okx s 0) t x t' ht h
        unfold exprP at h
        obtain ⟨y, t1, h1, h⟩ := bind_ok h
        unfold termP at h1
        split at h1 <;> cases h1
      | succ n => exact expr_okx (term_okx s (n + 1))
    unfold termP at h
    split at h
    · cases h
    · rename_i hok
      obtain ⟨_, t1, h1, h⟩ := bind_ok h
      obtain ⟨s1, s2⟩ := step_tok h1 ht
      have hk0 : t.kind ≠ 0 := by
        intro e
        apply hok
        simp [termOk, isW, e]
      obtain ⟨q1, q2, q3⟩ := ht.lt
      have q3 := q3 hk0
      split at h
      · cases h
        refine ⟨s1, by omega, .mk 1 _ _ (by unfold partOk; simp) (by simp), ?_, ?_, ?_⟩
        · rw [dpE, dpEs]; omega
        · rw [npE, npEs]; omega
        · rw [sizeW, sizeWs]; omega
      · rename_i hk3
        split at h
        · obtain ⟨x1, t2, h2, h⟩ := bind_ok h
          obtain ⟨_, t3, h3, h⟩ := bind_ok h
          cases h
          obtain ⟨b1, b2, b3⟩ := ih _ _ _ s1 h2
          obtain ⟨c1, c2⟩ := want_tok h3 b1
          exact ⟨c1, by omega, b3.up (by omega) (by omega)⟩
        · split at h
          · obtain ⟨x1, t2, h2, h⟩ := bind_ok h
            obtain ⟨_, t3, h3, h⟩ := bind_ok h
            obtain ⟨x2, t4, h4, h⟩ := bind_ok h
            obtain ⟨_, t5, h5, h⟩ := bind_ok h
            obtain ⟨x3, t6, h6, h⟩ := bind_ok h
            obtain ⟨_, t7, h7, h⟩ := bind_ok h
            obtain ⟨x4, t8, h8, h⟩ := bind_ok h
            cases h
            obtain ⟨b1, b2, b3⟩ := ih _ _ _ s1 h2
            obtain ⟨c1, c2⟩ := want_tok h3 b1
            obtain ⟨d1, d2, d3⟩ := ih _ _ _ c1 h4
            obtain ⟨e1, e2⟩ := want_tok h5 d1
            obtain ⟨f1, f2, f3⟩ := ih _ _ _ e1 h6
            obtain ⟨g1, g2⟩ := want_tok h7 f1
            obtain ⟨i1, i2, i3⟩ := ih _ _ _ g1 h8
            have := b3.dep
            have := d3.dep
            have := f3.dep
            have := i3.dep
            have := b3.np
            have := d3.np
            have := f3.np
            have := i3.np
            have := b3.wt
            have := d3.wt
            have := f3.wt
            have := i3.wt
            refine ⟨i1, by omega, .mk 4 _ _ (by unfold partOk; simp) (fun x hx => ?_), ?_, ?_, ?_⟩
            · simp only [List.mem_cons, List.not_mem_nil, or_false] at hx
              rcases hx with rfl | rfl | rfl | rfl
              · exact b3.wf
              · exact d3.wf
              · exact f3.wf
              · exact i3.wf
            · simp only [dpE, dpEs]; omega
            · simp only [npE, npEs]; omega
            · simp only [sizeW, sizeWs]; show 1 + 0 + _ ≤ _; omega
          · split at h
            · split at h
              · rename_i hnm
                obtain ⟨_, t2, h2, h⟩ := bind_ok h
                obtain ⟨_, t3, h3, h⟩ := bind_ok h
                obtain ⟨x1, t4, h4, h⟩ := bind_ok h
                obtain ⟨_, t5, h5, h⟩ := bind_ok h
                obtain ⟨x2, t6, h6, h⟩ := bind_ok h
                cases h
                obtain ⟨u1, u2, u3⟩ := s1.lt
                obtain ⟨b1, b2⟩ := step_tok h2 s1
                obtain ⟨c1, c2⟩ := want_tok h3 b1
                obtain ⟨d1, d2, d3⟩ := ih _ _ _ c1 h4
                obtain ⟨e1, e2⟩ := want_tok h5 d1
                obtain ⟨f1, f2, f3⟩ := ih _ _ _ e1 h6
                have := d3.dep
                have := f3.dep
                have := d3.np
                have := f3.np
                have := d3.wt
                have := f3.wt
                refine ⟨f1, by omega, .mk 5 _ _ (by unfold partOk; simp [hnm.2]) (fun x hx => ?_), ?_, ?_, ?_⟩
                · simp only [List.mem_cons, List.not_mem_nil, or_false] at hx
                  rcases hx with rfl | rfl
                  · exact d3.wf
                  · exact f3.wf
                · simp only [dpE, dpEs]; omega
                · simp only [npE, npEs]; omega
                · simp only [sizeW, sizeWs]; omega
              · cases h
            · cases h
              rename_i w1 w2 w3
              have hname : nameL t.s.data.toList = true := by
                have hok' : termOk t = true := by simpa using hok
                unfold termOk at hok'
                rw [Bool.eq_false_iff.2 w1, Bool.eq_false_iff.2 w2, Bool.eq_false_iff.2 w3, show (t.kind == 3) = false by simpa using hk3] at hok'
                simp at hok'
                exact hok'.2
              refine ⟨s1, by omega, .mk 2 _ _ (by unfold partOk; simp [hname]) (by simp), ?_, ?_, ?_⟩
              · rw [dpE, dpEs]; omega
              · rw [npE, npEs]; omega
              · rw [sizeW, sizeWs]; omega
theorem top_okx (s : List UInt8) : OkF s (exprP s (termP s 32)) 64 := expr_okx (term_okx s 32)
def okFd (f : Int × E × E) : Prop := (f.1 = 1 ∨ f.1 = 2 ∨ f.1 = 3) ∧ OkX f.2.1 64 4096 ∧ OkX f.2.2 64 4096
theorem fieldK_val (t : Tk) (h : fieldK t ≠ 0) : ((fieldK t : Nat) : Int) = 1 ∨ ((fieldK t : Nat) : Int) = 2 ∨ ((fieldK t : Nat) : Int) = 3 := by
  unfold fieldK at *
  split at h <;> rename_i h1
  · rw [if_pos h1]; exact .inl rfl
  · rw [if_neg h1]
    split at h <;> rename_i h2
    · rw [if_pos h2]; exact .inr (.inl rfl)
    · rw [if_neg h2]
      split at h <;> rename_i h3
      · rw [if_pos h3]; exact .inr (.inr rfl)
      · exact absurd rfl h
theorem Tok.small {s : List UInt8} {t : Tk} (h : Tok s t) (hs : s.length ≤ 4096) : t.pl ≤ 4096 := by
  have := h.lt.1
  have := h.le
  omega
theorem fields_okx {s : List UInt8} (hs : s.length ≤ 4096) : ∀ (m : Nat) (t : Tk) (acc l : List (Int × E × E)) (t' : Tk), fieldsP s (exprP s (termP s 32)) m t acc = .ok l t' → Tok s t → acc.length ≤ 20 → (∀ x ∈ acc, okFd x) → (∀ x ∈ l, okFd x) ∧ l.length ≤ 20
  | 0, t, acc, l, t', h, _, _, _ => by cases h
  | m + 1, t, acc, l, t', h, ht, hn, ha => by
    unfold fieldsP at h
    split at h
    · cases h
      exact ⟨ha, hn⟩
    · split at h
      · cases h
      · rename_i hk
        split at h
        · cases h
        · obtain ⟨_, t1, h1, h⟩ := bind_ok h
          obtain ⟨a, t2, h2, h⟩ := bind_ok h
          obtain ⟨b, t3, h3, h⟩ := bind_ok h
          obtain ⟨s1, -⟩ := step_tok h1 ht
          obtain ⟨a1, a2, a3⟩ := top_okx s _ _ _ s1 h2
          obtain ⟨b1, b2, b3⟩ := top_okx s _ _ _ a1 h3
          refine fields_okx hs m t3 _ l t' h b1 (by simp; omega) (fun x hx => ?_)
          rw [List.mem_append, List.mem_singleton] at hx
          rcases hx with hx | rfl
          · exact ha x hx
          · exact ⟨fieldK_val t hk, a3.up (Nat.le_refl _) (by have := a1.small hs; omega), b3.up (Nat.le_refl _) (by have := b1.small hs; omega)⟩
/-- WHAT IS READ CAN BE -/
theorem parse_okx {s : List UInt8} {x : Src} (h : parseP s = .ok x) : OkX x.name 64 4096 ∧ OkX x.version 64 4096 ∧ x.fields.length ≤ 20 ∧ ∀ f ∈ x.fields, okFd f := by
  unfold parseP at h
  split at h
  · cases h
  · rename_i hs
    have hs : s.length ≤ 4096 := by omega
    cases hr : sourceP s with
    | bad p e => rw [hr] at h; cases h
    | ok y t =>
      rw [hr] at h
      simp only [Out.ok.injEq] at h
      subst h
      unfold sourceP at hr
      cases h0 : tokAt s 0 with
      | bad p => rw [h0] at hr; cases hr
      | ok t0 =>
        rw [h0] at hr
        simp only at hr
        obtain ⟨k0, -⟩ := tok_tok (Nat.zero_le _) h0
        obtain ⟨_, t1, h1, hr⟩ := bind_ok hr
        obtain ⟨a, t2, h2, hr⟩ := bind_ok hr
        obtain ⟨_, t3, h3, hr⟩ := bind_ok hr
        obtain ⟨b, t4, h4, hr⟩ := bind_ok hr
        obtain ⟨l, t5, h5, hr⟩ := bind_ok hr
        cases hr
        obtain ⟨k1, -⟩ := want_tok h1 k0
        obtain ⟨k2, -, o2⟩ := top_okx s _ _ _ k1 h2
        obtain ⟨k3, -⟩ := want_tok h3 k2
        obtain ⟨k4, -, o4⟩ := top_okx s _ _ _ k3 h4
        have hf := fields_okx hs _ _ _ _ _ h5 k4 (by simp) (by simp)
        exact ⟨o2.up (Nat.le_refl _) (by have := k2.small hs; omega), o4.up (Nat.le_refl _) (by have := k4.small hs; omega), hf.2, hf.1⟩
theorem parse_good {s : List UInt8} {x : Src} (h : parseP s = .ok x) : goodS x = true := by
  obtain ⟨h1, h2, h3, h4⟩ := parse_okx h
  simp only [goodS, Bool.and_eq_true, decide_eq_true_eq, List.all_eq_true]
  refine ⟨⟨⟨h1.good (Nat.le_refl _) (Nat.le_refl _), h2.good (Nat.le_refl _) (Nat.le_refl _)⟩, h3⟩, fun f hf => ?_⟩
  obtain ⟨a, b, c⟩ := h4 f hf
  exact ⟨⟨⟨by omega, by omega⟩, b.good (Nat.le_refl _) (Nat.le_refl _)⟩, c.good (Nat.le_refl _) (Nat.le_refl _)⟩
theorem part_kind {k : Int} {s : List UInt8} {n : Nat} (h : partOk k s n = true) : 1 ≤ k ∧ k ≤ 5 := by
  simp only [partOk, Bool.or_eq_true, Bool.and_eq_true, beq_iff_eq, decide_eq_true_eq] at h
  omega
theorem sizeWs_kid {l : List E} {x : E} (h : x ∈ l) : sizeW x + l.length ≤ sizeWs l + 1 := by
  have h1 : ∀ x : E, 1 ≤ sizeW x := fun x => by cases x; rw [sizeW]; omega
  have h2 : ∀ l : List E, l.length ≤ sizeWs l := fun l => by
    induction l with
    | nil => simp
    | cons y l ih => rw [sizeWs, List.length_cons]; have := h1 y; omega
  induction l with
  | nil => simp at h
  | cons y l ih =>
    rw [sizeWs, List.length_cons]
    rcases List.mem_cons.1 h with rfl | h
    · have := h2 l; omega
    · have := ih h; have := h1 y; omega
theorem sizeWs_len (l : List E) : l.length ≤ sizeWs l := by
  cases l with
  | nil => simp
  | cons x l => have := sizeWs_kid (List.mem_cons_self (a := x) (l := l)); have h1 : 1 ≤ sizeW x := by cases x; rw [sizeW]; omega
                omega
theorem sml_of (x : E) : Wf x → sizeW x ≤ 20000 → Sml x := by
  refine Eind (P := fun x => Wf x → sizeW x ≤ 20000 → Sml x) (fun k s ks ih hw hs => ?_) x
  obtain ⟨hp, hk⟩ := wf_mk hw
  have := part_kind hp
  rw [sizeW] at hs
  have := sizeWs_len ks
  refine .mk k s ks (by omega) (by omega) (by omega) (by omega) (fun y hy => ih y hy (hk y hy) ?_)
  have := sizeWs_kid hy
  have : 1 ≤ ks.length := List.length_pos_of_mem hy
  omega
end Rc
end Go.Proofs.Ytcigggffaofkhaa
