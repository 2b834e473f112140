/-
  Plain: what an expression means; the machine that finds it. No program in sight.
-/
import Derived.Test.YtflhmoelenmomaaGreatDoorMRcQ
namespace Go.Proofs.YtflhmoelenmomaaGreatDoor
open Go.RowKit
namespace Ev
open Rc

abbrev Sees := List (ByteArray × ByteArray)
/-- a meaning and how many were begun, or the error -/
inductive M
  | ok (s : ByteArray) (n : Nat)
  | bad (n : Nat) (e : Int)
def look : Sees → ByteArray → Option ByteArray
  | [], _ => none
  | p :: l, x => if p.1 = x then some p.2 else look l x
def fin (s : ByteArray) (n : Nat) : M := if 256 < s.size then .bad n 43 else .ok s n
mutual
def mean : E → Sees → Nat → M
  | .mk k s ks, l, n =>
    if n = 1000 then .bad n 52
    else if k = 1 then fin s (n + 1)
    else if k = 2 then (match look l s with | some t => fin t (n + 1) | none => .bad (n + 1) 51)
    else if k = 3 then meanCat ks l (n + 1) ⟨#[]⟩
    else if k = 4 then meanIf ks l (n + 1)
    else if k = 5 then meanLet ks s l (n + 1)
    else .ok ⟨#[]⟩ (n + 1)
def meanCat : List E → Sees → Nat → ByteArray → M
  | [], _, n, out => fin out n
  | x :: ks, l, n, out => match mean x l n with
    | .ok s n' => meanCat ks l n' (out ++ s)
    | .bad n' e => .bad n' e
def meanIf : List E → Sees → Nat → M
  | [a, b, c, d], l, n => match mean a l n with
    | .bad n' e => .bad n' e
    | .ok u n1 => match mean b l n1 with
      | .bad n' e => .bad n' e
      | .ok v n2 => if u = v then mean c l n2 else mean d l n2
  | _, _, n => .ok ⟨#[]⟩ n
def meanLet : List E → ByteArray → Sees → Nat → M
  | [a, b], x, l, n => match mean a l n with
    | .bad n' e => .bad n' e
    | .ok u n1 => mean b ((x, u) :: l) n1
  | _, _, _, n => .ok ⟨#[]⟩ n
end

/-! the machine -/
structure Fr where
  x : E
  vals : List ByteArray
  sees : Sees
/-- how a turn ends -/
inductive R
  | go (st : List Fr) (n : Nat)
  | all (s : ByteArray) (n : Nat)
  | bad (n : Nat) (e : Int)
def beginM (x : E) (l : Sees) (st : List Fr) (n : Nat) : R := if n = 1000 then .bad n 52 else .go (⟨x, [], l⟩ :: st) (n + 1)
def ret (s : ByteArray) : List Fr → Nat → R
  | [], n => .all s n
  | f :: st, n => .go (⟨f.x, f.vals ++ [s], f.sees⟩ :: st) n
def doneM (s : ByteArray) (st : List Fr) (n : Nat) : R := if 256 < s.size then .bad n 43 else ret s st n
def concat (vs : List ByteArray) : ByteArray := vs.foldl (· ++ ·) ⟨#[]⟩
theorem concat_snoc (vs : List ByteArray) (s : ByteArray) : concat (vs ++ [s]) = concat vs ++ s := by
  unfold concat
  rw [List.foldl_append]
  rfl
def E.s : E → ByteArray
  | .mk _ s _ => s
/-- a bit of the topmost expression -/
def turnM (f : Fr) (st : List Fr) (n : Nat) : R :=
  if f.x.kind = 1 then doneM (E.s f.x) st n
  else if f.x.kind = 2 then (match look f.sees (E.s f.x) with | some t => doneM t st n | none => .bad n 51)
  else if f.x.kind = 3 ∧ f.vals.length = f.x.kids.length then doneM (concat f.vals) st n
  else if (f.x.kind = 4 ∧ f.vals.length = 3) ∨ (f.x.kind = 5 ∧ f.vals.length = 2) then doneM (f.vals.getLast?.getD ⟨#[]⟩) st n
  else if f.x.kind = 4 ∧ f.vals.length = 2 ∧ f.vals[0]? ≠ f.vals[1]? then (match f.x.kids[3]? with | some k => beginM k f.sees (f :: st) n | none => .bad n 0)
  else if f.x.kind = 5 ∧ f.vals.length = 1 then (match f.x.kids[1]? with | some k => beginM k ((E.s f.x, f.vals[0]?.getD ⟨#[]⟩) :: f.sees) (f :: st) n | none => .bad n 0)
  else match f.x.kids[f.vals.length]? with | some k => beginM k f.sees (f :: st) n | none => .bad n 0
/-- where the machine ends -/
inductive Runs : R → M → Prop
  | all (s : ByteArray) (n : Nat) : Runs (.all s n) (.ok s n)
  | bad (n : Nat) (e : Int) : Runs (.bad n e) (.bad n e)
  | go (f : Fr) (st : List Fr) (n : Nat) (m : M) (h : Runs (turnM f st n) m) : Runs (.go (f :: st) n) m
theorem Runs.turn {f : Fr} {st : List Fr} {n : Nat} {m : M} (h : Runs (.go (f :: st) n) m) : Runs (turnM f st n) m := by
  cases h
  assumption
/-- behind a meaning the machine goes on with it -/
def BindR : M → List Fr → M → Prop
  | .ok s n, st, m => Runs (ret s st n) m
  | .bad n e, _, m => m = .bad n e
theorem done_runs {s : ByteArray} {st : List Fr} {n : Nat} {m : M} (h : BindR (fin s n) st m) : Runs (doneM s st n) m := by
  unfold fin at h
  unfold doneM
  split at h
  · rw [if_pos (by assumption)]
    rw [show m = .bad n 43 from h]
    exact .bad _ _
  · rw [if_neg (by assumption)]
    exact h
def KE (x : E) : Prop := ∀ l n st m, BindR (mean x l n) st m → Runs (beginM x l st n) m
theorem cat_runs (s : ByteArray) (ks : List E) (hk : ∀ x ∈ ks, KE x) (l : Sees) (st : List Fr) (m : M) : ∀ (todo done : List E) (vs : List ByteArray) (n : Nat), ks = done ++ todo → vs.length = done.length →
    BindR (meanCat todo l n (concat vs)) st m → Runs (.go (⟨.mk 3 s ks, vs, l⟩ :: st) n) m
  | [], done, vs, n, h1, h2, h3 => by
    rw [meanCat] at h3
    refine .go _ _ _ _ ?_
    unfold turnM
    rw [if_neg (by simp [E.kind]), if_neg (by simp [E.kind]), if_pos ⟨rfl, by show vs.length = ks.length; rw [h1]; simp [h2]⟩]
    exact done_runs h3
  | k :: todo, done, vs, n, h1, h2, h3 => by
    rw [meanCat] at h3
    refine .go _ _ _ _ ?_
    unfold turnM
    have hlen : ks.length = done.length + (todo.length + 1) := by rw [h1]; simp
    have hat : ks[vs.length]? = some k := by rw [h1, h2]; simp
    rw [if_neg (by simp [E.kind]), if_neg (by simp [E.kind]), if_neg (by show ¬ ((3 : Int) = 3 ∧ vs.length = ks.length); omega), if_neg (by simp [E.kind]), if_neg (by simp [E.kind]), if_neg (by simp [E.kind])]
    show Runs (match ks[vs.length]? with | some k => beginM k l (⟨.mk 3 s ks, vs, l⟩ :: st) n | none => .bad n 0) m
    rw [hat]
    refine hk k (by rw [h1]; simp) l n _ m ?_
    cases hm : mean k l n with
    | bad n' e => rw [hm] at h3; exact h3
    | ok t n' =>
      rw [hm] at h3
      show Runs (.go (⟨.mk 3 s ks, vs ++ [t], l⟩ :: st) n') m
      exact cat_runs s ks hk l st m todo (done ++ [k]) (vs ++ [t]) n' (by rw [h1]; simp) (by simp [h2]) (by rw [concat_snoc]; exact h3)
theorem fin_small {s t : ByteArray} {n n' : Nat} (h : fin s n = .ok t n') : t.size ≤ 256 := by
  unfold fin at h
  split at h
  · cases h
  · cases h
    omega
theorem cat_small : ∀ (ks : List E) (l : Sees) (n : Nat) (out s : ByteArray) (n' : Nat), meanCat ks l n out = .ok s n' → s.size ≤ 256
  | [], l, n, out, s, n', h => by
    rw [meanCat] at h
    exact fin_small h
  | x :: ks, l, n, out, s, n', h => by
    rw [meanCat] at h
    split at h
    · exact cat_small ks l _ _ s n' h
    · cases h
theorem mean_small (x : E) (hw : Wf x) : ∀ l n s n', mean x l n = .ok s n' → s.size ≤ 256 := by
  induction hw with
  | mk k s ks hp _ ih =>
    intro l n t n' h
    rw [mean] at h
    split at h
    · cases h
    split at h
    · exact fin_small h
    split at h
    · split at h
      · exact fin_small h
      · cases h
    split at h
    · exact cat_small ks l _ _ t n' h
    split at h
    · rename_i h4
      subst h4
      have hl : ks.length = 4 := by
        simp [partOk] at hp
        exact hp.1
      match ks, hl, ih, h with
      | [a, b, c, d], _, ih, h =>
        rw [meanIf] at h
        split at h
        · cases h
        split at h
        · cases h
        split at h
        · exact ih c (by simp) _ _ _ _ h
        · exact ih d (by simp) _ _ _ _ h
    split at h
    · rename_i h5
      subst h5
      have hl : ks.length = 2 := by
        simp [partOk] at hp
        exact hp.1
      match ks, hl, ih, h with
      | [a, b], _, ih, h =>
        rw [meanLet] at h
        split at h
        · cases h
        exact ih b (by simp) _ _ _ _ h
    · cases h
      show (0 : Nat) ≤ 256
      omega
theorem done_small {s : ByteArray} {st : List Fr} {n : Nat} (h : s.size ≤ 256) : doneM s st n = ret s st n := by
  unfold doneM
  rw [if_neg (by omega)]
theorem turn1 {f : Fr} {st : List Fr} {n : Nat} (h : f.x.kind = 1) : turnM f st n = doneM (E.s f.x) st n := by
  unfold turnM
  rw [if_pos h]
theorem turn2 {f : Fr} {st : List Fr} {n : Nat} (h : f.x.kind = 2) : turnM f st n = match look f.sees (E.s f.x) with | some t => doneM t st n | none => .bad n 51 := by
  unfold turnM
  rw [if_neg (by omega), if_pos h]
theorem mean_runs (x : E) (hw : Wf x) : KE x := by
  induction hw with
  | mk k s ks hp hk ih =>
    intro l n st m h
    rw [mean] at h
    unfold beginM
    by_cases hn : n = 1000
    · rw [if_pos hn] at h ⊢
      rw [show m = .bad n 52 from h]
      exact .bad _ _
    rw [if_neg hn] at h ⊢
    by_cases h1 : k = 1
    · rw [if_pos h1] at h
      refine .go _ _ _ _ ?_
      rw [turn1 (f := ⟨.mk k s ks, [], l⟩) h1]
      exact done_runs h
    rw [if_neg h1] at h
    by_cases h2 : k = 2
    · rw [if_pos h2] at h
      refine .go _ _ _ _ ?_
      rw [turn2 (f := ⟨.mk k s ks, [], l⟩) h2]
      show Runs (match look l s with | some t => doneM t st (n + 1) | none => .bad (n + 1) 51) m
      cases hl : look l s with
      | none => rw [hl] at h; rw [show m = .bad (n + 1) 51 from h]; exact .bad _ _
      | some t => rw [hl] at h; exact done_runs h
    rw [if_neg h2] at h
    by_cases h3 : k = 3
    · rw [if_pos h3] at h
      subst h3
      exact cat_runs s ks ih l st m ks [] [] (n + 1) rfl rfl h
    rw [if_neg h3] at h
    by_cases h4 : k = 4
    · rw [if_pos h4] at h
      subst h4
      have hl : ks.length = 4 := by
        simp [partOk] at hp
        exact hp.1
      match ks, hl, ih, h, hk with
      | [a, b, c, d], _, ih, h, hk =>
        rw [meanIf] at h
        refine .go _ _ _ _ ?_
        show Runs (beginM a l (⟨.mk 4 s [a, b, c, d], [], l⟩ :: st) (n + 1)) m
        refine ih a (by simp) l (n + 1) _ m ?_
        cases ha : mean a l (n + 1) with
        | bad n' e => simp only [ha] at h; exact h
        | ok u n1 =>
          simp only [ha] at h
          refine .go _ _ _ _ ?_
          show Runs (beginM b l (⟨.mk 4 s [a, b, c, d], [u], l⟩ :: st) n1) m
          refine ih b (by simp) l n1 _ m ?_
          cases hb : mean b l n1 with
          | bad n' e => simp only [hb] at h; exact h
          | ok v n2 =>
            simp only [hb] at h
            refine .go _ _ _ _ ?_
            by_cases huv : u = v
            · replace h : BindR (mean c l n2) st m := by
                simpa [huv] using h
              have ht : turnM ⟨.mk 4 s [a, b, c, d], [u, v], l⟩ st n2 = beginM c l (⟨.mk 4 s [a, b, c, d], [u, v], l⟩ :: st) n2 := by
                unfold turnM
                rw [if_neg (by simp [E.kind]), if_neg (by simp [E.kind]), if_neg (by simp [E.kind]), if_neg (by simp [E.kind]), if_neg (by simp [huv]), if_neg (by simp [E.kind])]
                rfl
              show Runs (turnM ⟨.mk 4 s [a, b, c, d], [u, v], l⟩ st n2) m
              rw [ht]
              refine ih c (by simp) l n2 _ m ?_
              cases hc : mean c l n2 with
              | bad n' e => rw [hc] at h; exact h
              | ok t n3 =>
                rw [hc] at h
                refine .go _ _ _ _ ?_
                show Runs (doneM t st n3) m
                rw [done_small (mean_small c (hk c (by simp)) _ _ _ _ hc)]
                exact h
            · replace h : BindR (mean d l n2) st m := by
                simpa [huv] using h
              have ht : turnM ⟨.mk 4 s [a, b, c, d], [u, v], l⟩ st n2 = beginM d l (⟨.mk 4 s [a, b, c, d], [u, v], l⟩ :: st) n2 := by
                unfold turnM
                rw [if_neg (by simp [E.kind]), if_neg (by simp [E.kind]), if_neg (by simp [E.kind]), if_neg (by simp [E.kind]), if_pos ⟨rfl, rfl, by simp [huv]⟩]
                rfl
              show Runs (turnM ⟨.mk 4 s [a, b, c, d], [u, v], l⟩ st n2) m
              rw [ht]
              refine ih d (by simp) l n2 _ m ?_
              cases hc : mean d l n2 with
              | bad n' e => rw [hc] at h; exact h
              | ok t n3 =>
                rw [hc] at h
                refine .go _ _ _ _ ?_
                show Runs (doneM t st n3) m
                rw [done_small (mean_small d (hk d (by simp)) _ _ _ _ hc)]
                exact h
    rw [if_neg h4] at h
    by_cases h5 : k = 5
    · rw [if_pos h5] at h
      subst h5
      have hl : ks.length = 2 := by
        simp [partOk] at hp
        exact hp.1
      match ks, hl, ih, h, hk with
      | [a, b], _, ih, h, hk =>
        rw [meanLet] at h
        refine .go _ _ _ _ ?_
        show Runs (beginM a l (⟨.mk 5 s [a, b], [], l⟩ :: st) (n + 1)) m
        refine ih a (by simp) l (n + 1) _ m ?_
        cases ha : mean a l (n + 1) with
        | bad n' e => simp only [ha] at h; exact h
        | ok u n1 =>
          simp only [ha] at h
          refine .go _ _ _ _ ?_
          show Runs (beginM b ((s, u) :: l) (⟨.mk 5 s [a, b], [u], l⟩ :: st) n1) m
          refine ih b (by simp) ((s, u) :: l) n1 _ m ?_
          cases hb : mean b ((s, u) :: l) n1 with
          | bad n' e => simp only [hb] at h; exact h
          | ok t n3 =>
            simp only [hb] at h
            refine .go _ _ _ _ ?_
            show Runs (doneM t st n3) m
            rw [done_small (mean_small b (hk b (by simp)) _ _ _ _ hb)]
            exact h
    · exfalso
      simp [partOk, h1, h2, h3, h4, h5] at hp
end Ev
end Go.Proofs.YtflhmoelenmomaaGreatDoor

/-
  Plain: how meanings shift with what was begun ahead; what a meaning sees. No program in sight.
-/
namespace Go.Proofs.YtflhmoelenmomaaGreatDoor
open Go.RowKit
namespace Ev
open Rc

def cnt : M → Nat
  | .ok _ n => n
  | .bad n _ => n
/-- the meaning where so many more were begun ahead -/
def shift (j : Nat) : M → M
  | .ok s n => if n + j ≤ 1000 then .ok s (n + j) else .bad 1000 52
  | .bad n e => if e = 52 then .bad 1000 52 else if n + j ≤ 1000 then .bad (n + j) e else .bad 1000 52
theorem fin_cnt (s : ByteArray) (n : Nat) : cnt (fin s n) = n := by
  unfold fin
  split <;> rfl
/-- what was begun is no more than may be -/
def Rg (n : Nat) (m : M) : Prop := n ≤ cnt m ∧ cnt m ≤ 1000 ∧ ∀ k, m = .bad k 52 → k = 1000
theorem fin_rg {s : ByteArray} {n : Nat} (h : n ≤ 1000) : Rg n (fin s n) := by
  refine ⟨by rw [fin_cnt]; exact Nat.le_refl _, by rw [fin_cnt]; exact h, fun k hk => ?_⟩
  unfold fin at hk
  split at hk <;> cases hk
theorem Rg.le {n n' : Nat} {m : M} (h : Rg n' m) (hn : n ≤ n') : Rg n m := ⟨Nat.le_trans hn h.1, h.2⟩
theorem cat_rg (ks : List E) (l : Sees) (ih : ∀ x ∈ ks, ∀ l n, n ≤ 1000 → Rg n (mean x l n)) : ∀ (n : Nat) (out : ByteArray), n ≤ 1000 → Rg n (meanCat ks l n out) := by
  induction ks with
  | nil =>
    intro n out h
    rw [meanCat]
    exact fin_rg h
  | cons x ks ihk =>
    intro n out h
    rw [meanCat]
    have hx := ih x (List.mem_cons_self ..) l n h
    cases hm : mean x l n with
    | bad n' e => rw [hm] at hx; exact hx
    | ok s n' =>
      rw [hm] at hx
      exact (ihk (fun y hy => ih y (List.mem_cons_of_mem _ hy)) n' (out ++ s) hx.2.1).le hx.1
theorem ok_rg {n : Nat} (h : n ≤ 1000) : Rg n (.ok ⟨#[]⟩ n) := ⟨Nat.le_refl _, h, fun k hk => by cases hk⟩
theorem mean_rg (x : E) : ∀ l n, n ≤ 1000 → Rg n (mean x l n) := by
  refine Eind (P := fun x => ∀ l n, n ≤ 1000 → Rg n (mean x l n)) (fun k s ks ih l n h => ?_) x
  rw [mean]
  by_cases hn : n = 1000
  · rw [if_pos hn]
    exact ⟨Nat.le_refl _, h, fun k hk => by cases hk; exact hn⟩
  rw [if_neg hn]
  have h1 : n + 1 ≤ 1000 := by omega
  split
  · exact (fin_rg h1).le (Nat.le_succ _)
  split
  · split
    · exact (fin_rg h1).le (Nat.le_succ _)
    · exact ⟨Nat.le_succ _, h1, fun k hk => by cases hk⟩
  split
  · exact (cat_rg ks l ih (n + 1) _ h1).le (Nat.le_succ _)
  split
  · refine Rg.le ?_ (Nat.le_succ n)
    match ks, ih with
    | [a, b, c, d], ih =>
      rw [meanIf]
      have ha := ih a (by simp) l (n + 1) h1
      cases hm : mean a l (n + 1) with
      | bad n' e => rw [hm] at ha; exact ha
      | ok u n1 =>
        rw [hm] at ha
        have hb := ih b (by simp) l n1 ha.2.1
        dsimp only
        cases hm2 : mean b l n1 with
        | bad n' e => rw [hm2] at hb; exact hb.le ha.1
        | ok v n2 =>
          rw [hm2] at hb
          dsimp only
          split
          · exact (ih c (by simp) l n2 hb.2.1).le (Nat.le_trans ha.1 hb.1)
          · exact (ih d (by simp) l n2 hb.2.1).le (Nat.le_trans ha.1 hb.1)
    | [], _ => exact ok_rg h1
    | [_], _ => exact ok_rg h1
    | [_, _], _ => exact ok_rg h1
    | [_, _, _], _ => exact ok_rg h1
    | _ :: _ :: _ :: _ :: _ :: _, _ => exact ok_rg h1
  split
  · refine Rg.le ?_ (Nat.le_succ n)
    match ks, ih with
    | [a, b], ih =>
      rw [meanLet]
      have ha := ih a (by simp) l (n + 1) h1
      cases hm : mean a l (n + 1) with
      | bad n' e => rw [hm] at ha; exact ha
      | ok u n1 =>
        rw [hm] at ha
        exact (ih b (by simp) ((s, u) :: l) n1 ha.2.1).le ha.1
    | [], _ => exact ok_rg h1
    | [_], _ => exact ok_rg h1
    | _ :: _ :: _ :: _, _ => exact ok_rg h1
  · exact (ok_rg h1).le (Nat.le_succ _)
theorem sh_ok (j : Nat) (s : ByteArray) (n : Nat) : shift j (.ok s n) = if n + j ≤ 1000 then .ok s (n + j) else .bad 1000 52 := rfl
theorem sh_bad (j : Nat) (n : Nat) (e : Int) : shift j (.bad n e) = if e = 52 then .bad 1000 52 else if n + j ≤ 1000 then .bad (n + j) e else .bad 1000 52 := rfl
theorem sh_bad_ex (j : Nat) (n : Nat) (e : Int) : ∃ n2 e2, shift j (.bad n e) = .bad n2 e2 := by
  rw [sh_bad]
  split
  · exact ⟨_, _, rfl⟩
  split
  · exact ⟨_, _, rfl⟩
  · exact ⟨_, _, rfl⟩
theorem shift_over {n j : Nat} {m : M} (h : Rg n m) (hj : 1000 < n + j) : shift j m = .bad 1000 52 := by
  cases m with
  | ok s k =>
    have : n ≤ k := h.1
    rw [sh_ok, if_neg (by omega)]
  | bad k e =>
    have : n ≤ k := h.1
    rw [sh_bad]
    split
    · rfl
    · rw [if_neg (by omega)]
theorem shift_fin {s : ByteArray} {n j : Nat} (h : n + j ≤ 1000) : shift j (fin s n) = fin s (n + j) := by
  unfold fin
  split
  · rw [sh_bad, if_neg (by decide), if_pos h]
  · rw [sh_ok, if_pos h]
def SH (x : E) : Prop := ∀ l n j, n + j ≤ 1000 → mean x l (n + j) = shift j (mean x l n)
theorem cat_shift (ks : List E) (l : Sees) (ih : ∀ x ∈ ks, SH x) : ∀ (n j : Nat) (out : ByteArray), n + j ≤ 1000 → meanCat ks l (n + j) out = shift j (meanCat ks l n out) := by
  induction ks with
  | nil =>
    intro n j out h
    rw [meanCat, meanCat, shift_fin h]
  | cons x ks ihk =>
    intro n j out h
    rw [meanCat, meanCat, ih x (List.mem_cons_self ..) l n j h]
    have hx := mean_rg x l n (by omega)
    cases hm : mean x l n with
    | bad n' e =>
      show (match shift j (.bad n' e) with | .ok s n' => meanCat ks l n' (out ++ s) | .bad n' e => .bad n' e) = shift j (.bad n' e)
      obtain ⟨n2, e2, h2⟩ := sh_bad_ex j n' e
      rw [h2]
    | ok s n' =>
      rw [hm] at hx
      by_cases hj : n' + j ≤ 1000
      · rw [show shift j (.ok s n') = .ok s (n' + j) by rw [sh_ok, if_pos hj]]
        exact ihk (fun y hy => ih y (List.mem_cons_of_mem _ hy)) n' j (out ++ s) hj
      · rw [show shift j (.ok s n') = .bad 1000 52 by rw [sh_ok, if_neg hj]]
        exact (shift_over (cat_rg ks l (fun y _ => mean_rg y) n' (out ++ s) hx.2.1) (by omega)).symm
/-- one meaning behind another -/
theorem bind_shift {m : M} {f : ByteArray → Nat → M} {n j : Nat} (hm : Rg n m) (hf : ∀ s n', m = .ok s n' → Rg n' (f s n') ∧ (n' + j ≤ 1000 → f s (n' + j) = shift j (f s n'))) :
    (match (generalizing := false) shift j m with | .bad n' e => .bad n' e | .ok s n' => f s n') = shift j (match (generalizing := false) m with | .bad n' e => .bad n' e | .ok s n' => f s n') := by
  cases m with
  | bad n' e =>
    show (match shift j (.bad n' e) with | .bad n' e => .bad n' e | .ok s n' => f s n') = shift j (.bad n' e)
    obtain ⟨n2, e2, h2⟩ := sh_bad_ex j n' e
    rw [h2]
  | ok s n' =>
    obtain ⟨h1, h2⟩ := hf s n' rfl
    by_cases hj : n' + j ≤ 1000
    · rw [show shift j (.ok s n') = .ok s (n' + j) by rw [sh_ok, if_pos hj]]
      exact h2 hj
    · rw [show shift j (.ok s n') = .bad 1000 52 by rw [sh_ok, if_neg hj]]
      exact (shift_over h1 (by omega)).symm
theorem shift_ok {n j : Nat} (h : n + j ≤ 1000) : shift j (.ok ⟨#[]⟩ n) = .ok ⟨#[]⟩ (n + j) := by
  rw [sh_ok, if_pos h]
theorem mean_succ (k : Int) (s : ByteArray) (ks : List E) (l : Sees) (n : Nat) (h : n < 1000) : Rg (n + 1) (mean (.mk k s ks) l n) := by
  rw [mean, if_neg (by omega)]
  have h1 : n + 1 ≤ 1000 := by omega
  split
  · exact fin_rg h1
  split
  · split
    · exact fin_rg h1
    · exact ⟨Nat.le_refl _, h1, fun k hk => by cases hk⟩
  split
  · exact cat_rg ks l (fun y _ => mean_rg y) (n + 1) _ h1
  split
  · match ks with
    | [a, b, c, d] =>
      rw [meanIf]
      have ha := mean_rg a l (n + 1) h1
      cases hm : mean a l (n + 1) with
      | bad n' e => rw [hm] at ha; exact ha
      | ok u n1 =>
        rw [hm] at ha
        have hb := mean_rg b l n1 ha.2.1
        dsimp only
        cases hm2 : mean b l n1 with
        | bad n' e => rw [hm2] at hb; exact hb.le ha.1
        | ok v n2 =>
          rw [hm2] at hb
          dsimp only
          split
          · exact (mean_rg c l n2 hb.2.1).le (Nat.le_trans ha.1 hb.1)
          · exact (mean_rg d l n2 hb.2.1).le (Nat.le_trans ha.1 hb.1)
    | [] => exact ok_rg h1
    | [_] => exact ok_rg h1
    | [_, _] => exact ok_rg h1
    | [_, _, _] => exact ok_rg h1
    | _ :: _ :: _ :: _ :: _ :: _ => exact ok_rg h1
  split
  · match ks with
    | [a, b] =>
      rw [meanLet]
      have ha := mean_rg a l (n + 1) h1
      cases hm : mean a l (n + 1) with
      | bad n' e => rw [hm] at ha; exact ha
      | ok u n1 =>
        rw [hm] at ha
        exact (mean_rg b ((s, u) :: l) n1 ha.2.1).le ha.1
    | [] => exact ok_rg h1
    | [_] => exact ok_rg h1
    | _ :: _ :: _ :: _ => exact ok_rg h1
  · exact ok_rg h1
theorem mean_shift (x : E) : SH x := by
  refine Eind (P := SH) (fun k s ks ih l n j h => ?_) x
  by_cases hn : n = 1000
  · have hj : j = 0 := by omega
    subst hj hn
    rw [mean, if_pos rfl]
    rfl
  by_cases hnj : n + j = 1000
  · rw [shift_over (mean_succ k s ks l n (by omega)) (by omega), hnj, mean, if_pos rfl]
  rw [mean, mean, if_neg hn, if_neg hnj]
  have h1 : n + 1 + j ≤ 1000 := by omega
  have hc : n + j + 1 = n + 1 + j := by omega
  rw [hc]
  by_cases k1 : k = 1
  · rw [if_pos k1, if_pos k1, shift_fin h1]
  rw [if_neg k1, if_neg k1]
  by_cases k2 : k = 2
  · rw [if_pos k2, if_pos k2]
    cases look l s with
    | none =>
      show M.bad (n + 1 + j) 51 = shift j (.bad (n + 1) 51)
      rw [sh_bad, if_neg (by decide), if_pos h1]
    | some t => exact (shift_fin h1).symm
  rw [if_neg k2, if_neg k2]
  by_cases k3 : k = 3
  · rw [if_pos k3, if_pos k3]
    exact cat_shift ks l ih (n + 1) j _ h1
  rw [if_neg k3, if_neg k3]
  by_cases k4 : k = 4
  · rw [if_pos k4, if_pos k4]
    match ks, ih with
    | [a, b, c, d], ih =>
      rw [meanIf, meanIf, ih a (by simp) l (n + 1) j h1]
      refine bind_shift (mean_rg a l (n + 1) (by omega)) fun u n1 hm => ?_
      have ha := mean_rg a l (n + 1) (by omega)
      rw [hm] at ha
      have hb := mean_rg b l n1 ha.2.1
      refine ⟨?_, fun hj => ?_⟩
      · cases hm2 : mean b l n1 with
        | bad n' e => rw [hm2] at hb; exact hb
        | ok v n2 =>
          rw [hm2] at hb
          dsimp only
          split
          · exact (mean_rg c l n2 hb.2.1).le hb.1
          · exact (mean_rg d l n2 hb.2.1).le hb.1
      · rw [ih b (by simp) l n1 j hj]
        refine bind_shift hb fun v n2 hm2 => ?_
        rw [hm2] at hb
        refine ⟨?_, fun hj2 => ?_⟩
        · split
          · exact mean_rg c l n2 hb.2.1
          · exact mean_rg d l n2 hb.2.1
        · split
          · exact ih c (by simp) l n2 j hj2
          · exact ih d (by simp) l n2 j hj2
    | [], _ => exact (shift_ok h1).symm
    | [_], _ => exact (shift_ok h1).symm
    | [_, _], _ => exact (shift_ok h1).symm
    | [_, _, _], _ => exact (shift_ok h1).symm
    | _ :: _ :: _ :: _ :: _ :: _, _ => exact (shift_ok h1).symm
  rw [if_neg k4, if_neg k4]
  by_cases k5 : k = 5
  · rw [if_pos k5, if_pos k5]
    match ks, ih with
    | [a, b], ih =>
      rw [meanLet, meanLet, ih a (by simp) l (n + 1) j h1]
      refine bind_shift (mean_rg a l (n + 1) (by omega)) fun u n1 hm => ?_
      have ha := mean_rg a l (n + 1) (by omega)
      rw [hm] at ha
      exact ⟨mean_rg b ((s, u) :: l) n1 ha.2.1, fun hj => ih b (by simp) ((s, u) :: l) n1 j hj⟩
    | [], _ => exact (shift_ok h1).symm
    | [_], _ => exact (shift_ok h1).symm
    | _ :: _ :: _ :: _, _ => exact (shift_ok h1).symm
  rw [if_neg k5, if_neg k5]
  exact (shift_ok h1).symm
end Ev
end Go.Proofs.YtflhmoelenmomaaGreatDoor

/-
  Plain: sums, ifs, lets: what their meanings have to do with their kids'. No program in sight.
-/
namespace Go.Proofs.YtflhmoelenmomaaGreatDoor
open Go.RowKit
namespace Ev
open Rc

/-- what Eval answers: text, how many were begun, error -/
def evalP (x : E) : ByteArray × Nat × Int := if goodE x = false then (⟨#[]⟩, 0, 1) else match mean x [] 0 with
  | .ok s n => (s, n, 0)
  | .bad n e => (⟨#[]⟩, n, e)
theorem eval_good {x : E} (h : goodE x = true) : evalP x = match mean x [] 0 with | .ok s n => (s, n, 0) | .bad n e => (⟨#[]⟩, n, e) := by
  unfold evalP
  rw [if_neg (by rw [h]; decide)]
theorem eval_ok {x : E} {s : ByteArray} {n : Nat} (h : goodE x = true) (hm : mean x [] 0 = .ok s n) : evalP x = (s, n, 0) := by rw [eval_good h, hm]
theorem eval_bad {x : E} {e : Int} {n : Nat} (h : goodE x = true) (hm : mean x [] 0 = .bad n e) : evalP x = (⟨#[]⟩, n, e) := by rw [eval_good h, hm]
/-- a meaning sees names by what they stand for alone -/
theorem mean_ext (x : E) : ∀ (l l' : Sees) (n : Nat), (∀ y, look l y = look l' y) → mean x l n = mean x l' n := by
  refine Eind (P := fun x => ∀ (l l' : Sees) (n : Nat), (∀ y, look l y = look l' y) → mean x l n = mean x l' n) (fun k s ks ih l l' n h => ?_) x
  rw [mean, mean]
  by_cases hn : n = 1000
  · rw [if_pos hn, if_pos hn]
  rw [if_neg hn, if_neg hn, h s]
  have hcat : ∀ (qs : List E), (∀ x ∈ qs, x ∈ ks) → ∀ n out, meanCat qs l n out = meanCat qs l' n out := by
    intro qs
    induction qs with
    | nil => intro _ n out; rw [meanCat, meanCat]
    | cons q qs ihq =>
      intro hq n out
      rw [meanCat, meanCat, ih q (hq q (by simp)) l l' n h]
      cases mean q l' n with
      | bad n' e => rfl
      | ok t n' => exact ihq (fun x hx => hq x (by simp [hx])) n' _
  have hif : meanIf ks l (n + 1) = meanIf ks l' (n + 1) := by
    match ks, ih with
    | [a, b, c, d], ih =>
      rw [meanIf, meanIf, ih a (by simp) l l' _ h]
      cases mean a l' (n + 1) with
      | bad n' e => rfl
      | ok u n1 =>
        dsimp only
        rw [ih b (by simp) l l' _ h]
        cases mean b l' n1 with
        | bad n' e => rfl
        | ok v n2 =>
          dsimp only
          rw [ih c (by simp) l l' _ h, ih d (by simp) l l' _ h]
    | [], _ => rfl
    | [_], _ => rfl
    | [_, _], _ => rfl
    | [_, _, _], _ => rfl
    | _ :: _ :: _ :: _ :: _ :: _, _ => rfl
  have hlet : meanLet ks s l (n + 1) = meanLet ks s l' (n + 1) := by
    match ks, ih with
    | [a, b], ih =>
      rw [meanLet, meanLet, ih a (by simp) l l' _ h]
      cases mean a l' (n + 1) with
      | bad n' e => rfl
      | ok u n1 =>
        refine ih b (by simp) _ _ _ fun y => ?_
        rw [look, look]
        split
        · rfl
        · exact h y
    | [], _ => rfl
    | [_], _ => rfl
    | _ :: _ :: _ :: _, _ => rfl
  rw [hcat ks (fun x hx => hx), hif, hlet]
/-! a text in the place of a name -/
mutual
def putE (y : ByteArray) (t : ByteArray) : E → E
  | .mk k s ks => if k = 2 ∧ s = y then .mk 1 t [] else .mk k s (if k = 5 ∧ s = y then put1 y t ks else puts y t ks)
def puts (y : ByteArray) (t : ByteArray) : List E → List E
  | [] => []
  | x :: l => putE y t x :: puts y t l
/-- the first kid alone, and those behind the second -/
def put1 (y : ByteArray) (t : ByteArray) : List E → List E
  | [] => []
  | [a] => [putE y t a]
  | a :: b :: l => putE y t a :: b :: puts y t l
end
theorem look_app (l : Sees) (y t z : ByteArray) (h : look l y = none) : look (l ++ [(y, t)]) z = if y = z then some t else look l z := by
  induction l with
  | nil =>
    show look [(y, t)] z = _
    rw [look]
    rfl
  | cons p l ih =>
    rw [look] at h
    split at h
    · cases h
    rename_i hp
    show look (p :: (l ++ [(y, t)])) z = _
    rw [look, look]
    by_cases hz : p.1 = z
    · rw [if_pos hz, if_pos hz, if_neg (fun e => hp (hz.trans e.symm))]
    · rw [if_neg hz, if_neg hz]
      exact ih h
theorem look_in (l l' : Sees) (z : ByteArray) (h : look l z ≠ none) : look (l ++ l') z = look l z := by
  induction l with
  | nil => exact absurd rfl h
  | cons p l ih =>
    show look (p :: (l ++ l')) z = _
    rw [look, look]
    split
    · rfl
    · rename_i hp
      rw [look, if_neg hp] at h
      exact ih h
theorem puts_len (y t : ByteArray) : ∀ ks : List E, (puts y t ks).length = ks.length
  | [] => rfl
  | x :: l => by rw [puts, List.length_cons, List.length_cons, puts_len y t l]
theorem put1_len (y t : ByteArray) : ∀ ks : List E, (put1 y t ks).length = ks.length
  | [] => rfl
  | [a] => rfl
  | a :: b :: l => by rw [put1, List.length_cons, List.length_cons, List.length_cons, List.length_cons, puts_len y t l]
def PU (y t : ByteArray) (x : E) : Prop := ∀ l n, look l y = none → mean (putE y t x) l n = mean x (l ++ [(y, t)]) n
theorem cat_put (y t : ByteArray) (l : Sees) (hl : look l y = none) : ∀ ks : List E, (∀ x ∈ ks, PU y t x) → ∀ n out, meanCat (puts y t ks) l n out = meanCat ks (l ++ [(y, t)]) n out
  | [], _, n, out => by rw [puts, meanCat, meanCat]
  | x :: ks, ih, n, out => by
    rw [puts, meanCat, meanCat, ih x (by simp) l n hl]
    cases mean x (l ++ [(y, t)]) n with
    | bad n' e => rfl
    | ok u n' => exact cat_put y t l hl ks (fun z hz => ih z (by simp [hz])) n' _
theorem mean_put (y t : ByteArray) (x : E) (hw : Wf x) : PU y t x := by
  induction hw with
  | mk k s ks hp hk ih =>
    intro l n hl
    rw [putE]
    by_cases h2 : k = 2 ∧ s = y
    · rw [if_pos h2]
      obtain ⟨rfl, rfl⟩ := h2
      rw [mean, mean]
      by_cases hn : n = 1000
      · rw [if_pos hn, if_pos hn]
      rw [if_neg hn, if_neg hn, if_pos rfl, if_neg (by decide), if_pos rfl, look_app l s t s hl, if_pos rfl]
    rw [if_neg h2, mean, mean]
    by_cases hn : n = 1000
    · rw [if_pos hn, if_pos hn]
    rw [if_neg hn, if_neg hn]
    by_cases k1 : k = 1
    · rw [if_pos k1, if_pos k1]
    rw [if_neg k1, if_neg k1]
    by_cases k2 : k = 2
    · rw [if_pos k2, if_pos k2, look_app l y t s hl, if_neg (fun e => h2 ⟨k2, e.symm⟩)]
    rw [if_neg k2, if_neg k2]
    by_cases k3 : k = 3
    · rw [if_pos k3, if_pos k3, if_neg (by omega)]
      exact cat_put y t l hl ks ih (n + 1) _
    rw [if_neg k3, if_neg k3]
    by_cases k4 : k = 4
    · rw [if_pos k4, if_pos k4, if_neg (by omega)]
      match ks, ih with
      | [a, b, c, d], ih =>
        show meanIf [putE y t a, putE y t b, putE y t c, putE y t d] l (n + 1) = _
        rw [meanIf, meanIf, ih a (by simp) l (n + 1) hl]
        cases mean a (l ++ [(y, t)]) (n + 1) with
        | bad n' e => rfl
        | ok u n1 =>
          dsimp only
          rw [ih b (by simp) l n1 hl]
          cases mean b (l ++ [(y, t)]) n1 with
          | bad n' e => rfl
          | ok v n2 =>
            dsimp only
            rw [ih c (by simp) l n2 hl, ih d (by simp) l n2 hl]
      | [], _ => rfl
      | [_], _ => rfl
      | [_, _], _ => rfl
      | [_, _, _], _ => rfl
      | _ :: _ :: _ :: _ :: _ :: _, _ => rfl
    rw [if_neg k4, if_neg k4]
    by_cases k5 : k = 5
    · rw [if_pos k5, if_pos k5]
      have hl2 : ks.length = 2 := by
        subst k5
        simp [partOk] at hp
        exact hp.1
      match ks, hl2, ih with
      | [a, b], _, ih =>
        by_cases hs : s = y
        · rw [if_pos ⟨k5, hs⟩]
          show meanLet [putE y t a, b] s l (n + 1) = _
          rw [meanLet, meanLet, ih a (by simp) l (n + 1) hl]
          cases mean a (l ++ [(y, t)]) (n + 1) with
          | bad n' e => rfl
          | ok u n1 =>
            refine mean_ext b _ _ n1 fun z => ?_
            rw [look, look]
            by_cases hz : s = z
            · rw [if_pos hz, if_pos hz]
            · rw [if_neg hz, if_neg hz, look_app l y t z hl, if_neg (by rw [← hs]; exact hz)]
        · rw [if_neg (fun e => hs e.2)]
          show meanLet [putE y t a, putE y t b] s l (n + 1) = _
          rw [meanLet, meanLet, ih a (by simp) l (n + 1) hl]
          cases mean a (l ++ [(y, t)]) (n + 1) with
          | bad n' e => rfl
          | ok u n1 =>
            exact ih b (by simp) ((s, u) :: l) n1 (by rw [look, if_neg hs]; exact hl)
    rw [if_neg k5, if_neg k5]
theorem counts_up (ks : List E) (ih : ∀ x ∈ ks, ∀ (d d' : Nat) (m m' : Int), d' ≤ d → m ≤ m' → 0 ≤ m → 0 ≤ count x d m → count x d' m' = count x d m + (m' - m)) :
    ∀ (d d' : Nat) (m m' : Int), d' ≤ d → m ≤ m' → 0 ≤ counts ks d m → counts ks d' m' = counts ks d m + (m' - m) := by
  induction ks with
  | nil =>
    intro d d' m m' hd hm h
    rw [counts, counts]
    omega
  | cons x ks ihk =>
    intro d d' m m' hd hm h
    rw [counts] at h
    by_cases h0 : m < 0
    · rw [if_pos h0] at h
      omega
    rw [if_neg h0] at h
    rw [show counts (x :: ks) d m = counts ks d (count x d m) by rw [counts, if_neg h0], show counts (x :: ks) d' m' = counts ks d' (count x d' m') by rw [counts, if_neg (by omega)]]
    by_cases hc : count x d m < 0
    · rw [counts_neg hc] at h
      omega
    have hx := ih x (by simp) d d' m m' hd hm (by omega) (by omega)
    rw [ihk (fun z hz => ih z (by simp [hz])) d d' (count x d m) (count x d' m') hd (by omega) h, hx]
    omega
theorem count_up (x : E) : ∀ (d d' : Nat) (m m' : Int), d' ≤ d → m ≤ m' → 0 ≤ m → 0 ≤ count x d m → count x d' m' = count x d m + (m' - m) := by
  refine Eind (P := fun x => ∀ (d d' : Nat) (m m' : Int), d' ≤ d → m ≤ m' → 0 ≤ m → 0 ≤ count x d m → count x d' m' = count x d m + (m' - m)) (fun k s ks ih d d' m m' hd hm h0 h => ?_) x
  rw [count] at h
  by_cases hp : partOk k s.data.toList ks.length = false ∨ 64 ≤ d
  · rw [if_pos hp] at h
    omega
  rw [if_neg hp] at h
  have hp' : ¬ (partOk k s.data.toList ks.length = false ∨ 64 ≤ d') := by
    rw [not_or] at hp ⊢
    exact ⟨hp.1, by omega⟩
  rw [show count (.mk k s ks) d m = counts ks (d + 1) (m - 1) by rw [count, if_neg hp], show count (.mk k s ks) d' m' = counts ks (d' + 1) (m' - 1) by rw [count, if_neg hp']]
  rw [counts_up ks ih (d + 1) (d' + 1) (m - 1) (m' - 1) (by omega) (by omega) h]
  omega
/-- what is left behind kids that can be -/
theorem kids_good (ks : List E) : ∀ (d : Nat) (m : Int), m ≤ 4096 → 0 ≤ counts ks d m → ∀ x ∈ ks, goodE x = true := by
  induction ks with
  | nil => intro _ _ _ _ x hx; cases hx
  | cons y ks ih =>
    intro d m hm h x hx
    rw [counts] at h
    by_cases h0 : m < 0
    · rw [if_pos h0] at h; omega
    rw [if_neg h0] at h
    by_cases hc : count y d m < 0
    · rw [counts_neg hc] at h; omega
    rcases List.mem_cons.1 hx with rfl | hx
    · have h1 := count_up x d 0 m 4096 (Nat.zero_le _) hm (by omega) (by omega)
      exact decide_eq_true (by omega)
    · have h2 := (count_le y d m (by omega)).2.1
      exact ih d (count y d m) (by omega) h x hx
theorem good_kids {k : Int} {s : ByteArray} {ks : List E} (h : goodE (.mk k s ks) = true) : ∀ x ∈ ks, goodE x = true := by
  have h1 : 0 ≤ count (.mk k s ks) 0 4096 := of_decide_eq_true h
  rw [count] at h1
  split at h1
  · omega
  · exact kids_good ks 1 4095 (by decide) h1
theorem good_wf {x : E} (h : goodE x = true) : Wf x := (count_le x 0 4096 (by decide)).2.2 (of_decide_eq_true h)
theorem counts_put (y t : ByteArray) (ks : List E) (ih : ∀ x ∈ ks, ∀ d m, count (putE y t x) d m = count x d m) : ∀ d m, counts (puts y t ks) d m = counts ks d m := by
  induction ks with
  | nil => intro d m; rw [puts]
  | cons x ks ihk =>
    intro d m
    rw [puts, counts, counts, ih x (by simp), ihk (fun z hz => ih z (by simp [hz]))]
theorem count_put (y t : ByteArray) (x : E) (hw : Wf x) : ∀ d m, count (putE y t x) d m = count x d m := by
  induction hw with
  | mk k s ks hp hk ih =>
    intro d m
    rw [putE]
    by_cases h2 : k = 2 ∧ s = y
    · rw [if_pos h2]
      obtain ⟨rfl, rfl⟩ := h2
      have hl : ks = [] := by
        simp [partOk] at hp
        exact hp.1
      subst hl
      have h3 : partOk 1 t.data.toList ([] : List E).length = true := by simp [partOk]
      rw [count, count, h3, hp]
    rw [if_neg h2]
    by_cases h5 : k = 5 ∧ s = y
    · rw [if_pos h5]
      have hl : ks.length = 2 := by
        obtain ⟨rfl, _⟩ := h5
        simp [partOk] at hp
        exact hp.1
      match ks, hl, ih, hp with
      | [a, b], _, ih, hp =>
        show count (.mk k s [putE y t a, b]) d m = _
        rw [count, count]
        have h3 : ([putE y t a, b] : List E).length = ([a, b] : List E).length := rfl
        rw [h3]
        simp only [counts, ih a (by simp)]
    · rw [if_neg h5, count, count, puts_len, counts_put y t ks ih]
theorem good_put (y t : ByteArray) {x : E} (h : goodE x = true) : goodE (putE y t x) = true := by
  unfold goodE at h ⊢
  rw [count_put y t x (good_wf h)]
  exact h
end Ev
end Go.Proofs.YtflhmoelenmomaaGreatDoor

/-
  Plain: the laws of sums, ifs and lets. No program in sight.
-/
namespace Go.Proofs.YtflhmoelenmomaaGreatDoor
open Go.RowKit
namespace Ev
open Rc

def ans : M → ByteArray × Nat × Int
  | .ok s n => (s, n, 0)
  | .bad n e => (⟨#[]⟩, n, e)
theorem eval_ans {x : E} (h : goodE x = true) : evalP x = ans (mean x [] 0) := by
  rw [eval_good h]
  cases mean x [] 0 <;> rfl
theorem ans_cnt (m : M) : (ans m).2.1 = cnt m := by cases m <;> rfl
/-- an error is one of three -/
def Er (m : M) : Prop := ∀ n e, m = .bad n e → e = 43 ∨ e = 51 ∨ e = 52
theorem fin_er (s : ByteArray) (n : Nat) : Er (fin s n) := fun k e h => by
  unfold fin at h
  split at h
  · cases h; exact .inl rfl
  · cases h
theorem ok_er (s : ByteArray) (n : Nat) : Er (.ok s n) := fun k e h => by cases h
theorem cat_er (ks : List E) (l : Sees) (ih : ∀ x ∈ ks, ∀ l n, Er (mean x l n)) : ∀ (n : Nat) (out : ByteArray), Er (meanCat ks l n out) := by
  induction ks with
  | nil => intro n out; rw [meanCat]; exact fin_er _ _
  | cons x ks ihk =>
    intro n out
    rw [meanCat]
    have hx := ih x (List.mem_cons_self ..) l n
    cases hm : mean x l n with
    | bad n' e => rw [hm] at hx; exact hx
    | ok s n' => exact ihk (fun y hy => ih y (List.mem_cons_of_mem _ hy)) n' _
theorem mean_er (x : E) : ∀ l n, Er (mean x l n) := by
  refine Eind (P := fun x => ∀ l n, Er (mean x l n)) (fun k s ks ih l n => ?_) x
  rw [mean]
  split
  · exact fun k e h => by cases h; exact .inr (.inr rfl)
  split
  · exact fin_er _ _
  split
  · split
    · exact fin_er _ _
    · exact fun k e h => by cases h; exact .inr (.inl rfl)
  split
  · exact cat_er ks l ih _ _
  split
  · match ks, ih with
    | [a, b, c, d], ih =>
      rw [meanIf]
      have ha := ih a (by simp) l (n + 1)
      cases hm : mean a l (n + 1) with
      | bad n' e => rw [hm] at ha; exact ha
      | ok u n1 =>
        have hb := ih b (by simp) l n1
        dsimp only
        cases hm2 : mean b l n1 with
        | bad n' e => rw [hm2] at hb; exact hb
        | ok v n2 =>
          dsimp only
          split
          · exact ih c (by simp) l n2
          · exact ih d (by simp) l n2
    | [], _ => exact ok_er _ _
    | [_], _ => exact ok_er _ _
    | [_, _], _ => exact ok_er _ _
    | [_, _, _], _ => exact ok_er _ _
    | _ :: _ :: _ :: _ :: _ :: _, _ => exact ok_er _ _
  split
  · match ks, ih with
    | [a, b], ih =>
      rw [meanLet]
      have ha := ih a (by simp) l (n + 1)
      cases hm : mean a l (n + 1) with
      | bad n' e => rw [hm] at ha; exact ha
      | ok u n1 => exact ih b (by simp) ((s, u) :: l) n1
    | [], _ => exact ok_er _ _
    | [_], _ => exact ok_er _ _
    | _ :: _ :: _ :: _, _ => exact ok_er _ _
  · exact ok_er _ _
theorem ans_err {m : M} (h : Er m) : ((ans m).2.2 = 0 ↔ ∃ s n, m = .ok s n) := by
  cases m with
  | ok s n => exact ⟨fun _ => ⟨s, n, rfl⟩, fun _ => rfl⟩
  | bad n e =>
    refine ⟨fun h1 => ?_, fun ⟨s, n, h1⟩ => by cases h1⟩
    have h2 := h n e rfl
    have h3 : e = 0 := h1
    omega
theorem ans_shift {m : M} (h : Rg 0 m) (j : Nat) : (1000 < j + cnt m → ans (shift j m) = (⟨#[]⟩, 1000, 52)) ∧ (¬ 1000 < j + cnt m → ans (shift j m) = ((ans m).1, cnt m + j, (ans m).2.2)) := by
  cases m with
  | ok s n =>
    refine ⟨fun hj => ?_, fun hj => ?_⟩
    · have : 1000 < j + n := hj
      rw [sh_ok, if_neg (by omega)]
      rfl
    · have : ¬ 1000 < j + n := hj
      rw [sh_ok, if_pos (by omega)]
      rfl
  | bad n e =>
    refine ⟨fun hj => ?_, fun hj => ?_⟩
    · have : 1000 < j + n := hj
      rw [sh_bad]
      split
      · rfl
      · rw [if_neg (by omega)]
        rfl
    · have hj : ¬ 1000 < j + n := hj
      rw [sh_bad]
      by_cases he : e = 52
      · have hn := h.2.2 n (by rw [he])
        rw [if_pos he]
        subst he hn
        have : j = 0 := by omega
        subst this
        rfl
      · rw [if_neg he, if_pos (by omega)]
        rfl
/-! ifs -/
theorem if_law {s : ByteArray} {a b c d : E} {u v : ByteArray} {i j : Nat} (ha : mean a [] 0 = .ok u i) (hb : mean b [] 0 = .ok v j) :
    mean (.mk 4 s [a, b, c, d]) [] 0 = shift (1 + i + j) (mean (if u = v then c else d) [] 0) := by
  rw [mean, if_neg (by decide), if_neg (by decide), if_neg (by decide), if_neg (by decide), if_pos rfl, meanIf]
  have ra := mean_rg a [] 0 (by decide)
  have rb := mean_rg b [] 0 (by decide)
  rw [ha] at ra
  rw [hb] at rb
  have ri : i ≤ 1000 := ra.2.1
  have rj : j ≤ 1000 := rb.2.1
  have rk := mean_rg (if u = v then c else d) [] 0 (by decide)
  have e1 : mean a [] (0 + 1) = shift 1 (.ok u i) := by rw [← ha]; exact mean_shift a [] 0 1 (by decide)
  rw [e1, sh_ok]
  by_cases h1 : i + 1 ≤ 1000
  · rw [if_pos h1]
    dsimp only
    have e2 : mean b [] (i + 1) = shift (i + 1) (.ok v j) := by
      rw [← hb]
      have := mean_shift b [] 0 (i + 1) (by omega)
      rwa [Nat.zero_add] at this
    rw [e2, sh_ok]
    by_cases h2 : j + (i + 1) ≤ 1000
    · rw [if_pos h2]
      dsimp only
      have e3 : ∀ k : E, mean k [] (j + (i + 1)) = shift (1 + i + j) (mean k [] 0) := fun k => by
        have := mean_shift k [] 0 (j + (i + 1)) (by omega)
        rw [Nat.zero_add] at this
        rw [this]
        congr 1
        omega
      split
      · rw [e3]
      · rw [e3]
    · rw [if_neg h2]
      dsimp only
      rw [shift_over rk (by omega)]
  · rw [if_neg h1]
    dsimp only
    rw [shift_over rk (by omega)]
/-! sums -/
/-- behind some kids of a sum -/
def SumI (X : M) (todo : List E) (begun : Nat) (want : ByteArray) : Prop := (begun ≤ 1000 ∧ X = meanCat todo [] begun want) ∨ (1000 < begun ∧ X = .bad 1000 52)
theorem SumI.new (s : ByteArray) (ks : List E) : SumI (mean (.mk 3 s ks) [] 0) ks 1 ⟨#[]⟩ := by
  refine .inl ⟨by decide, ?_⟩
  rw [mean, if_neg (by decide), if_neg (by decide), if_neg (by decide), if_pos rfl]
theorem SumI.next {X : M} {k : E} {todo : List E} {begun m : Nat} {want t : ByteArray} (h : SumI X (k :: todo) begun want) (hk : mean k [] 0 = .ok t m) : SumI X todo (begun + m) (want ++ t) := by
  have rk := mean_rg k [] 0 (by decide)
  rw [hk] at rk
  have hm : m ≤ 1000 := rk.2.1
  rcases h with ⟨h1, h2⟩ | ⟨h1, h2⟩
  · have e := mean_shift k [] 0 begun (by omega)
    rw [Nat.zero_add, hk, sh_ok] at e
    rw [meanCat, e] at h2
    by_cases h3 : m + begun ≤ 1000
    · rw [if_pos h3] at h2
      exact .inl ⟨by omega, by rw [Nat.add_comm begun m]; exact h2⟩
    · rw [if_neg h3] at h2
      exact .inr ⟨by omega, h2⟩
  · exact .inr ⟨by omega, h2⟩
theorem SumI.bad {X : M} {k : E} {todo : List E} {begun m : Nat} {want : ByteArray} {f : Int} (h : SumI X (k :: todo) begun want) (hk : mean k [] 0 = .bad m f) : (ans X).2.2 ≠ 0 := by
  have he := mean_er k [] 0 m f hk
  rcases h with ⟨h1, h2⟩ | ⟨h1, h2⟩
  · have e := mean_shift k [] 0 begun (by omega)
    rw [Nat.zero_add, hk, sh_bad] at e
    rw [meanCat, e] at h2
    by_cases h3 : f = 52
    · rw [if_pos h3] at h2
      rw [h2]
      show (52 : Int) ≠ 0
      decide
    · rw [if_neg h3] at h2
      by_cases h4 : m + begun ≤ 1000
      · rw [if_pos h4] at h2
        rw [h2]
        show f ≠ 0
        omega
      · rw [if_neg h4] at h2
        rw [h2]
        show (52 : Int) ≠ 0
        decide
  · rw [h2]
    show (52 : Int) ≠ 0
    decide
theorem SumI.done {X : M} {begun : Nat} {want : ByteArray} (h : SumI X [] begun want) : (1000 < begun → (ans X).2.2 = 52) ∧ (¬ 1000 < begun → 256 < want.size → (ans X).2.2 = 43 ∧ (ans X).2.1 = begun) ∧ (¬ 1000 < begun → ¬ 256 < want.size → ans X = (want, begun, 0)) := by
  rcases h with ⟨h1, h2⟩ | ⟨h1, h2⟩
  · rw [meanCat] at h2
    unfold fin at h2
    refine ⟨fun h => absurd h1 (by omega), fun _ h3 => ?_, fun _ h3 => ?_⟩
    · rw [if_pos h3] at h2
      rw [h2]
      exact ⟨rfl, rfl⟩
    · rw [if_neg h3] at h2
      rw [h2]
      rfl
  · exact ⟨fun _ => by rw [h2]; rfl, fun h => absurd h1 h, fun h => absurd h1 h⟩
/-! lets -/
theorem let_law {y t : ByteArray} {x : E} (hx : goodE x = true) (ht : t.size ≤ 256) : mean (.mk 5 y [.mk 1 t [], x]) [] 0 = shift 2 (mean (putE y t x) [] 0) := by
  rw [mean, if_neg (by decide), if_neg (by decide), if_neg (by decide), if_neg (by decide), if_neg (by decide), if_pos rfl, meanLet]
  have e1 : mean (.mk 1 t []) [] (0 + 1) = .ok t 2 := by
    rw [mean, if_neg (by decide), if_pos rfl]
    unfold fin
    rw [if_neg (by omega)]
  rw [e1]
  dsimp only
  have e2 := mean_put y t x (good_wf hx) [] 2 rfl
  have e3 := mean_shift (putE y t x) [] 0 2 (by decide)
  rw [Nat.zero_add] at e3
  rw [← e3, e2]
  rfl
/-- a meaning is small, and no more were begun than may be -/
theorem eval_bounds (x : E) : (evalP x).2.1 ≤ 1000 ∧ (evalP x).1.size ≤ 256 := by
  unfold evalP
  split
  · exact ⟨by decide, by decide⟩
  · rename_i h
    rw [Bool.not_eq_false] at h
    have h1 := (mean_rg x [] 0 (by decide)).2.1
    have h2 := mean_small x (good_wf h) [] 0
    cases hm : mean x [] 0 with
    | ok s n => rw [hm] at h1; exact ⟨h1, h2 s n hm⟩
    | bad n e => rw [hm] at h1; exact ⟨h1, Nat.zero_le 256⟩
end Ev
end Go.Proofs.YtflhmoelenmomaaGreatDoor
