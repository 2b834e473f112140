/-
  A region that draws its order, by an invariant: the operations that but read leave known values, whenever they are done.
-/
import Derived.Test.YtipcockcndnipaaDoorInv
import Derived.Laws.AppendOwn
import Derived.Maps.AppendAt
namespace Go.Proofs.YtipcockcndnipaaDoor
open Go.RowKit
namespace Mix

theorem put_ne {a : Act} {k j : Nat} {v : Value} (h : j ≠ k) : (a.put (some k) v).tmps[j]? = a.tmps[j]? := by
  simp [Act.put, Ne.symm h]
theorem put_eq {a : Act} {k : Nat} {v : Value} (h : k < a.tmps.size) : (a.put (some k) v).tmps[k]? = some v := by
  simp [Act.put, h]
theorem put_size (a : Act) (k : Nat) (v : Value) : (a.put (some k) v).tmps.size = a.tmps.size := by simp [Act.put]
theorem put_defers (a : Act) (k : Nat) (v : Value) : (a.put (some k) v).defers = a.defers := rfl
theorem eval_of {a : Act} {k : Nat} {v : Value} (h : a.tmps[k]? = some v) : a.eval (.tmp k) = v := by
  obtain ⟨hk, e⟩ := Array.getElem?_eq_some_iff.1 h
  simp [Act.eval, Array.getD, hk, e]
/-- quiet: the place is an operation's that but reads; slot, V: its slot and value; own: the slots that the region writes; St: what holds of the others -/
structure RJ (quiet : Nat → Bool) (slot : Nat → Nat) (V : Nat → Value) (own : Nat → Bool) (St : Done → Act → World → Prop) (a0 : Act) (d : Done) (a : Act) (w : World) : Prop where
  df : a.defers = a0.defers
  sz : a.tmps.size = a0.tmps.size
  oth : ∀ k, own k = false → a.tmps[k]? = a0.tmps[k]?
  qv : ∀ i, quiet i = true → d i = true → a.tmps[slot i]? = some (V i)
  st : St d a w
section
variable {quiet : Nat → Bool} {slot : Nat → Nat} {V : Nat → Value} {own : Nat → Bool} {St : Done → Act → World → Prop} {a0 : Act} {d : Done} {a : Act} {w : World}
theorem RJ.read (h : RJ quiet slot V own St a0 d a w) {i : Nat} (hq : quiet i = true) (ho : own (slot i) = true) (hs : slot i < a0.tmps.size) (hj : ∀ j, quiet j = true → slot j = slot i → j = i)
    (hst : St (d.add i) (a.put (some (slot i)) (V i)) w) : RJ quiet slot V own St a0 (d.add i) (a.put (some (slot i)) (V i)) w :=
  ⟨h.df, (put_size _ _ _).trans h.sz, fun k hk => (put_ne (fun e => by rw [e, ho] at hk; cases hk)).trans (h.oth k hk), fun j hqj hdj => by
    by_cases e : slot j = slot i
    · have := hj j hqj e
      subst this
      exact put_eq (by rw [h.sz]; exact hs)
    · refine (put_ne e).trans (h.qv j hqj ?_)
      rcases Done.add_inv hdj with e' | e'
      · subst e'
        exact absurd rfl e
      · exact e', hst⟩
theorem RJ.eff (h : RJ quiet slot V own St a0 d a w) {i : Nat} (hq : quiet i = false) {s : Nat} {v : Value} {w' : World} (ho : own s = true) (hne : ∀ j, quiet j = true → slot j ≠ s)
    (hst : St (d.add i) (a.put (some s) v) w') : RJ quiet slot V own St a0 (d.add i) (a.put (some s) v) w' :=
  ⟨h.df, (put_size _ _ _).trans h.sz, fun k hk => (put_ne (fun e => by rw [e, ho] at hk; cases hk)).trans (h.oth k hk), fun j hqj hdj => by
    refine (put_ne (hne j hqj)).trans (h.qv j hqj ?_)
    rcases Done.add_inv hdj with e' | e'
    · subst e'
      rw [hq] at hqj
      cases hqj
    · exact e', hst⟩
theorem RJ.skip (h : RJ quiet slot V own St a0 d a w) {i : Nat} (hq : quiet i = false) {w' : World} (hst : St (d.add i) a w') : RJ quiet slot V own St a0 (d.add i) a w' :=
  ⟨h.df, h.sz, h.oth, fun j hqj hdj => by
    refine h.qv j hqj ?_
    rcases Done.add_inv hdj with e' | e'
    · subst e'
      rw [hq] at hqj
      cases hqj
    · exact e', hst⟩
theorem fold_get (a : Act) : ∀ (ps : List (Nat × Value)) (b : Act), b.tmps.size = a.tmps.size → (∀ p ∈ ps, a.tmps[p.1]? = some p.2) → ∀ k, (ps.foldl (fun x p => x.put (some p.1) p.2) b).tmps[k]? = if k ∈ ps.map (·.1) then a.tmps[k]? else b.tmps[k]?
  | [], b, _, _, k => by simp
  | p :: ps, b, hb, h, k => by
    have hp := h p (.head _)
    have hlt : p.1 < b.tmps.size := by rw [hb]; exact (Array.getElem?_eq_some_iff.1 hp).1
    rw [List.foldl_cons, fold_get a ps (b.put (some p.1) p.2) ((put_size _ _ _).trans hb) (fun q hq => h q (.tail _ hq)) k]
    by_cases h1 : k ∈ ps.map (·.1)
    · rw [if_pos h1, if_pos (by simp only [List.map_cons, List.mem_cons]; exact .inr h1)]
    · rw [if_neg h1]
      by_cases h2 : k = p.1
      · subst h2
        rw [if_pos (by simp), put_eq hlt, hp]
      · rw [if_neg (by simp only [List.map_cons, List.mem_cons]; rintro (e | e); exact h2 e; exact h1 e), put_ne h2]
/-- the frame behind the region -/
theorem fold_eq {a b : Act} (ps : List (Nat × Value)) (hd : a.defers = b.defers) (hs : a.tmps.size = b.tmps.size) (h : ∀ p ∈ ps, a.tmps[p.1]? = some p.2) (ho : ∀ k, k ∉ ps.map (·.1) → a.tmps[k]? = b.tmps[k]?) :
    a = ps.foldl (fun x p => x.put (some p.1) p.2) b := by
  have h1 : ∀ (ps : List (Nat × Value)) (b : Act), (ps.foldl (fun x p => x.put (some p.1) p.2) b).defers = b.defers := by
    intro ps
    induction ps with
    | nil => intro b; rfl
    | cons p ps ih => intro b; rw [List.foldl_cons, ih]; rfl
  have h2 : a.tmps = (ps.foldl (fun x p => x.put (some p.1) p.2) b).tmps := Array.ext_getElem? fun k => by
    rw [fold_get a ps b hs.symm h k]
    by_cases hk : k ∈ ps.map (·.1)
    · rw [if_pos hk]
    · rw [if_neg hk]; exact ho k hk
  have h3 := h1 ps b
  generalize ps.foldl (fun x p => x.put (some p.1) p.2) b = c at *
  obtain ⟨t, e⟩ := a
  obtain ⟨t', e'⟩ := c
  simp only at *
  subst h2
  rw [hd, ← h3]
end
theorem wp_append_at {P : Program} (w : World) {o : Oper} {a : Act} {K : Act → World → Prop} {Q : Exit → Act → World → Prop} (s x : Operand) (t : TypeId)
    (ho : o.op = .call { callee := .builtin .append, args := #[s, x], argTypes := #[t, t] })
    (base : Nat) (e : TypeId) (i : TypeInfo) (z : Value) (size bytes : Nat) (ht : P.underlying t = some (.slice e)) (hi : P.info? e = some i) (hz : i.zero = some z)
    (hsize : i.size = size) (hby : i.bytes = bytes) (hzs : z.cells.size = size) (hsz : 0 < size)
    (v : Value) (n : Nat) (xs : List Value) (hs : a.eval s = v) (hown : w.ownsRow base e size v n xs)
    (ad : Addr) (m c : Nat) (news : List Value) (hx : a.eval x = .slice (some ad) m c) (hl : news.length = m * size) (hnews : ∀ j u, news[j]? = some u → w.cell? (ad.add j) = some u) (h1 : ∀ u ∈ news, u.oneCell' = true)
    (h63 : n + m ≤ maxLen) (hbytes : (n + m) * bytes ≤ 140737488355328) (hbase : base ≤ w.heap.size)
    (h : ∀ v' w', w'.ownsRow base e size v' (n + m) (xs ++ news) → w.grownBy w' v.ownBlock → (v'.ownBlock = v.ownBlock ∨ v'.ownBlock = some w.heap.size) → K (a.put o.dst v') w') : o.wp P a w K Q := by
  obtain ⟨v', w', hr, h2, h3, _, h5⟩ := run_append_own_at (P := P) w base t o.type e i z size bytes ht hi hz hsize hby hzs hsz v n xs hown ad m c news hl hnews h1 h63 hbytes hbase
  unfold Oper.wp execOp
  simp only [ho, resolve, invoke, builtin, Sem.run_bind, Sem.run_pure, Result.andThen_ok, List.map_toArray, List.map_cons, List.map_nil, hs, hx, hr]
  exact h v' w' h2 h3 h5
theorem not_done {l : List Oper} {d : Done} (hcl : Closed l d) {j : Nat} {o : Oper} (ho : l[j]? = some o) {e : Edge} (he : e ∈ o.after.toList) (hb : Region.binds .any e = true) (hn : d e.on = false) : d j = false := by
  cases hd : d j with
  | false => rfl
  | true => rw [hcl j o ho hd e he hb] at hn; cases hn
end Mix
end Go.Proofs.YtipcockcndnipaaDoor
