/-
  Rows for the law CodeBack: what is appended to, what is written over.
-/
import Derived.Test.YtjfchdgdgbdeeaaDoorCodeReads
import Derived.Test.YtjfchdgdgbdeeaaDoorCodeAloneB
namespace Go.Proofs.YtjfchdgdgbdeeaaDoor
open Go.RowKit
namespace Cd

theorem PS.of_own' {W : World} {B : Nat} {v : Value} {p : List I} (h : W.ownsRow B 31 3 v p.length (rowI p)) (hs : p.length * 32 ≤ 140737488355328) (hnb : ∀ x ∈ p, -9223372036854775808 ≤ x.n ∧ x.n ≤ 9223372036854775807) : PS W v p := by
  obtain ⟨sl, cap, rfl⟩ := own_form h
  refine ⟨by omega, hnb, sl, cap, rfl, fun k x hk => ?_⟩
  have hk0 : k < p.length := (List.getElem?_eq_some_iff.1 hk).1
  obtain ⟨g, c, e, _, hlt⟩ := h.form (by omega)
  cases e
  have hadd : ∀ n, (⟨g, 0, none⟩ : Addr).add n = ⟨g, n, none⟩ := fun n => by unfold Addr.add; split <;> simp_all
  obtain ⟨h1, h2, h3⟩ := row3_get (p.map insQ) k (insQ x) (by rw [List.getElem?_map, hk]; rfl)
  have c1 := h.cells (g := g) rfl _ _ h1
  have c2 := h.cells (g := g) rfl _ _ h2
  have c3 := h.cells (g := g) rfl _ _ h3
  rw [hadd] at c1 c2 c3
  exact ⟨g, 0, rfl, hlt, by rw [Nat.zero_add]; exact c1, by rw [Nat.zero_add]; exact c2, by rw [Nat.zero_add]; exact c3⟩
theorem SR.of_ps {W : World} {sl : Option Addr} {cap : Nat} {p : List I} (h : PS W (.slice sl p.length cap) p) (hn : sl = none → cap = 0) : SR W (.slice sl p.length cap) p := by
  by_cases hp : p = []
  · subst hp
    cases sl with
    | none => rw [hn rfl]; exact .inl ⟨rfl, rfl⟩
    | some a => exact .inr ⟨a, cap, rfl, fun j u hj => by simp [rowI, row3] at hj⟩
  · obtain ⟨b, o, rfl, hb, hc⟩ := h.cells hp
    refine .inr ⟨_, cap, rfl, fun j u hj => ?_⟩
    rw [show (⟨b, o, none⟩ : Addr).add j = ⟨b, o + j, none⟩ by unfold Addr.add; split <;> simp_all]
    exact hc j u hj
theorem wpList_append_sr {ops : Array Oper} {Q : Exit → Act → World → Prop} {rest : List Oper} {o : Oper} {a : Act} {w : World} (hgd : o.guard = none) (s x : Operand)
    (ho : o.op = .call { callee := .builtin .append, args := #[s, x], argTypes := #[22, 22] })
    (base : Nat) (v : Value) (p : List I) (hs : a.eval s = v) (hown : w.ownsRow base 31 3 v p.length (rowI p))
    (vs : Value) (q : List I) (hx : a.eval x = vs) (hq : SR w vs q) (hpl : (p.length + q.length) * 32 ≤ 140737488355328) (hbase : base ≤ w.heap.size)
    (h : ∀ v' w', w'.ownsRow base 31 3 v' (p ++ q).length (rowI (p ++ q)) → w.grownBy w' v.ownBlock → wpList Tryd.prog ops Q rest (a.put o.dst v') w') : wpList Tryd.prog ops Q (o :: rest) a w :=
  wpList_plain hgd fun _ hK => by
    obtain ⟨i0, hi0, hz0, hz1, hz2⟩ := info_parts info_ins
    rcases hq with ⟨rfl, rfl⟩ | ⟨ad, c, rfl, hc⟩
    · have hrun := run_append_owned_none (P := Tryd.prog) (w := w) base 22 o.type 31 i0 3 Tryd.underlying22 hi0 v p.length (rowI p) hown
      unfold Oper.wp
      simp [execOp, ho, resolve, invoke, builtin, hs, hx, hrun, Result.andThen]
      exact hK _ _ (h v w (by simpa using hown) ⟨rfl, rfl, rfl, Nat.le_refl _, fun _ _ _ => rfl⟩)
    · refine wp_append_own w s x 22 ho base 31 i0 _ 3 32 Tryd.underlying22 hi0 hz0 hz1 hz2 rfl (by decide) v p.length (rowI p) hs hown ad q.length c (rowI q) hx (rowI_len q) hc (rowI_one q) (by unfold maxLen; omega) hpl hbase ?_
      intro v' w' h1 h2 _
      refine hK _ _ (h v' w' ?_ h2)
      rw [rowI_app, List.length_append]
      exact h1
/-- a block that can be written over -/
structure CE (w : World) (g n : Nat) : Prop where
  lt : g < w.heap.size
  ex : ∀ j, j < n → ∃ u, w.cell? ⟨g, j, none⟩ = some u
  fz : ∀ j, w.frozen? ⟨g, j, none⟩ = false
theorem CE.set {w : World} {g n : Nat} (h : CE w g n) (i : Nat) (v : Value) : CE (w.setCell ⟨g, i, none⟩ v) g n := by
  refine ⟨by simpa [World.setCell] using h.lt, fun j hj => ?_, fun j => by rw [World.frozen?_setCell]; exact h.fz j⟩
  obtain ⟨u, hu⟩ := h.ex j hj
  by_cases hij : i = j
  · subst hij
    exact ⟨v, World.cell?_setCell_same _ _ _ hu⟩
  · exact ⟨u, by rw [World.cell?_setCell_other _ _ _ _ (by simp)]; exact hu⟩
theorem CE.of_own {w : World} {B g n cap : Nat} {xs : List Value} (h : w.ownsRow B 31 3 (.slice (some ⟨g, 0, none⟩) n cap) n xs) (hl : n * 3 ≤ xs.length) : CE w g (n * 3) := by
  obtain ⟨cur, hcur⟩ := own_u8 h (k := g) rfl
  have hlt : g < w.heap.size := (h.lt g rfl).2
  refine ⟨hlt, fun j hj => ?_, fun j => by simp [World.frozen?, hcur]⟩
  have hx : xs[j]? = some (xs[j]'(by omega)) := List.getElem?_eq_getElem _
  have hc := h.cells (g := g) rfl _ _ hx
  rw [show (⟨g, 0, none⟩ : Addr).add j = ⟨g, j, none⟩ by unfold Addr.add; split <;> simp_all] at hc
  exact ⟨_, hc⟩
theorem dp_prog (p : List I) : dp (progT p) ≤ 32 := by
  have h1 : ∀ ts : List ByteArray, dps (ts.map .leaf) = 0 := fun ts => by
    induction ts with
    | nil => rfl
    | cons t ts ih => simp [dps, dp, ih]
  have h2 : ∀ q : List I, dps (q.map insT) ≤ 1 := fun q => by
    induction q with
    | nil => simp [dps]
    | cons x q ih =>
      simp only [List.map_cons, dps, insT, dp, h1]
      omega
  have := h2 p
  simp only [progT, dp]
  omega
/-- what can be written is read as it is -/
theorem dec_back {p : List I} (hc : (check p).2 = 0) (hn : ∀ x ∈ p, N64 x) (hl : (enc (progT p)).length ≤ 65536) : dec (enc (progT p)) = (0, p) :=
  dec_ok (parse_back (dp_prog p) hl) ⟨rfl, hc, hn⟩
theorem env_parts (p : List I) : ∃ (σ : ByteArray) (n : Int), ENV p = .tuple #[.string σ, .int .i64 n] ∧ (n ≠ 0 → σ = ⟨#[]⟩) ∧ (n = 0 → (check p).2 = 0 ∧ (enc (progT p)).length ≤ 65536 ∧ σ.data.toList = enc (progT p)) := by
  by_cases hc : (check p).2 = 0
  · by_cases hl : 65536 < (enc (progT p)).length
    · exact ⟨⟨#[]⟩, 3, by rw [ENV_ok hc, EV_tt hl], fun _ => rfl, fun h => by cases h⟩
    · exact ⟨_, 0, by rw [ENV_ok hc, EV_ff hl], fun h => absurd rfl h, fun _ => ⟨hc, by omega, by simp⟩⟩
  · exact ⟨⟨#[]⟩, (check p).2, ENV_bad hc, fun _ => rfl, fun h => absurd h hc⟩
end Cd
end Go.Proofs.YtjfchdgdgbdeeaaDoor
