/-
  Plain: what a recipe means.
-/
import Derived.Test.YtflhmoelenmomaaGreatDoorMEvRA
import Derived.Test.YtflhmoelenmomaaGreatDoorMSgZ
import Derived.Deep.AppendLies
import Derived.Test.YtflhmoelenmomaaGreatDoorMEvI
import Derived.Test.YtflhmoelenmomaaGreatDoorMRcFin
namespace Go.Proofs.YtflhmoelenmomaaGreatDoor
open Go.RowKit Go.Lib
namespace Ev
open Rc

/-- an input: its name, its range -/
structure Dp where
  name : ByteArray
  rng : List Sg.G
/-- what Parse of a range means -/
def rngP (s : List UInt8) : Except Int (List Sg.G) := match Sg.setF s with
  | .error c => .error c
  | .ok l => if 16 < (Sg.joinF (l.mergeSort fun g h => decide (g.1 ≤ h.1))).length then .error 13 else .ok (Sg.joinF (l.mergeSort fun g h => decide (g.1 ≤ h.1)))
/-- what Parse of a range answers -/
def RQ (B : Nat) : Except Int (List Sg.G) → Ending → World → Prop
  | .error c, e, _ => e = .returned (.tuple #[.slice none 0 0, .int .i64 c])
  | .ok r, e, W' => ∃ v', e = .returned (.tuple #[v', .int .i64 0]) ∧ Sg.GO W' B v' r
theorem norm_of (l : List Sg.G) : Sg.Nm (Sg.joinF (l.mergeSort fun g h => decide (g.1 ≤ h.1))) ∧ ∀ n, Sg.inR (Sg.joinF (l.mergeSort fun g h => decide (g.1 ≤ h.1))) n ↔ Sg.inR l n := by
  have hp := List.mergeSort_perm l (fun g h => decide (g.1 ≤ h.1))
  have hs : (l.mergeSort fun g h => decide (g.1 ≤ h.1)).Pairwise fun g h => g.1 ≤ h.1 :=
    (List.pairwise_mergeSort (fun a b c h1 h2 => by simp only [decide_eq_true_eq] at *; omega) (fun a b => by simp only [Bool.or_eq_true, decide_eq_true_eq]; omega) l).imp fun h => of_decide_eq_true h
  obtain ⟨h1, h2⟩ := Sg.join_nm hs
  refine ⟨h1, fun n => (h2 n).trans ?_⟩
  constructor
  · rintro ⟨g, hg, h3⟩
    exact ⟨g, hp.mem_iff.1 hg, h3⟩
  · rintro ⟨g, hg, h3⟩
    exact ⟨g, hp.mem_iff.2 hg, h3⟩
theorem rq_of {B : Nat} {s : List UInt8} {e : Ending} {W' : World} (h : Sg.PQ B (Sg.setF s) e W') : RQ B (rngP s) e W' := by
  unfold rngP
  cases hs : Sg.setF s with
  | error c =>
    rw [hs] at h
    exact h
  | ok l =>
    rw [hs] at h
    obtain ⟨r, hr⟩ := h
    obtain ⟨h1, h2⟩ := norm_of l
    have he : r = Sg.joinF (l.mergeSort fun g h => decide (g.1 ≤ h.1)) := Sg.nm_unique _ _ hr.nm h1 fun n => (hr.mem n).trans (h2 n).symm
    dsimp only
    rw [← he]
    rcases hr.ans with ⟨h3, h4⟩ | ⟨h3, v', h4, h5⟩
    · show RQ B (if 16 < r.length then _ else _) e W'
      rw [if_pos h3]
      exact h4
    · show RQ B (if 16 < r.length then _ else _) e W'
      rw [if_neg h3]
      exact ⟨v', h4, h5⟩
/-- the input that a field means -/
def depP (f : Int × E × E) : Except Int Dp :=
  if 1 ≤ f.1 ∧ f.1 ≤ 3 then match nameP f.2.1 with
    | .error e => .error e
    | .ok s => match textP f.2.2 with
      | .error e => .error e
      | .ok t => match rngP t.data.toList with
        | .error e => .error e
        | .ok r => .ok ⟨s, r⟩
  else .error 1
/-- inputs with one more -/
def moreP (l : List Dp) (d : Dp) : Except Int (List Dp) :=
  if (l.any fun x => decide (x.name = d.name)) = true then .error 11 else if l.length < 8 then .ok (l ++ [d]) else .error 13
structure RSt where
  tool : Option Dp
  build : List Dp
  run : List Dp
def stepP (st : RSt) (f : Int × E × E) : Except Int RSt := match depP f with
  | .error e => .error e
  | .ok d =>
    if f.1 = 1 then (match st.tool with | some _ => .error 11 | none => .ok ⟨some d, st.build, st.run⟩)
    else if f.1 = 2 then (match moreP st.build d with | .error e => .error e | .ok l => .ok ⟨st.tool, l, st.run⟩)
    else (match moreP st.run d with | .error e => .error e | .ok l => .ok ⟨st.tool, st.build, l⟩)
def fieldsM : List (Int × E × E) → RSt → Except Int RSt
  | [], st => .ok st
  | f :: l, st => match stepP st f with
    | .error e => .error e
    | .ok st' => fieldsM l st'
/-- a recipe: the package's name and version, the tool, what it builds with, what it runs with -/
structure Rcp where
  name : ByteArray
  ver : Int × Int × Int
  tool : Dp
  build : List Dp
  run : List Dp
def lastP (n : ByteArray) (v : Int × Int × Int) : Except Int RSt → Except Int Rcp
  | .error e => .error e
  | .ok st => match st.tool with
    | none => .error 14
    | some d => .ok ⟨n, v, d, st.build, st.run⟩
def headP (x : Rc.Src) : Except Int (ByteArray × (Int × Int × Int)) :=
  if x.fields.length ≤ 20 then match nameP x.name with
    | .error e => .error e
    | .ok n => match textP x.version with
      | .error e => .error e
      | .ok t => match Vs.parseL t.data.toList with
        | none => .error 20
        | some v => .ok (n, v)
  else .error 13
def recP (x : Rc.Src) : Except Int Rcp := match headP x with
  | .error e => .error e
  | .ok (n, v) => lastP n v (fieldsM x.fields ⟨none, [], []⟩)
/-! errors are not nought -/
theorem eval_er (x : E) : (evalP x).2.2 = 0 ∨ (evalP x).2.2 = 1 ∨ (evalP x).2.2 = 43 ∨ (evalP x).2.2 = 51 ∨ (evalP x).2.2 = 52 := by
  unfold evalP
  split
  · exact .inr (.inl rfl)
  · cases hm : mean x [] 0 with
    | ok s n => exact .inl rfl
    | bad n e =>
      have := mean_er x [] 0 n e hm
      simp only
      omega
theorem text_er {x : E} {k : Int} (h : textP x = .error k) : k ≠ 0 := by
  unfold textP at h
  split at h
  · cases h
  · cases h
    assumption
theorem name_er {x : E} {k : Int} (h : nameP x = .error k) : k ≠ 0 := by
  unfold nameP at h
  split at h
  · rename_i e he
    cases h
    exact text_er he
  · split at h
    · cases h
    · cases h
      decide
theorem text_small {x : E} {s : ByteArray} (h : textP x = .ok s) : s.size ≤ 256 := by
  unfold textP at h
  split at h
  · cases h
    exact (eval_bounds x).2
  · cases h
theorem name_small {x : E} {s : ByteArray} (h : nameP x = .ok s) : s.size ≤ 256 := by
  unfold nameP at h
  split at h
  · cases h
  · rename_i t ht
    split at h
    · cases h
      exact text_small ht
    · cases h
theorem more_er {l : List Dp} {d : Dp} {k : Int} (h : moreP l d = .error k) : k ≠ 0 := by
  unfold moreP at h
  split at h
  · cases h; decide
  split at h
  · cases h
  · cases h; decide
theorem rng_er {s : List UInt8} {k : Int} (h : rngP s = .error k) : k ≠ 0 := by
  unfold rngP at h
  split at h
  · rename_i c hc
    cases h
    unfold Sg.setF at hc
    split at hc
    · cases hc; decide
    split at hc
    · cases hc
    split at hc
    · cases hc; decide
    · cases hc
  · split at h
    · cases h; decide
    · cases h
theorem dep_er {f : Int × E × E} {k : Int} (h : depP f = .error k) : k ≠ 0 := by
  unfold depP at h
  split at h
  · split at h
    · rename_i e he
      cases h
      exact name_er he
    · split at h
      · rename_i e he
        cases h
        exact text_er he
      · split at h
        · rename_i e he
          cases h
          exact rng_er he
        · cases h
  · cases h; decide
theorem step_er {st : RSt} {f : Int × E × E} {k : Int} (h : stepP st f = .error k) : k ≠ 0 := by
  unfold stepP at h
  split at h
  · rename_i e he
    cases h
    exact dep_er he
  split at h
  · split at h
    · cases h; decide
    · cases h
  split at h
  · split at h
    · rename_i e he
      cases h
      exact more_er he
    · cases h
  · split at h
    · rename_i e he
      cases h
      exact more_er he
    · cases h
theorem more_len {l l' : List Dp} {d : Dp} (h : moreP l d = .ok l') (hl : l.length ≤ 8) : l'.length ≤ 8 := by
  unfold moreP at h
  split at h
  · cases h
  split at h
  · cases h
    simp
    omega
  · cases h
end Ev
end Go.Proofs.YtflhmoelenmomaaGreatDoor

/-
  Inputs in memory: a row of one's own.
-/
namespace Go.Proofs.YtflhmoelenmomaaGreatDoor
open Go.RowKit Go.Lib
namespace Ev
open Rc

theorem info_dep : (Tryz.prog.info? 42).map (fun i => (i.zero, i.size, i.bytes)) = some (some (.agg #[.string ⟨#[]⟩, .slice none 0 0]), 2, 40) := by kernel_rfl
/-- an input's two cells -/
structure DV where
  σ : ByteArray
  ra : Option Addr
  rn : Nat
  rc : Nat
abbrev DV.rv (q : DV) : Value := .slice q.ra q.rn q.rc
def DV.cells (q : DV) : List Value := [.string q.σ, q.rv]
def rowD (l : List DV) : List Value := l.flatMap DV.cells
theorem rowD_len : ∀ l : List DV, (rowD l).length = l.length * 2
  | [] => rfl
  | a :: l => by
    have := rowD_len l
    simp only [rowD, List.flatMap_cons, List.length_append, List.length_cons, DV.cells, List.length_nil] at *
    omega
theorem rowD_app (a b : List DV) : rowD (a ++ b) = rowD a ++ rowD b := List.flatMap_append
theorem rowD_at : ∀ (l : List DV) (k : Nat) (a : DV), l[k]? = some a → (rowD l)[k * 2]? = some (.string a.σ) ∧ (rowD l)[k * 2 + 1]? = some a.rv
  | [], k, a, h => by simp at h
  | b :: l, 0, a, h => by simp at h; subst h; exact ⟨rfl, rfl⟩
  | b :: l, k + 1, a, h => by
    have ih := rowD_at l k a (by simpa using h)
    rw [show (k + 1) * 2 = k * 2 + 2 by omega]
    exact ih
theorem rowD_one (l : List DV) : ∀ v ∈ rowD l, v.oneCell' = true := by
  intro v hv
  obtain ⟨p, _, hp⟩ := List.mem_flatMap.1 hv
  simp [DV.cells] at hp
  rcases hp with rfl | rfl <;> rfl
/-- an input in memory -/
def DO1 (W : World) (B : Nat) (q : DV) (d : Dp) : Prop := q.σ = d.name ∧ Sg.GO W B q.rv d.rng
/-- inputs in memory -/
structure DO (W : World) (B : Nat) (v : Value) (qs : List DV) (ds : List Dp) : Prop where
  row : W.ownsRow B 42 2 v qs.length (rowD qs)
  len : qs.length = ds.length
  at_ : ∀ (i : Nat) (q : DV) (d : Dp), qs[i]? = some q → ds[i]? = some d → DO1 W B q d
theorem DO.nil (W : World) (B : Nat) : DO W B (.slice none 0 0) [] [] := ⟨World.ownsRow_nil _ _ _ _, rfl, fun i q d h => by simp at h⟩
theorem go_move {W W' : World} {B : Nat} {v : Value} {l : List Sg.G} (h : Sg.GO W B v l) (hb : ∀ (g : Nat) (cs : Array Value), W.heap[g]? = some (Obj.cells cs 55 (0, 0)) → B ≤ g → W'.heap[g]? = W.heap[g]?) : Sg.GO W' B v l := by
  refine ⟨h.1, h.2.imp id ?_⟩
  rintro ⟨g, cap, cur, rfl, h1, h2, h3⟩
  exact ⟨g, cap, cur, rfl, h1, (hb g _ h2 h1).trans h2, h3⟩
theorem DO.move {W W' : World} {B : Nat} {v : Value} {qs : List DV} {ds : List Dp} (h : DO W B v qs ds) (hb : ∀ (g : Nat) (cs : Array Value) (T : TypeId), T = 55 ∨ T = 42 → W.heap[g]? = some (Obj.cells cs T (0, 0)) → B ≤ g → W'.heap[g]? = W.heap[g]?) : DO W' B v qs ds := by
  refine ⟨⟨h.row.1, h.row.2.imp id ?_⟩, h.len, fun i q d hq hd => ⟨(h.at_ i q d hq hd).1, go_move (h.at_ i q d hq hd).2 fun g cs hg hB => hb g cs _ (.inl rfl) hg hB⟩⟩
  rintro ⟨g, cap, cur, rfl, h1, h2, h3⟩
  exact ⟨g, cap, cur, rfl, h1, (hb g _ _ (.inr rfl) h2 h1).trans h2, h3⟩
theorem DO.keep {W W' : World} {B : Nat} {v : Value} {qs : List DV} {ds : List Dp} (h : DO W B v qs ds) (hb : Below W.heap.size W W') : DO W' B v qs ds :=
  h.move fun g _ _ _ hg _ => hb.block g (Array.getElem?_eq_some_iff.1 hg).1
theorem go_form {W : World} {B : Nat} {v : Value} {l : List Sg.G} (h : Sg.GO W B v l) : ∃ ra rn rc, v = .slice ra rn rc := by
  rcases h.2 with ⟨rfl, _⟩ | ⟨g, cap, cur, rfl, _⟩ <;> exact ⟨_, _, _, rfl⟩
theorem DO.form {W : World} {B : Nat} {v : Value} {qs : List DV} {ds : List Dp} (h : DO W B v qs ds) : ∃ ba bc, v = .slice ba ds.length bc ∧ ds.length ≤ bc := by
  rw [← h.len]
  rcases h.row.2 with ⟨rfl, h0⟩ | ⟨g, cap, cur, rfl, _, _, h1, _⟩
  · exact ⟨none, 0, by rw [h0], by omega⟩
  · exact ⟨_, _, rfl, h1⟩
theorem DO.cellsAt {W : World} {B : Nat} {v : Value} {qs : List DV} {ds : List Dp} (h : DO W B v qs ds) {i : Nat} {d : Dp} (hd : ds[i]? = some d) :
    ∃ g q cap, v = .slice (some ⟨g, 0, none⟩) ds.length cap ∧ B ≤ g ∧ g < W.heap.size ∧ qs[i]? = some q ∧ DO1 W B q d ∧ W.cell? ⟨g, i * 2, none⟩ = some (.string d.name) ∧ W.cell? ⟨g, i * 2 + 1, none⟩ = some q.rv := by
  have hi : i < qs.length := by rw [h.len]; exact (List.getElem?_eq_some_iff.1 hd).1
  obtain ⟨g, cap, h1, h2, h3⟩ := h.row.form (by omega)
  have hq : qs[i]? = some qs[i] := List.getElem?_eq_getElem hi
  have ho := h.at_ i _ d hq hd
  obtain ⟨a1, a2⟩ := rowD_at qs i _ hq
  have hadd : ∀ n, (⟨g, 0, none⟩ : Addr).add n = ⟨g, n, none⟩ := fun n => by unfold Addr.add; split <;> simp_all
  have b1 := h.row.cells (g := g) (by rw [h1]; rfl) _ _ a1
  have b2 := h.row.cells (g := g) (by rw [h1]; rfl) _ _ a2
  rw [hadd] at b1 b2
  rw [ho.1] at b1
  exact ⟨g, qs[i], cap, by rw [h1, h.len], h2, h3, hq, ho, b1, b2⟩
end Ev
end Go.Proofs.YtflhmoelenmomaaGreatDoor

/-
  Inputs with one more: eval's more.
-/
namespace Go.Proofs.YtflhmoelenmomaaGreatDoor
open Go.RowKit Go.Lib
namespace Ev
open Rc

theorem seq_iff {a b : ByteArray} : (a.toList == b.toList) = decide (a = b) := by
  rw [Bool.eq_iff_iff]
  simp only [beq_iff_eq, decide_eq_true_eq]
  constructor
  · intro e
    rw [ByteArray.toList_eq, ByteArray.toList_eq] at e
    exact ByteArray.ext (Array.toList_inj.1 e)
  · intro e
    rw [e]
set_option maxHeartbeats 1000000 in
set_option maxRecDepth 100000 in
theorem hasd_any (a : ByteArray) (ra : Option Addr) (rn rc : Nat) (nm : ByteArray) (bx : Nat) (W : World) (hbx : bx < W.heap.size) (hv : W.cell? ⟨bx, 0, none⟩ = some (.string nm)) :
    Calls Tryz.prog 53 #[.agg #[.string a, .slice ra rn rc], .pointer (some ⟨bx, 0, none⟩)] W fun e W' => e = .returned (.bool (decide (a = nm))) ∧ Below W.heap.size W W' := by
  have hA : Below W.heap.size W (W.alloc (.cells #[.string a, .slice ra rn rc] 42)) := (Below.refl _ _).alloc (Nat.le_refl _) _
  have hv' := (hA.cell (p := ⟨bx, 0, none⟩) hbx).trans hv
  rw [← seq_iff]
  go_enter Tryz.func53, Tryz.ntmps53
  go_wp2_with fail
  go_ret
  exact ⟨rfl, hA⟩
def hasN (ds : List Dp) (nm : ByteArray) : Bool := ds.any fun x => decide (x.name = nm)
theorem hasN_none {ds : List Dp} {nm : ByteArray} (h : ∀ x ∈ ds, decide (x.name = nm) = false) : hasN ds nm = false := by
  unfold hasN
  rw [List.any_eq_false]
  intro x hx
  rw [h x hx]
  decide
theorem hasN_at {ds : List Dp} {nm : ByteArray} {k : Nat} {d : Dp} (hd : ds[k]? = some d) (h : decide (d.name = nm) = true) : hasN ds nm = true := by
  unfold hasN
  rw [List.any_eq_true]
  exact ⟨d, List.mem_of_getElem? hd, h⟩
theorem hasN_step {ds : List Dp} {nm : ByteArray} {k : Nat} {d : Dp} (hd : ds[k]? = some d) (hn : ∀ x ∈ ds.take k, decide (x.name = nm) = false) (h : decide (d.name = nm) = false) : ∀ x ∈ ds.take (k + 1), decide (x.name = nm) = false := by
  intro x hx
  rw [List.take_add_one, hd] at hx
  rcases List.mem_append.1 hx with hx | hx
  · exact hn x hx
  · simp at hx
    subst hx
    exact h
set_option maxHeartbeats 1000000 in
set_option maxRecDepth 100000 in
theorem indexd_any (ds : List Dp) (qs : List DV) (B : Nat) (v : Value) (nm : ByteArray) (bx : Nat) (W : World) (hP : DO W B v qs ds) (hl : ds.length ≤ 1000) (hbx : bx < W.heap.size) (hv : W.cell? ⟨bx, 0, none⟩ = some (.string nm)) :
    Calls Tryz.prog 78 #[v, .func (.func 53) #[] #[.pointer (some ⟨bx, 0, none⟩)]] W fun e W' => ∃ i : Int, e = .returned (.int .i64 i) ∧ decide (0 ≤ i) = hasN ds nm ∧ Below W.heap.size W W' := by
  obtain ⟨ba, bc, rfl, hbc⟩ := hP.form
  have HP := Lib.hid hP
  clear hP
  go_enter Tryz.func78, Tryz.ntmps78
  go_wp2_with fail
  go_loopw [8] (fun i wr => ∃ k : Nat, k ≤ ds.length ∧ i = .int .i64 (k : Int) ∧ (∀ x ∈ ds.take k, decide (x.name = nm) = false) ∧ Below W.heap.size W wr) (fun i _ => ds.length - (intOf i).toNat)
  case atStart => exact ⟨0, Nat.zero_le _, rfl, fun x h => by simp at h, Below.refl _ _⟩
  case round =>
    obtain ⟨k, hk, rfl, hn, hb⟩ := hrel
    by_cases hlt : k < ds.length
    · obtain ⟨d, hd⟩ : ∃ d, ds[k]? = some d := ⟨ds[k], List.getElem?_eq_getElem hlt⟩
      obtain ⟨g, q, cap, hv1, hB1, hg1, hq1, hdo, d0, d1⟩ := HP.out.cellsAt hd
      simp only [Value.slice.injEq] at hv1
      obtain ⟨rfl, -, rfl⟩ := hv1
      have c0 := (hb.cell (p := ⟨g, k * 2, none⟩) hg1).trans d0
      have c1 := (hb.cell (p := ⟨g, k * 2 + 1, none⟩) hg1).trans d1
      have hcl := hasd_any d.name q.ra q.rn q.rc nm bx wr (Nat.lt_of_lt_of_le hbx hb.size) ((hb.cell (p := ⟨bx, 0, none⟩) hbx).trans hv)
      have HNS := Lib.hid (fun h => hasN_step hd hn h)
      have HIN := Lib.hid (fun h => hasN_at (nm := nm) hd h)
      clear hd hn d0 d1 hdo hq1
      cases hc : decide (d.name = nm) with
      | true =>
        have HR := Lib.hid (HIN.out hc)
        rw [hc] at hcl
        clear hc
        go_wp2_with (go_at_call 53; refine hcl.mono ?_; clear hcl; rintro e w2 ⟨rfl, hb2⟩)
        go_ret
        rw [HR.out]
        exact ⟨_, rfl, decide_eq_true (by omega), hb.trans (hb2.mono hb.size)⟩
      | false =>
        have HR := Lib.hid (HNS.out hc)
        rw [hc] at hcl
        clear hc
        go_wp2_with (go_at_call 53; refine hcl.mono ?_; clear hcl; rintro e w2 ⟨rfl, hb2⟩)
        go_roundw
        case rel => exact ⟨k + 1, by omega, by go_num, HR.out, hb.trans (hb2.mono hb.size)⟩
        case measure => simp [intOf]; omega
    · obtain rfl : k = ds.length := by omega
      rw [List.take_length] at hn
      have HR := Lib.hid (hasN_none hn)
      clear hn
      go_wp2_with fail
      go_ret
      rw [HR.out]
      exact ⟨_, rfl, by decide, hb⟩
set_option maxHeartbeats 1000000 in
theorem containsd_any (ds : List Dp) (qs : List DV) (B : Nat) (v : Value) (nm : ByteArray) (bx : Nat) (W : World) (hP : DO W B v qs ds) (hl : ds.length ≤ 1000) (hbx : bx < W.heap.size) (hv : W.cell? ⟨bx, 0, none⟩ = some (.string nm)) :
    Calls Tryz.prog 52 #[v, .func (.func 53) #[] #[.pointer (some ⟨bx, 0, none⟩)]] W fun e W' => e = .returned (.bool (hasN ds nm)) ∧ Below W.heap.size W W' := by
  have hi := indexd_any ds qs B v nm bx W hP hl hbx hv
  obtain ⟨ba, bc, rfl, -⟩ := hP.form
  clear hP
  go_enter Tryz.func52, Tryz.ntmps52
  go_wp2_with (go_at_call 78; refine hi.mono ?_; clear hi; rintro e w2 ⟨i, rfl, hh, hb2⟩; have HH := Lib.hid hh; clear hh)
  go_ret
  rw [← HH.out]
  exact ⟨rfl, hb2⟩
end Ev
end Go.Proofs.YtflhmoelenmomaaGreatDoor

/-
  Inputs with one more: eval's more, whole.
-/
namespace Go.Proofs.YtflhmoelenmomaaGreatDoor
open Go.RowKit Go.Lib
namespace Ev
open Rc

theorem grown_below {W W' : World} {row : Option Nat} (h : Below W.heap.size W W') : W.grownBy W' row := ⟨h.os, h.tape, h.output, h.size, fun k hk _ => h.block k hk⟩
/-- a change of the row's own block alone leaves the ranges as they are -/
theorem DO1.grown {W W' : World} {B e size n : Nat} {v : Value} {xs : List Value} {q : DV} {d : Dp} (h : DO1 W B q d) (hr : W.ownsRow B e size v n xs) (he : e ≠ 55) (hg : W.grownBy W' v.ownBlock) : DO1 W' B q d :=
  ⟨h.1, go_move h.2 fun g cs hgg _ => hg.block g (Array.getElem?_eq_some_iff.1 hgg).1 fun ee => he (by
    obtain ⟨cs', h3⟩ := own_type hr ee.symm
    rw [hgg] at h3
    cases h3
    rfl)⟩
theorem DO.snoc {W W' : World} {B : Nat} {v : Value} {qs : List DV} {ds : List Dp} (h : DO W B v qs ds) {q : DV} {d : Dp} (hd : DO1 W B q d) (hg : W.grownBy W' v.ownBlock) {g cap : Nat}
    (hown : W'.ownsRow B 42 2 (.slice (some ⟨g, 0, none⟩) (qs.length + 1) cap) (qs.length + 1) (rowD qs ++ q.cells)) : DO W' B (.slice (some ⟨g, 0, none⟩) (qs.length + 1) cap) (qs ++ [q]) (ds ++ [d]) := by
  refine ⟨?_, by simp [h.len], fun i p c hp hc => ?_⟩
  · rw [rowD_app, List.length_append]
    simpa [rowD] using hown
  · by_cases hi : i < qs.length
    · rw [List.getElem?_append_left hi] at hp
      rw [List.getElem?_append_left (by rw [← h.len]; exact hi)] at hc
      exact (h.at_ i p c hp hc).grown h.row (by decide) hg
    · rw [List.getElem?_append_right (by omega)] at hp
      rw [List.getElem?_append_right (by rw [← h.len]; omega)] at hc
      have h0 : i - qs.length = 0 := by
        have := (List.getElem?_eq_some_iff.1 hp).1
        simp at this
        omega
      rw [← h.len, h0] at hc
      rw [h0] at hp
      simp at hp hc
      subst hp hc
      exact hd.grown h.row (by decide) hg
theorem more_eq (ds : List Dp) (d : Dp) : moreP ds d = if hasN ds d.name = true then .error 11 else if ds.length < 8 then .ok (ds ++ [d]) else .error 13 := rfl
/-- how more ends -/
def MQ (W : World) (B : Nat) (v : Value) (qs : List DV) (q : DV) : Except Int (List Dp) → Ending → World → Prop
  | .error k, e, W' => e = .panicked (stopV k) ∧ W.grownBy W' v.ownBlock
  | .ok l, e, W' => W.grownBy W' v.ownBlock ∧ ∃ ba bn bc, e = .returned (.slice ba bn bc) ∧ DO W' B (.slice ba bn bc) (qs ++ [q]) l ∧ ((Value.slice ba bn bc).ownBlock = v.ownBlock ∨ ∀ g, (Value.slice ba bn bc).ownBlock = some g → W.heap.size ≤ g)
set_option maxHeartbeats 1000000 in
set_option maxRecDepth 100000 in
theorem more_any {W : World} {B : Nat} {v : Value} {qs : List DV} {ds : List Dp} (h : DO W B v qs ds) (hB : B ≤ W.heap.size) (hl : ds.length ≤ 8) {q : DV} {d : Dp} (hd : DO1 W B q d) :
    Calls Tryz.prog 31 #[v, .agg #[.string d.name, .slice q.ra q.rn q.rc]] W fun e W' => MQ W B v qs q (moreP ds d) e W' := by
  obtain ⟨i0, hi0, hz0, hz1, hz2⟩ := info_ps info_dep
  have hmf : ∀ (fn : Fn) (first cap : Array Value) (w : World), (Instr.makeFunc fn first cap).run Tryz.prog w = .ok (.func fn first cap) w := fun _ _ _ _ => rfl
  have hA : Below W.heap.size W (W.alloc (.cells #[.string d.name, .slice q.ra q.rn q.rc] 42)) := (Below.refl _ _).alloc (Nat.le_refl _) _
  have hX := heap_alloc_new W (.cells #[.string d.name, .slice q.ra q.rn q.rc] 42)
  have c0 : (W.alloc (.cells #[.string d.name, .slice q.ra q.rn q.rc] 42)).cell? ⟨W.heap.size, 0, none⟩ = some (.string d.name) := by simp only [World.cell?, hX]; rfl
  have c1 : (W.alloc (.cells #[.string d.name, .slice q.ra q.rn q.rc] 42)).cell? ⟨W.heap.size, 1, none⟩ = some (.slice q.ra q.rn q.rc) := by simp only [World.cell?, hX]; rfl
  have hc := containsd_any ds qs B v d.name W.heap.size _ (h.keep hA) (by omega) (by simp) c0
  obtain ⟨ba, bc, rfl, hbc⟩ := h.form
  have HA := Lib.hid hA
  have H1 := Lib.hid h
  have HD := Lib.hid hd
  have hlen := h.len
  clear hA h hd hX
  by_cases h1 : hasN ds d.name = true
  · have HM := Lib.hid (show moreP ds d = .error 11 by rw [more_eq]; exact if_pos h1)
    rw [h1] at hc
    clear h1 hlen
    go_enter Tryz.func31, Tryz.ntmps31
    go_wp2_with (first
      | (go_at_call 52; with_reducible refine hc.mono ?_; rintro e w1 ⟨rfl, hb1⟩; have hb2 := HA.out.trans (hb1.mono HA.out.size); clear hc)
      | (go_at_call 26; with_reducible refine (unless_ff _ _).mono ?_; rintro e w2 ⟨rfl, rfl⟩))
    refine ⟨rfl, ?_⟩
    rw [HM.out]
    exact ⟨rfl, grown_below hb2⟩
  · have h1' : hasN ds d.name = false := by simpa using h1
    rw [h1'] at hc
    by_cases h2 : ds.length < 8
    · have HM := Lib.hid (show moreP ds d = .ok (ds ++ [d]) by rw [more_eq, if_neg h1, if_pos h2])
      clear h1 h1'
      have HL := Lib.hid hlen
      have hq8 : qs.length < 8 := by rw [HL.out]; exact h2
      have HR := Lib.hid (fun (w : World) (hb : Below W.heap.size W w) => (H1.out.keep (hb.alloc hb.size (.cells #[.string d.name, .slice q.ra q.rn q.rc] 42))).row)
      have i8 : decide ((ds.length : Int) < 8) = true := by simp; omega
      clear hlen
      go_enter Tryz.func31, Tryz.ntmps31
      go_wp2_with (first
        | (go_at_call 52; with_reducible refine hc.mono ?_; rintro e w1 ⟨rfl, hb1⟩; have hb2 := HA.out.trans (hb1.mono HA.out.size); have d0 := (hb1.cell (p := ⟨W.heap.size, 0, none⟩) (by simp)).trans c0; have d1 := (hb1.cell (p := ⟨W.heap.size, 1, none⟩) (by simp)).trans c1; clear hc)
        | (go_at_call 26; with_reducible refine (unless_tt _ _).mono ?_; rintro e w2 ⟨rfl, rfl⟩)
        | (at_builtin; refine wpList_append_lies _ rfl _ _ 43 rfl B 42 i0 _ 2 40 Tryz.underlying43 hi0 hz0 hz1 hz2 rfl (by decide) (.slice ba ds.length bc) qs.length _ rfl (HR.out _ hb2) ⟨w2.heap.size, 0, none⟩ 1 1 [.string d.name, .slice q.ra q.rn q.rc] rfl rfl (World.news_of_block (heap_alloc_new w2 _)) (by intro u hu; simp at hu; rcases hu with rfl | rfl <;> rfl) (by decide) ?c3 ?c4 ?c5 (w2.heap.size + 1) (by simp) ?_))
      case c3 => unfold maxLen; omega
      case c4 => omega
      case c5 => have := hb2.size; simp; omega
      intro G c w3 hown2 hgr hat hlt2
      have hA1 := hb2.alloc hb2.size (.cells #[.string d.name, .slice q.ra q.rn q.rc] 42)
      have hK1 : DO1 (w2.alloc (.cells #[.string d.name, .slice q.ra q.rn q.rc] 42)) B q d := ⟨HD.out.1, go_move HD.out.2 fun g cs hg _ => hA1.block g (Array.getElem?_eq_some_iff.1 hg).1⟩
      have HK := Lib.hid (H1.out.keep hA1)
      have HK1 := Lib.hid hK1
      clear hK1
      have hfin := HK.out.snoc HK1.out hgr (by have := HD.out.1; rw [← this] at hown2; exact hown2)
      have hgw := (grown_below (row := (Value.slice ba ds.length bc).ownBlock) hA1).trans hgr
      have HF := Lib.hid (And.intro hfin (And.intro hgw hat))
      have HSZ := Lib.hid hb2.size
      clear hfin hgw hat hown2 hgr hlt2
      go_wp2_with fail
      go_ret
      rw [HM.out]
      refine ⟨HF.out.2.1, _, _, _, rfl, HF.out.1, ?_⟩
      rcases HF.out.2.2 with h5 | h5
      · exact .inl h5.symm
      · refine .inr fun g hg => ?_
        cases hg
        have := HSZ.out
        show W.heap.size ≤ G
        omega
    · have HM := Lib.hid (show moreP ds d = .error 13 by rw [more_eq, if_neg h1, if_neg h2])
      have i8 : decide ((ds.length : Int) < 8) = false := by simp; omega
      clear h1 h1' hlen
      go_enter Tryz.func31, Tryz.ntmps31
      go_wp2_with (first
        | (go_at_call 52; with_reducible refine hc.mono ?_; rintro e w1 ⟨rfl, hb1⟩; have hb2 := HA.out.trans (hb1.mono HA.out.size); clear hc)
        | (go_at_call 26; first | (with_reducible refine (unless_tt _ _).mono ?_; rintro e w2 ⟨rfl, rfl⟩) | (with_reducible refine (unless_ff _ _).mono ?_; rintro e w2 ⟨rfl, rfl⟩)))
      refine ⟨rfl, ?_⟩
      rw [HM.out]
      exact ⟨rfl, grown_below hb2⟩
end Ev
end Go.Proofs.YtflhmoelenmomaaGreatDoor

/-
  eval's Recipe: what it gives up with is caught.
-/
namespace Go.Proofs.YtflhmoelenmomaaGreatDoor
open Go.RowKit Go.Lib
namespace Ev
open Rc

set_option maxRecDepth 100000 in
theorem assert_stop (v : Value) (w : World) : (Instr.typeAssert (.iface 68 v) 20 68 true).run Tryz.prog w = .ok (.tuple #[v, .bool true]) w := rfl
abbrev zero8 : Array Value := #[.string ⟨#[]⟩, .int .i64 0, .int .i64 0, .int .i64 0, .string ⟨#[]⟩, .slice none 0 0, .slice none 0 0, .slice none 0 0]
/-- eight cells are written -/
def put8 (w : World) (g : Nat) (v0 v1 v2 v3 v4 v5 v6 v7 : Value) : World := (((((((w.setCell ⟨g, 0, none⟩ v0).setCell ⟨g, 1, none⟩ v1).setCell ⟨g, 2, none⟩ v2).setCell ⟨g, 3, none⟩ v3).setCell ⟨g, 4, none⟩ v4).setCell ⟨g, 5, none⟩ v5).setCell ⟨g, 6, none⟩ v6).setCell ⟨g, 7, none⟩ v7
theorem put8_heap (w : World) (g k : Nat) (v0 v1 v2 v3 v4 v5 v6 v7 : Value) (h : k ≠ g) : (put8 w g v0 v1 v2 v3 v4 v5 v6 v7).heap[k]? = w.heap[k]? := by
  unfold put8
  rw [Below.heap_setCell _ _ _ _ h, Below.heap_setCell _ _ _ _ h, Below.heap_setCell _ _ _ _ h, Below.heap_setCell _ _ _ _ h, Below.heap_setCell _ _ _ _ h, Below.heap_setCell _ _ _ _ h, Below.heap_setCell _ _ _ _ h, Below.heap_setCell _ _ _ _ h]
theorem put8_same {w : World} {g : Nat} {u0 u1 u2 u3 u4 u5 u6 u7 : Value} {T : TypeId} (h : w.heap[g]? = some (.cells #[u0, u1, u2, u3, u4, u5, u6, u7] T (0, 0))) (v0 v1 v2 v3 v4 v5 v6 v7 : Value) :
    (put8 w g v0 v1 v2 v3 v4 v5 v6 v7).heap[g]? = some (.cells #[v0, v1, v2, v3, v4, v5, v6, v7] T (0, 0)) := by
  have h0 := heap_setCell_same w g 0 _ T v0 h
  simp only [List.setIfInBounds_toArray, List.set_cons_zero] at h0
  have h1 := heap_setCell_same _ g 1 _ T v1 h0
  simp only [List.setIfInBounds_toArray, List.set_cons_succ, List.set_cons_zero] at h1
  have h2 := heap_setCell_same _ g 2 _ T v2 h1
  simp only [List.setIfInBounds_toArray, List.set_cons_succ, List.set_cons_zero] at h2
  have h3 := heap_setCell_same _ g 3 _ T v3 h2
  simp only [List.setIfInBounds_toArray, List.set_cons_succ, List.set_cons_zero] at h3
  have h4 := heap_setCell_same _ g 4 _ T v4 h3
  simp only [List.setIfInBounds_toArray, List.set_cons_succ, List.set_cons_zero] at h4
  have h5 := heap_setCell_same _ g 5 _ T v5 h4
  simp only [List.setIfInBounds_toArray, List.set_cons_succ, List.set_cons_zero] at h5
  have h6 := heap_setCell_same _ g 6 _ T v6 h5
  simp only [List.setIfInBounds_toArray, List.set_cons_succ, List.set_cons_zero] at h6
  have h7 := heap_setCell_same _ g 7 _ T v7 h6
  simp only [List.setIfInBounds_toArray, List.set_cons_succ, List.set_cons_zero] at h7
  exact h7
theorem put8_size (w : World) (g : Nat) (v0 v1 v2 v3 v4 v5 v6 v7 : Value) : (put8 w g v0 v1 v2 v3 v4 v5 v6 v7).heap.size = w.heap.size := by simp [put8]
theorem put8_below {B g : Nat} {W0 w : World} (h : Below B W0 w) (hg : B ≤ g) (v0 v1 v2 v3 v4 v5 v6 v7 : Value) : Below B W0 (put8 w g v0 v1 v2 v3 v4 v5 v6 v7) :=
  (((((((h.setCell (p := ⟨g, 0, none⟩) hg _).setCell (p := ⟨g, 1, none⟩) hg _).setCell (p := ⟨g, 2, none⟩) hg _).setCell (p := ⟨g, 3, none⟩) hg _).setCell (p := ⟨g, 4, none⟩) hg _).setCell (p := ⟨g, 5, none⟩) hg _).setCell (p := ⟨g, 6, none⟩) hg _).setCell (p := ⟨g, 7, none⟩) hg _
theorem obj8 {W : World} {g : Nat} {u0 u1 u2 u3 u4 u5 u6 u7 : Value} {T : TypeId} (h : W.heap[g]? = some (.cells #[u0, u1, u2, u3, u4, u5, u6, u7] T (0, 0))) :
    W.cell? ⟨g, 0, none⟩ = some u0 ∧ W.cell? ⟨g, 1, none⟩ = some u1 ∧ W.cell? ⟨g, 2, none⟩ = some u2 ∧ W.cell? ⟨g, 3, none⟩ = some u3 ∧ W.cell? ⟨g, 4, none⟩ = some u4 ∧ W.cell? ⟨g, 5, none⟩ = some u5 ∧ W.cell? ⟨g, 6, none⟩ = some u6 ∧ W.cell? ⟨g, 7, none⟩ = some u7 :=
  ⟨by simp [World.cell?, h], by simp [World.cell?, h], by simp [World.cell?, h], by simp [World.cell?, h], by simp [World.cell?, h], by simp [World.cell?, h], by simp [World.cell?, h], by simp [World.cell?, h]⟩
theorem frz {W : World} {g : Nat} {cs : Array Value} {T : TypeId} (h : W.heap[g]? = some (.cells cs T (0, 0))) (j : Nat) : W.frozen? ⟨g, j, none⟩ = false := by simp [World.frozen?, h]
set_option maxHeartbeats 1000000 in
set_option maxRecDepth 100000 in
theorem catch_panic {B g0 g1 : Nat} (e : Int) {w : World} {u0 u1 u2 u3 u4 u5 u6 u7 z : Value} (b0 : w.heap[g0]? = some (.cells #[u0, u1, u2, u3, u4, u5, u6, u7] 45 (0, 0))) (b1 : w.heap[g1]? = some (.cells #[z] 27 (0, 0))) (n01 : g0 ≠ g1) (hB0 : B ≤ g0) (hB1 : B ≤ g1) :
    CallsD Tryz.prog 25 #[.pointer (some ⟨g0, 0, none⟩), .pointer (some ⟨g1, 0, none⟩)] (.panicking (stopV e)) w fun r u' w' => r = .returned (.tuple #[]) ∧ u' = .panicking [{ v := .iface 68 (.agg #[.int .i64 e]), recovered := true }] ∧
      Below B w w' ∧ w'.heap[g0]? = some (.cells zero8 45 (0, 0)) ∧ w'.heap[g1]? = some (.cells #[.int .i64 e] 27 (0, 0)) := by
  have hta := assert_stop (.agg #[.int .i64 e])
  have hl0 : g0 < w.heap.size := (Array.getElem?_eq_some_iff.1 b0).1
  have hl1 : g1 < w.heap.size := (Array.getElem?_eq_some_iff.1 b1).1
  refine callsD_of_wpS Tryz.func25 rfl fun d₀ cs hu => ?_
  apply wpS_seq
  apply wpS_region
  simp [wpOpsS, go_sem, recoverD, hu, stopV, Tryz.ntmps25, Exit.thenS]
  refine wpS_of_wp ?_
  change Code.wp _ _ _ { tmps := #[.pointer (some ⟨g0, 0, none⟩), .pointer (some ⟨g1, 0, none⟩), undef, undef, undef, .iface 68 (.agg #[.int .i64 e]), undef, undef, undef, undef, undef, undef, undef, undef], defers := [] } _
  have hn := heap_alloc_new w (.cells #[.int .i64 e] 68)
  have x0 : (w.alloc (.cells #[.int .i64 e] 68)).cell? ⟨w.heap.size, 0, none⟩ = some (.int .i64 e) := by simp only [World.cell?, hn]; rfl
  have d0 : (w.alloc (.cells #[.int .i64 e] 68)).heap[g0]? = _ := (heap_alloc_old w _ hl0).trans b0
  have d1 : (w.alloc (.cells #[.int .i64 e] 68)).heap[g1]? = _ := (heap_alloc_old w _ hl1).trans b1
  have hAl : Below B w (w.alloc (.cells #[.int .i64 e] 68)) := (Below.refl _ _).alloc (by omega) _
  have HAL := Lib.hid hAl
  clear hn hAl b0 b1
  go_wp2_with fail
  generalize w.alloc (.cells #[.int .i64 e] 68) = wr at *
  have k0 := Kp.cell (w := wr) (K := fun k => k = w.heap.size) (a := ⟨w.heap.size, 0, none⟩) rfl x0
  obtain ⟨c0, c1, c2, c3, c4, c5, c6, c7⟩ := obj8 d0
  have f0 := frz d0
  have f1 := frz d1
  have y0 : wr.cell? ⟨g1, 0, none⟩ = some z := by simp [World.cell?, d1]
  refine Mix.region (fun w' => ∃ Y, w' = Kp.kp wr (fun k => k = w.heap.size) Y) 5 [1, 0, 0, 1, 1] [true, false] (by kernel_rfl) (fun _ _ d _ _ h => by cases d <;> exact h) (by rfl) (by kernel_rfl) (Kp.of fun _ _ => rfl) ?_
  simp only [Mix.selP_cons, Mix.selP_nil, Mix.sel_cons, Mix.sel_nil, Nat.reduceBEq, Nat.reduceAdd, cond_true, cond_false, List.drop_succ_cons, List.drop_nil]
  refine Mix.parts_q ?_
  repeat (go_big_quiet_step (fail))
  refine wpQuiet_nil ?_
  refine Mix.parts_e ?_
  clear k0
  refine Mix.eff_step (fun K hK => ?_)
  go_simp
  refine hK _ _ (Kp.of fun _ _ => rfl) ?_
  clear hK K
  refine Mix.eff_step (fun K hK => ?_)
  go_simp
  change K _ (put8 wr g0 (.string ⟨#[]⟩) (.int .i64 0) (.int .i64 0) (.int .i64 0) (.string ⟨#[]⟩) (.slice none 0 0) (.slice none 0 0) (.slice none 0 0)).drew
  have q0 := put8_same d0 (.string ⟨#[]⟩) (.int .i64 0) (.int .i64 0) (.int .i64 0) (.string ⟨#[]⟩) (.slice none 0 0) (.slice none 0 0) (.slice none 0 0)
  have q2 := fun k (hk : k ≠ g0) => put8_heap wr g0 k (.string ⟨#[]⟩) (.int .i64 0) (.int .i64 0) (.int .i64 0) (.string ⟨#[]⟩) (.slice none 0 0) (.slice none 0 0) (.slice none 0 0) hk
  have q3 := put8_below HAL.out hB0 (.string ⟨#[]⟩) (.int .i64 0) (.int .i64 0) (.int .i64 0) (.string ⟨#[]⟩) (.slice none 0 0) (.slice none 0 0) (.slice none 0 0)
  clear c0 c1 c2 c3 c4 c5 c6 c7 f0 f1 y0
  generalize put8 wr g0 (.string ⟨#[]⟩) (.int .i64 0) (.int .i64 0) (.int .i64 0) (.string ⟨#[]⟩) (.slice none 0 0) (.slice none 0 0) (.slice none 0 0) = p at *
  refine hK _ _ (Kp.of fun k hk => q2 k (by rw [hk]; omega)) ?_
  clear hK K
  have e0 : p.drew.heap[g0]? = some (.cells zero8 45 (0, 0)) := q0
  have e1 : p.drew.heap[g1]? = some (.cells #[z] 27 (0, 0)) := (q2 g1 (Ne.symm n01)).trans d1
  have e2 : ∀ k, k ≠ g0 → p.drew.heap[k]? = wr.heap[k]? := q2
  have e3 := q3.drew
  clear q0 q2 q3
  generalize p.drew = w2 at *
  have f1 := frz e1
  have y0 : w2.cell? ⟨g1, 0, none⟩ = some z := by simp [World.cell?, e1]
  refine Mix.eff_step (fun K hK => ?_)
  go_simp
  refine hK _ _ (Kp.of fun k hk => (Below.heap_setCell _ _ _ _ (by rw [hk]; show w.heap.size ≠ g1; omega)).trans (e2 k (by rw [hk]; omega))) ?_
  clear hK K
  have r0 : (w2.setCell ⟨g1, 0, none⟩ (.int .i64 e)).heap[g0]? = _ := (Below.heap_setCell _ _ _ _ n01).trans e0
  have r1 : (w2.setCell ⟨g1, 0, none⟩ (.int .i64 e)).heap[g1]? = _ := heap_setCell_same w2 g1 0 _ _ _ e1
  have r2 := e3.setCell (p := ⟨g1, 0, none⟩) hB1 (.int .i64 e)
  refine Mix.eff_nil (Mix.parts_n ?_)
  go_wp2_with fail
  exact ⟨rfl, _, rfl, .tuple #[], by simp [results, Tryz.results25, go_sem], rfl, rfl, r2, r0, r1⟩
set_option maxHeartbeats 1000000 in
theorem catch_ret (g0 g1 : Nat) (w : World) :
    CallsD Tryz.prog 25 #[.pointer (some ⟨g0, 0, none⟩), .pointer (some ⟨g1, 0, none⟩)] .returning w fun e u' w' => e = .returned (.tuple #[]) ∧ u' = .returning ∧ w' = w := by
  refine callsD_of_wpS Tryz.func25 rfl fun d₀ cs hu => ?_
  apply wpS_seq
  apply wpS_region
  simp [wpOpsS, go_sem, recoverD, hu, Tryz.ntmps25, Exit.thenS]
  refine wpS_of_wp ?_
  go_wp2_with fail
  refine ⟨rfl, .returning, ?_, .tuple #[], by simp [results, Tryz.results25, go_sem], rfl, rfl, rfl⟩
  rw [← hu]
end Ev
end Go.Proofs.YtflhmoelenmomaaGreatDoor

/-
  eval's Recipe: its blocks, its ends.
-/
namespace Go.Proofs.YtflhmoelenmomaaGreatDoor
open Go.RowKit Go.Lib
namespace Ev
open Rc

/-- Recipe's own blocks: the argument, the results -/
structure RW (W w : World) (cs out : Array Value) (ev : Int) : Prop where
  below : Below W.heap.size W w
  bx : w.heap[W.heap.size]? = some (.cells cs 33 (0, 0))
  b0 : w.heap[W.heap.size + 1]? = some (.cells out 45 (0, 0))
  b1 : w.heap[W.heap.size + 1 + 1]? = some (.cells #[.int .i64 ev] 27 (0, 0))
  sz : W.heap.size + 3 ≤ w.heap.size
theorem RW.start (W : World) (cs : Array Value) : RW W (((W.alloc (.cells cs 33)).alloc (.cells zero8 45)).alloc (.cells #[.int .i64 0] 27)) cs zero8 0 := by
  refine ⟨(((Below.refl _ _).alloc (Nat.le_refl _) _).alloc (by simp) _).alloc (by simp; omega) _, ?_, ?_, ?_, by simp⟩
  · rw [heap_alloc_old _ _ (by simp; omega), heap_alloc_old _ _ (by simp)]
    exact heap_alloc_new W _
  · rw [heap_alloc_old _ _ (by simp)]
    have := heap_alloc_new (W.alloc (.cells cs 33)) (.cells zero8 45)
    simpa using this
  · have := heap_alloc_new ((W.alloc (.cells cs 33)).alloc (.cells zero8 45)) (.cells #[.int .i64 0] 27)
    simpa using this
theorem RW.keep {W w w' : World} {cs out : Array Value} {ev : Int} (h : RW W w cs out ev) (hb : Below w.heap.size w w') : RW W w' cs out ev := by
  have := h.sz
  exact ⟨h.below.trans (hb.mono h.below.size), (hb.block _ (by omega)).trans h.bx, (hb.block _ (by omega)).trans h.b0, (hb.block _ (by omega)).trans h.b1, Nat.le_trans h.sz hb.size⟩
/-- a row of the call's own grows -/
theorem RW.grown {W w w' : World} {cs out : Array Value} {ev : Int} (h : RW W w cs out ev) {B e size n : Nat} {v : Value} {xs : List Value} (hr : w.ownsRow B e size v n xs) (hB : W.heap.size + 3 ≤ B) (hg : w.grownBy w' v.ownBlock) : RW W w' cs out ev := by
  have := h.sz
  have hne : ∀ k, k < W.heap.size + 3 → some k ≠ v.ownBlock := fun k hk e => by have := (hr.lt k e.symm).1; omega
  exact ⟨h.below.grown hg h.below.size (fun k e => by have := (hr.lt k e).1; omega), (hg.block _ (by omega) (hne _ (by omega))).trans h.bx, (hg.block _ (by omega) (hne _ (by omega))).trans h.b0, (hg.block _ (by omega) (hne _ (by omega))).trans h.b1, Nat.le_trans h.sz hg.size⟩
/-- a block of the call's own further on changes -/
theorem RW.far {W w : World} {cs out : Array Value} {ev : Int} (h : RW W w cs out ev) {g o : Nat} (hg : W.heap.size + 3 ≤ g) (u : Value) : RW W (w.setCell ⟨g, o, none⟩ u) cs out ev :=
  ⟨h.below.setCell (p := ⟨g, o, none⟩) (by show W.heap.size ≤ g; omega) _, (Below.heap_setCell _ _ _ _ (by show W.heap.size ≠ g; omega)).trans h.bx, (Below.heap_setCell _ _ _ _ (by show W.heap.size + 1 ≠ g; omega)).trans h.b0, (Below.heap_setCell _ _ _ _ (by show W.heap.size + 1 + 1 ≠ g; omega)).trans h.b1, by simp; exact h.sz⟩
theorem RW.err {W w : World} {cs out : Array Value} {ev : Int} (h : RW W w cs out ev) (e : Int) : RW W (w.setCell ⟨W.heap.size + 1 + 1, 0, none⟩ (.int .i64 e)) cs out e :=
  ⟨h.below.setCell (p := ⟨W.heap.size + 1 + 1, 0, none⟩) (by show W.heap.size ≤ W.heap.size + 1 + 1; omega) _, (Below.heap_setCell _ _ _ _ (by show W.heap.size ≠ W.heap.size + 1 + 1; omega)).trans h.bx, (Below.heap_setCell _ _ _ _ (by show W.heap.size + 1 ≠ W.heap.size + 1 + 1; omega)).trans h.b0, heap_setCell_same w _ 0 _ _ _ h.b1, by simp; exact h.sz⟩
theorem RW.out {W w : World} {cs out : Array Value} {ev : Int} (h : RW W w cs out ev) (j : Nat) (u : Value) : RW W (w.setCell ⟨W.heap.size + 1, j, none⟩ u) cs (out.setIfInBounds j u) ev :=
  ⟨h.below.setCell (p := ⟨W.heap.size + 1, j, none⟩) (by show W.heap.size ≤ W.heap.size + 1; omega) _, (Below.heap_setCell _ _ _ _ (by show W.heap.size ≠ W.heap.size + 1; omega)).trans h.bx, heap_setCell_same w _ j _ _ _ h.b0, (Below.heap_setCell _ _ _ _ (by show W.heap.size + 1 + 1 ≠ W.heap.size + 1; omega)).trans h.b1, by simp; exact h.sz⟩
theorem RW.put {W w : World} {cs : Array Value} {u0 u1 u2 u3 u4 u5 u6 u7 : Value} {ev : Int} (h : RW W w cs #[u0, u1, u2, u3, u4, u5, u6, u7] ev) (v0 v1 v2 v3 v4 v5 v6 v7 : Value) : RW W (put8 w (W.heap.size + 1) v0 v1 v2 v3 v4 v5 v6 v7) cs #[v0, v1, v2, v3, v4, v5, v6, v7] ev :=
  ⟨put8_below h.below (Nat.le_succ _) _ _ _ _ _ _ _ _, (put8_heap _ _ _ _ _ _ _ _ _ _ _ (by omega)).trans h.bx, put8_same h.b0 _ _ _ _ _ _ _ _, (put8_heap _ _ _ _ _ _ _ _ _ _ _ (by omega)).trans h.b1, by rw [put8_size]; exact h.sz⟩
theorem RW.drewN {W w : World} {cs out : Array Value} {ev : Int} (h : RW W w cs out ev) (n : Nat) : RW W (w.drewN n) cs out ev := h.keep (below_drewN (Below.refl _ _) n)
/-- what Recipe answers -/
def RAns (W : World) (q : Except Int Rcp) (e : Ending) (W' : World) : Prop := Below W.heap.size W W' ∧ match q with
  | .error k => e = .returned (.tuple #[.agg zero8, .int .i64 k])
  | .ok r => ∃ ta tn tc ba bn bc ra rn rc qb qr, e = .returned (.tuple #[.agg #[.string r.name, .int .i64 r.ver.1, .int .i64 r.ver.2.1, .int .i64 r.ver.2.2, .string r.tool.name, .slice ta tn tc, .slice ba bn bc, .slice ra rn rc], .int .i64 0]) ∧
    Sg.GO W' W.heap.size (.slice ta tn tc) r.tool.rng ∧ DO W' W.heap.size (.slice ba bn bc) qb r.build ∧ DO W' W.heap.size (.slice ra rn rc) qr r.run
abbrev defsR (W : World) : List Deferred := [{ target := .fn (.func 25) #[.pointer (some ⟨W.heap.size + 1, 0, none⟩), .pointer (some ⟨W.heap.size + 1 + 1, 0, none⟩)], args := #[] }]
set_option maxRecDepth 100000 in
theorem recipe_results {tmps : Array Value} {X : World} {g : Nat} {u0 u1 u2 u3 u4 u5 u6 u7 z : Value} (t2 : tmps[2]? = some (.pointer (some ⟨g, 0, none⟩))) (t3 : tmps[3]? = some (.pointer (some ⟨g + 1, 0, none⟩)))
    (b0 : X.heap[g]? = some (.cells #[u0, u1, u2, u3, u4, u5, u6, u7] 45 (0, 0))) (b1 : X.heap[g + 1]? = some (.cells #[z] 27 (0, 0))) :
    (results Tryz.f14 tmps).run Tryz.prog X = .ok (.tuple #[.agg #[u0, u1, u2, u3, u4, u5, u6, u7], z]) X := by
  obtain ⟨c0, c1, c2, c3, c4, c5, c6, c7⟩ := obj8 b0
  have d0 : X.cell? ⟨g + 1, 0, none⟩ = some z := by simp [World.cell?, b1]
  simp [results, Tryz.results14, go_sem, t2, t3, c0, c1, c2, c3, c4, c5, c6, c7, d0]
/-- Recipe's end behind a panic -/
theorem rec_gave {W w1 : World} {cs : Array Value} {u0 u1 u2 u3 u4 u5 u6 u7 : Value} {ev k : Int} (h : RW W w1 cs #[u0, u1, u2, u3, u4, u5, u6, u7] ev) {q : Except Int Rcp} (hq : q = .error k) (tmps : Array Value) (h2 : tmps[2]? = some (.pointer (some ⟨W.heap.size + 1, 0, none⟩))) (h3 : tmps[3]? = some (.pointer (some ⟨W.heap.size + 1 + 1, 0, none⟩))) :
    bodyPostD Tryz.prog Tryz.f14 (fun e W' => RAns W q e W') (.panic (stopV k)) { tmps := tmps, defers := defsR W } w1 := by
  refine leaves_cons (f := 25) (args := #[.pointer (some ⟨W.heap.size + 1, 0, none⟩), .pointer (some ⟨W.heap.size + 1 + 1, 0, none⟩)]) (by simp) (by simp [go_sem]) ?_
  refine (catch_panic (B := W.heap.size) k h.b0 h.b1 (by omega) (by omega) (by omega)).mono ?_
  rintro e u' w'' ⟨rfl, rfl, hb, e0, e1⟩
  refine ⟨_, recipe_results h2 h3 e0 e1, h.below.trans hb, ?_⟩
  rw [hq]
/-- Recipe's end behind its last words -/
theorem rec_done {W w1 : World} {cs : Array Value} {r : Rcp} {ta ba ra : Option Addr} {tn tc bn bc rn rc : Nat} {qb qr : List DV}
    (h : RW W w1 cs #[.string r.name, .int .i64 r.ver.1, .int .i64 r.ver.2.1, .int .i64 r.ver.2.2, .string r.tool.name, .slice ta tn tc, .slice ba bn bc, .slice ra rn rc] 0) (ht : Sg.GO w1 W.heap.size (.slice ta tn tc) r.tool.rng) (hb : DO w1 W.heap.size (.slice ba bn bc) qb r.build) (hr : DO w1 W.heap.size (.slice ra rn rc) qr r.run)
    {q : Except Int Rcp} (hq : q = .ok r) (tmps : Array Value) (h2 : tmps[2]? = some (.pointer (some ⟨W.heap.size + 1, 0, none⟩))) (h3 : tmps[3]? = some (.pointer (some ⟨W.heap.size + 1 + 1, 0, none⟩))) :
    bodyPostD Tryz.prog Tryz.f14 (fun e W' => RAns W q e W') .ret { tmps := tmps, defers := defsR W } w1 := by
  refine leaves_cons (f := 25) (args := #[.pointer (some ⟨W.heap.size + 1, 0, none⟩), .pointer (some ⟨W.heap.size + 1 + 1, 0, none⟩)]) (by simp) (by simp [go_sem]) ?_
  refine (catch_ret (W.heap.size + 1) (W.heap.size + 1 + 1) w1).mono ?_
  rintro e u' w'' ⟨rfl, rfl, rfl⟩
  refine ⟨_, recipe_results h2 h3 h.b0 h.b1, h.below, ?_⟩
  rw [hq]
  exact ⟨_, _, _, _, _, _, _, _, _, qb, qr, rfl, ht, hb, hr⟩
end Ev
end Go.Proofs.YtflhmoelenmomaaGreatDoor

/-
  eval's Recipe: what stands from field to field.
-/
namespace Go.Proofs.YtflhmoelenmomaaGreatDoor
open Go.RowKit Go.Lib
namespace Ev
open Rc

/-- a field in memory -/
structure FC (W : World) (S : Nat → Prop) (b o k : Nat) (t : Int × E × E) (k3 : Int) (σ3 : ByteArray) (sl3 : Option Addr) (n3 c3 : Nat) (k4 : Int) (σ4 : ByteArray) (sl4 : Option Addr) (n4 c4 : Nat) : Prop where
  sb : S b
  d0 : W.cell? ⟨b, o + k * 7, none⟩ = some (.int .i64 t.1)
  d1 : W.cell? ⟨b, o + k * 7 + 1, none⟩ = some (.int .i64 k3)
  d2 : W.cell? ⟨b, o + k * 7 + 2, none⟩ = some (.string σ3)
  d3 : W.cell? ⟨b, o + k * 7 + 3, none⟩ = some (.slice sl3 n3 c3)
  d4 : W.cell? ⟨b, o + k * 7 + 4, none⟩ = some (.int .i64 k4)
  d5 : W.cell? ⟨b, o + k * 7 + 5, none⟩ = some (.string σ4)
  d6 : W.cell? ⟨b, o + k * 7 + 6, none⟩ = some (.slice sl4 n4 c4)
  rn : RepX W S t.2.1 (.agg #[.int .i64 k3, .string σ3, .slice sl3 n3 c3])
  rr : RepX W S t.2.2 (.agg #[.int .i64 k4, .string σ4, .slice sl4 n4 c4])
theorem fld_at {W : World} {S : Nat → Prop} {sl : Option Addr} {n : Nat} {ts : List (Int × E × E)} (h : FS W S sl n ts) {k : Nat} {t : Int × E × E} (ht : ts[k]? = some t) :
    ∃ b o k3 σ3 sl3 n3 c3 k4 σ4 sl4 n4 c4, sl = some ⟨b, o, none⟩ ∧ FC W S b o k t k3 σ3 sl3 n3 c3 k4 σ4 sl4 n4 c4 := by
  obtain ⟨b, o, q, e, hSb, ⟨h0, hn, hr⟩, hc⟩ := h.2 k t ht
  obtain ⟨q0, ⟨q1, q2, q3⟩, ⟨q4, q5, q6⟩⟩ := q
  obtain ⟨k3, σ3, sl3, n3, c3, e3⟩ := hn.vals
  obtain ⟨k4, σ4, sl4, n4, c4, e4⟩ := hr.vals
  have h3 := congrArg (fun v => match v with | .agg a => a.toList | _ => []) e3
  have h4 := congrArg (fun v => match v with | .agg a => a.toList | _ => []) e4
  simp at h3 h4 h0
  obtain ⟨rfl, rfl, rfl⟩ := h3
  obtain ⟨rfl, rfl, rfl⟩ := h4
  subst h0
  exact ⟨b, o, k3, σ3, sl3, n3, c3, k4, σ4, sl4, n4, c4, e, hSb, hc 0 _ rfl, hc 1 _ rfl, hc 2 _ rfl, hc 3 _ rfl, hc 4 _ rfl, hc 5 _ rfl, hc 6 _ rfl, hn, hr⟩
theorem GO.same {W W' : World} {B : Nat} {v : Value} {l : List Sg.G} (h : Sg.GO W B v l) (hb : ∀ k, B ≤ k → k < W.heap.size → W'.heap[k]? = W.heap[k]?) : Sg.GO W' B v l :=
  go_move h fun g _ hg hB => hb g hB (Array.getElem?_eq_some_iff.1 hg).1
theorem DO.same {W W' : World} {B : Nat} {v : Value} {qs : List DV} {ds : List Dp} (h : DO W B v qs ds) (hb : ∀ k, B ≤ k → k < W.heap.size → W'.heap[k]? = W.heap[k]?) : DO W' B v qs ds :=
  h.move fun g _ _ _ hg hB => hb g hB (Array.getElem?_eq_some_iff.1 hg).1
theorem own_mono {W : World} {B B' e size n : Nat} {v : Value} {xs : List Value} (h : W.ownsRow B e size v n xs) (hB : B' ≤ B) : W.ownsRow B' e size v n xs := by
  refine ⟨h.1, h.2.imp id ?_⟩
  rintro ⟨g, cap, cur, rfl, h1, h2⟩
  exact ⟨g, cap, cur, rfl, Nat.le_trans hB h1, h2⟩
theorem GO.mono {W : World} {B B' : Nat} {v : Value} {l : List Sg.G} (h : Sg.GO W B v l) (hB : B' ≤ B) : Sg.GO W B' v l := own_mono h hB
theorem DO.mono {W : World} {B B' : Nat} {v : Value} {qs : List DV} {ds : List Dp} (h : DO W B v qs ds) (hB : B' ≤ B) : DO W B' v qs ds :=
  ⟨own_mono h.row hB, h.len, fun i q d hq hd => ⟨(h.at_ i q d hq hd).1, GO.mono (h.at_ i q d hq hd).2 hB⟩⟩
theorem GO.grown {W W' : World} {B : Nat} {v : Value} {l : List Sg.G} (h : Sg.GO W B v l) {B' n : Nat} {u : Value} {xs : List Value} (hr : W.ownsRow B' 42 2 u n xs) (hg : W.grownBy W' u.ownBlock) : Sg.GO W' B v l :=
  go_move h fun g cs hgg _ => hg.block g (Array.getElem?_eq_some_iff.1 hgg).1 fun ee => by
    obtain ⟨cs', h3⟩ := own_type hr ee.symm
    rw [hgg] at h3
    cases h3
/-- another row grows -/
theorem DO.grown {W W' : World} {B : Nat} {v : Value} {qs : List DV} {ds : List Dp} (h : DO W B v qs ds) {B' n : Nat} {u : Value} {xs : List Value} (hr : W.ownsRow B' 42 2 u n xs) (hg : W.grownBy W' u.ownBlock) (hne : ∀ g, u.ownBlock = some g → v.ownBlock ≠ some g) : DO W' B v qs ds := by
  refine ⟨h.row.kept hg ?_, h.len, fun i q d hq hd => ⟨(h.at_ i q d hq hd).1, GO.grown (h.at_ i q d hq hd).2 hr hg⟩⟩
  cases hu : u.ownBlock with
  | none =>
    cases v.ownBlock
    · exact .inl rfl
    · exact .inr (by simp)
  | some g => exact .inr (hne g hu)
/-- no block of the one is a block of the other -/
def Apart (u v : Value) : Prop := ∀ g, u.ownBlock = some g → v.ownBlock ≠ some g
def toolD (st : RSt) : Dp := st.tool.getD ⟨⟨#[]⟩, []⟩
/-- the parts of the answer so far -/
structure RP (W wr : World) (st : RSt) (tv bv rv : Value) (qb qr : List DV) : Prop where
  tool : Sg.GO wr (W.heap.size + 3) tv (toolD st).rng
  build : DO wr (W.heap.size + 3) bv qb st.build
  run : DO wr (W.heap.size + 3) rv qr st.run
  apart : Apart bv rv
  lb : st.build.length ≤ 8
  lr : st.run.length ≤ 8
theorem RP.same {W wr w' : World} {st : RSt} {tv bv rv : Value} {qb qr : List DV} (h : RP W wr st tv bv rv qb qr) (hb : ∀ k, W.heap.size + 3 ≤ k → k < wr.heap.size → w'.heap[k]? = wr.heap[k]?) : RP W w' st tv bv rv qb qr :=
  ⟨GO.same h.tool hb, h.build.same hb, h.run.same hb, h.apart, h.lb, h.lr⟩
theorem RP.start (W w : World) : RP W w ⟨none, [], []⟩ (.slice none 0 0) (.slice none 0 0) (.slice none 0 0) [] [] :=
  ⟨Sg.go_nil _ _, DO.nil _ _, DO.nil _ _, fun g h => by simp [Value.ownBlock] at h, by simp, by simp⟩
theorem RP.setTool {W w : World} {st : RSt} {tv bv rv : Value} {qb qr : List DV} (h : RP W w st tv bv rv qb qr) {d : Dp} {u : Value} (hu : Sg.GO w (W.heap.size + 3) u d.rng) : RP W w ⟨some d, st.build, st.run⟩ u bv rv qb qr :=
  ⟨hu, h.build, h.run, h.apart, h.lb, h.lr⟩
theorem RP.setBuild {W w w' : World} {st : RSt} {tv bv rv bv' : Value} {qb qr qb' : List DV} (h : RP W w st tv bv rv qb qr) {l : List Dp} (hg : w.grownBy w' bv.ownBlock) (hd : DO w' (W.heap.size + 3) bv' qb' l) (hl : l.length ≤ 8) (hat : bv'.ownBlock = bv.ownBlock ∨ ∀ g, bv'.ownBlock = some g → w.heap.size ≤ g) : RP W w' ⟨st.tool, l, st.run⟩ tv bv' rv qb' qr := by
  refine ⟨GO.grown h.tool h.build.row hg, hd, h.run.grown h.build.row hg h.apart, fun g hg' e => ?_, hl, h.lr⟩
  rcases hat with h1 | h1
  · exact h.apart g (h1 ▸ hg') e
  · have := (h.run.row.lt g e).2
    have := h1 g hg'
    omega
theorem RP.setRun {W w w' : World} {st : RSt} {tv bv rv rv' : Value} {qb qr qr' : List DV} (h : RP W w st tv bv rv qb qr) {l : List Dp} (hg : w.grownBy w' rv.ownBlock) (hd : DO w' (W.heap.size + 3) rv' qr' l) (hl : l.length ≤ 8) (hat : rv'.ownBlock = rv.ownBlock ∨ ∀ g, rv'.ownBlock = some g → w.heap.size ≤ g) : RP W w' ⟨st.tool, st.build, l⟩ tv bv rv' qb qr' := by
  refine ⟨GO.grown h.tool h.run.row hg, h.build.grown h.run.row hg (fun g h1 h2 => h.apart g h2 h1), hd, fun g hg' e => ?_, h.lb, hl⟩
  rcases hat with h1 | h1
  · exact h.apart g hg' (h1 ▸ e)
  · have := (h.build.row.lt g hg').2
    have := h1 g e
    omega
end Ev
end Go.Proofs.YtflhmoelenmomaaGreatDoor
