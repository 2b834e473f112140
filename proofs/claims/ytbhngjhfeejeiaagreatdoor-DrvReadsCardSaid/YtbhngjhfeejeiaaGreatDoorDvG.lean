/-
  Plain: the build that bytes are.
-/
import Derived.Test.YtbhngjhfeejeiaaGreatDoorDvF
import Derived.Test.YtbhngjhfeejeiaaGreatDoorSxT
import Derived.Test.YtbhngjhfeejeiaaGreatDoorVs
namespace Go.Proofs.YtbhngjhfeejeiaaGreatDoor
open Go.RowKit Sx
namespace Dv

/-- the tree is the build's, which can be -/
structure IsB (t : T) (d : D) : Prop where
  tree : drvT d = t
  good : goodD d = true
theorem mk_inj' {a b : List UInt8} (h : (⟨a.toArray⟩ : ByteArray) = ⟨b.toArray⟩) : a = b := by
  have h2 : a.toArray = b.toArray := congrArg ByteArray.data h
  simpa using h2
theorem good_ver {d : D} (h : goodD d = true) : Vs.goodB d.a d.b d.c = true := by
  simp only [goodD, Bool.and_eq_true] at h
  exact h.1.1.2
theorem kidsL_inj : ∀ {p q : List (ByteArray × ByteArray)}, (p.map fun x => T.list ([x.1, x.2].map .leaf)) = (q.map fun x => T.list ([x.1, x.2].map .leaf)) → p = q
  | [], [], _ => rfl
  | [], y :: q, h => by simp at h
  | x :: p, [], h => by simp at h
  | x :: p, y :: q, h => by
    simp only [List.map_cons, List.map_nil, List.cons.injEq, T.list.injEq, T.leaf.injEq, and_true] at h
    rw [kidsL_inj h.2, Prod.ext h.1.1 h.1.2]
theorem drvT_inj {d e : D} (hd : goodD d = true) (he : goodD e = true) (h : drvT d = drvT e) : d = e := by
  have hv := good_ver hd
  have hw := good_ver he
  unfold drvT withT kids at h
  simp only [T.list.injEq, List.cons.injEq, T.leaf.injEq, and_true, true_and, List.map_map] at h
  obtain ⟨h1, h2, h3, h4⟩ := h
  have h5 : d.ins = e.ins := kidsL_inj h4
  have h6 : Vs.textL d.a d.b d.c = Vs.textL e.a e.b e.c := mk_inj' h2
  have h7 := Vs.parse_text hv
  rw [h6, Vs.parse_text hw] at h7
  simp only [Option.some.injEq, Prod.mk.injEq] at h7
  obtain ⟨g1, g2, g3⟩ := h7
  cases d; cases e
  simp_all
theorem IsB.uniq {t : T} {d e : D} (h : IsB t d) (g : IsB t e) : d = e := drvT_inj h.good g.good (h.tree.trans g.tree.symm)
theorem kids_badne {f : List UInt8 → Out} (hf : ∀ l g, f l = .bad g → g ≠ 0) : ∀ (m : Nat) (l : List UInt8) (acc : List T) (u : Nat) (g : Int), kidsP f m l acc u = .bad g → g ≠ 0
  | 0, l, acc, u, g, h => by simp [kidsP] at h; omega
  | m + 1, [], acc, u, g, h => by simp [kidsP] at h; omega
  | m + 1, c :: l, acc, u, g, h => by
    unfold kidsP at h
    split at h
    · cases h
    · split at h
      · rename_i e he
        cases h
        exact hf _ _ he
      · exact kids_badne hf _ _ _ _ _ h
theorem atomO_badne {l : List UInt8} {g : Int} (h : atomO l = .bad g) : g ≠ 0 := by
  unfold atomO at h
  split at h
  · cases h
  · cases h; decide
theorem tk_badne : ∀ (h : Nat) (l : List UInt8) (g : Int), tk h l = .bad g → g ≠ 0
  | 0, [], g, hh => by simp [tk] at hh; omega
  | 0, c :: l, g, hh => by
    simp only [tk] at hh
    split at hh
    · cases hh; decide
    · exact atomO_badne hh
  | h + 1, [], g, hh => by simp [tk] at hh; omega
  | h + 1, c :: l, g, hh => by
    simp only [tk] at hh
    split at hh
    · exact kids_badne (tk_badne h) _ _ _ _ _ hh
    · exact atomO_badne hh
theorem parse_bad_ne {l : List UInt8} {f : Int} (h : parse l = .bad f) : f ≠ 0 := by
  unfold parse at h
  split at h
  · cases h; decide
  · split at h
    · rename_i e he
      cases h
      exact tk_badne _ _ _ he
    · split at h
      · cases h; decide
      · cases h
def D0 : D := ⟨⟨#[]⟩, 0, 0, 0, ⟨#[]⟩, []⟩
open Classical in
/-- the error, and the build, of bytes -/
noncomputable def decB (l : List UInt8) : Int × D := match parse l with
  | .bad f => (f, D0)
  | .ok t _ => if h : ∃ d, IsB t d then (0, Classical.choose h) else (5, D0)
theorem decB_bad {l : List UInt8} {f : Int} (h : parse l = .bad f) : decB l = (f, D0) := by unfold decB; rw [h]
theorem decB_no {l : List UInt8} {t : T} {n : Nat} (h : parse l = .ok t n) (hn : ∀ d, ¬ IsB t d) : decB l = (5, D0) := by
  unfold decB; rw [h]; simp only; rw [dif_neg (fun ⟨p, hp⟩ => hn p hp)]
theorem decB_ok {l : List UInt8} {t : T} {n : Nat} (h : parse l = .ok t n) {d : D} (hp : IsB t d) : decB l = (0, d) := by
  unfold decB; rw [h]; simp only; rw [dif_pos ⟨d, hp⟩]
  rw [(Classical.choose_spec (⟨d, hp⟩ : ∃ p, IsB t p)).uniq hp]
/-- what Decode hands back -/
def DQ (W : World) (l : List UInt8) (e : Ending) (W' : World) : Prop :=
  (∃ v : Value, e = .returned (.tuple #[DV (decB l).2 v, .int .i64 (decB l).1]) ∧ SI W' v (decB l).2.ins) ∧ Below W.heap.size W W'
theorem dq_none {W W' : World} {l : List UInt8} {e : Ending} {f : Int} (hd : decB l = (f, D0)) (he : e = .returned (.tuple #[.agg #[.string ⟨#[]⟩, .int .i64 0, .int .i64 0, .int .i64 0, .string ⟨#[]⟩, .slice none 0 0], .int .i64 f])) (hb : Below W.heap.size W W') : DQ W l e W' := by
  unfold DQ
  rw [hd]
  exact ⟨⟨_, he, SI.empty _⟩, hb⟩
theorem dp_leaf (s : ByteArray) : dp (.leaf s) = 0 := by simp [dp]
theorem dps_leafs : ∀ l : List ByteArray, dps (l.map .leaf) = 0
  | [] => by simp [dps]
  | s :: l => by simp [dps, dp_leaf, dps_leafs l]
theorem dps_kids : ∀ p : List (List ByteArray), dps (p.map fun ts => .list (ts.map .leaf)) ≤ 1
  | [] => by simp [dps]
  | ts :: p => by
    have := dps_kids p
    have h2 := dps_leafs ts
    simp only [List.map_cons, dps, dp]
    omega
theorem dp_drv (d : D) : dp (drvT d) ≤ 32 := by
  have := dps_kids (kids d)
  simp only [drvT, withT, dp, dps]
  omega
/-- what is written is read -/
theorem decB_back {d : D} (hg : goodD d = true) (hl : (enc (drvT d)).length ≤ 65536) : decB (enc (drvT d)) = (0, d) := decB_ok (parse_back (dp_drv d) hl) ⟨rfl, hg⟩
/-- what is read is written -/
theorem decB_enc {l : List UInt8} (h : (decB l).1 = 0) : goodD (decB l).2 = true ∧ enc (drvT (decB l).2) = l ∧ l.length ≤ 65536 := by
  have h0 := h
  unfold decB at h
  cases hp : parse l with
  | bad f =>
    rw [hp] at h
    simp only at h
    subst h
    have := parse_bad_ne hp
    exact absurd rfl this
  | ok t n =>
    rw [hp] at h
    simp only at h
    by_cases he : ∃ d, IsB t d
    · obtain ⟨d, hd⟩ := he
      rw [decB_ok hp hd]
      obtain ⟨h1, h2⟩ := parse_enc hp
      exact ⟨hd.good, by rw [hd.tree]; exact h1, h2⟩
    · rw [dif_neg he] at h
      cases h
/-- the tree of a build, part by part -/
structure Parts (t : T) (nm vt tl : ByteArray) (ws : List T) : Prop where
  t : t = .list [.leaf ⟨#[100, 114, 118]⟩, .leaf nm, .leaf vt, .leaf tl, .list ws]
theorem IsB.parts {t : T} {d : D} (h : IsB t d) : t = .list [.leaf ⟨#[100, 114, 118]⟩, .leaf d.name, .leaf (textB d), .leaf d.tool, .list (d.ins.map fun x => .list [.leaf x.1, .leaf x.2])] := by
  rw [← h.tree]
  simp [drvT, withT, kids, Function.comp_def]
theorem isB_of {nm vt tl : ByteArray} {ins : List (ByteArray × ByteArray)} {a b c : Int} (hv : Vs.parseL vt.data.toList = some (a, b, c)) (hg : goodD ⟨nm, a, b, c, tl, ins⟩ = true) :
    IsB (.list [.leaf ⟨#[100, 114, 118]⟩, .leaf nm, .leaf vt, .leaf tl, .list (ins.map fun x => .list [.leaf x.1, .leaf x.2])]) ⟨nm, a, b, c, tl, ins⟩ := by
  refine ⟨?_, hg⟩
  have h1 : textB ⟨nm, a, b, c, tl, ins⟩ = vt := by
    unfold textB
    rw [(Vs.text_parse hv).1]
  unfold drvT withT
  rw [h1]
  simp [kids, Function.comp_def]
end Dv
end Go.Proofs.YtbhngjhfeejeiaaGreatDoor
