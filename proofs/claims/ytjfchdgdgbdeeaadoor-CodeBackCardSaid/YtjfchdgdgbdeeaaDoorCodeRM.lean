/-
  Walk: code.Decode, for every text.
-/
import Derived.Test.YtjfchdgdgbdeeaaDoorCodeRL
import Derived.Test.YtjfchdgdgbdeeaaDoorCodeAloneA
namespace Go.Proofs.YtjfchdgdgbdeeaaDoor
open Go.RowKit
namespace Cd

/-- the tree is the program's, which can be -/
structure IsP (t : T) (p : List I) : Prop where
  tree : progT p = t
  chk : (check p).2 = 0
  nb : ∀ x ∈ p, N64 x
theorem bad_right {c : Int} : ∀ (p : List I), firstBad c p = none → ∀ x ∈ p, right x c = true
  | [], _, x, hx => by simp at hx
  | y :: p, h, x, hx => by
    simp only [firstBad] at h
    split at h
    · rename_i hy
      rcases List.mem_cons.1 hx with rfl | hx
      · exact hy
      · refine bad_right p ?_ x hx
        cases hf : firstBad c p with
        | none => rfl
        | some i => rw [hf] at h; cases h
    · cases h
theorem check_right {p : List I} (h : (check p).2 = 0) : ∀ x ∈ p, right x p.length = true := by
  have hl := check_len h
  unfold check at h
  rw [if_neg (by omega)] at h
  cases hf : firstBad p.length p with
  | none => exact bad_right p hf
  | some i => rw [hf] at h; simp at h
theorem IsP.ins {t : T} {p : List I} (h : IsP t p) : ∀ x ∈ p, InsP (insT x) x := fun x hx => insP_of_right (check_right h.chk x hx) (h.nb x hx)
theorem progT_kids (p : List I) : kids (progT p) = p.map insT := rfl
theorem list_ext {p q : List I} (hl : p.length = q.length) (h : ∀ (j : Nat) (x y : I), p[j]? = some x → q[j]? = some y → x = y) : p = q := by
  apply List.ext_getElem? fun j => ?_
  by_cases hj : j < p.length
  · have e1 : p[j]? = some p[j] := List.getElem?_eq_getElem hj
    have e2 : q[j]? = some (q[j]'(by omega)) := List.getElem?_eq_getElem (by omega)
    rw [e1, e2, h j _ _ e1 e2]
  · rw [List.getElem?_eq_none (by omega), List.getElem?_eq_none (by omega)]
/-- what was read kid by kid is the program, if there is one -/
theorem IsP.read {t : T} {p q : List I} (h : IsP t p) (hl : q.length = (kids t).length) (hq : ∀ (j : Nat) (k : T) (x : I), (kids t)[j]? = some k → q[j]? = some x → InsP k x) : q = p := by
  have ht := h.tree
  subst ht
  rw [progT_kids, List.length_map] at hl
  refine list_ext hl (fun j x y hx hy => ?_)
  have hk : (kids (progT p))[j]? = some (insT y) := by rw [progT_kids, List.getElem?_map, hy]; rfl
  exact (hq j _ x hk hx).uniq (h.ins y (List.mem_of_getElem? hy))
theorem IsP.uniq {t : T} {p q : List I} (h : IsP t p) (g : IsP t q) : p = q := by
  refine g.read (q := p) (by rw [← h.tree, progT_kids, List.length_map]) (fun j k x hk hx => ?_)
  rw [← h.tree, progT_kids, List.getElem?_map, hx] at hk
  cases hk
  exact h.ins x (List.mem_of_getElem? hx)
theorem isP_of {t : T} {q : List I} (ht : isL t = true) (hl : q.length = (kids t).length) (hq : ∀ (j : Nat) (k : T) (x : I), (kids t)[j]? = some k → q[j]? = some x → InsP k x) (hc : (check q).2 = 0) : IsP t q := by
  cases t with
  | leaf s => cases ht
  | list ks =>
    simp only [kids] at hl hq
    refine ⟨?_, hc, fun x hx => ?_⟩
    · show T.list (q.map insT) = .list ks
      congr 1
      apply List.ext_getElem? fun j => ?_
      rw [List.getElem?_map]
      by_cases hj : j < q.length
      · have e1 : q[j]? = some q[j] := List.getElem?_eq_getElem hj
        have e2 : ks[j]? = some (ks[j]'(by omega)) := List.getElem?_eq_getElem (by omega)
        rw [e1, e2]
        simp only [Option.map_some]
        rw [(hq j _ _ e2 e1).tree]
      · rw [List.getElem?_eq_none (by omega), List.getElem?_eq_none (by omega)]
        rfl
    · obtain ⟨j, hj⟩ := List.mem_iff_getElem?.1 hx
      have hjl := (List.getElem?_eq_some_iff.1 hj).1
      exact (hq j _ x (List.getElem?_eq_getElem (by omega)) hj).nb

open Classical in
/-- the error, and the program, of bytes -/
noncomputable def dec (l : List UInt8) : Int × List I := match parse l with
  | .bad f => (f, [])
  | .ok t _ => if h : ∃ p, IsP t p then (0, Classical.choose h) else (5, [])
theorem dec_bad {l : List UInt8} {f : Int} (h : parse l = .bad f) : dec l = (f, []) := by unfold dec; rw [h]
theorem dec_no {l : List UInt8} {t : T} {n : Nat} (h : parse l = .ok t n) (hn : ∀ p, ¬ IsP t p) : dec l = (5, []) := by
  unfold dec; rw [h]; simp only; rw [dif_neg (fun ⟨p, hp⟩ => hn p hp)]
theorem dec_ok {l : List UInt8} {t : T} {n : Nat} (h : parse l = .ok t n) {p : List I} (hp : IsP t p) : dec l = (0, p) := by
  unfold dec; rw [h]; simp only; rw [dif_pos ⟨p, hp⟩]
  rw [(Classical.choose_spec (⟨p, hp⟩ : ∃ p, IsP t p)).uniq hp]
/-- what Decode hands back -/
def DC (W : World) (l : List UInt8) (e : Ending) (W' : World) : Prop :=
  (∃ (sl : Option Addr) (cap : Nat), e = .returned (.tuple #[.slice sl (dec l).2.length cap, .int .i64 (dec l).1]) ∧ W'.ownsRow W.heap.size 31 3 (.slice sl (dec l).2.length cap) (dec l).2.length (rowI (dec l).2) ∧ (dec l).2.length ≤ 256 ∧ ∀ x ∈ (dec l).2, N64 x) ∧ Below W.heap.size W W'
theorem dc_nil {W W' : World} {l : List UInt8} {e : Ending} {f : Int} (hd : dec l = (f, [])) (he : e = .returned (.tuple #[.slice none 0 0, .int .i64 f])) (hb : Below W.heap.size W W') : DC W l e W' := by
  unfold DC
  rw [hd]
  exact ⟨⟨none, 0, he, World.ownsRow_nil _ _ _ _, by simp, by simp⟩, hb⟩
theorem Rep.kids {W : World} {B h : Nat} {t : T} {β : Bool} {σ : ByteArray} {sl : Option Addr} {n cap : Nat} (hr : Rep W B h t (.agg #[.bool β, .string σ, .slice sl n cap])) : β = !isL t ∧ n = (kids t).length ∧ ∃ (h' : Nat) (x y z : Nat → Value),
    (∀ i k, (kids t)[i]? = some k → ∃ b o, sl = some ⟨b, o, none⟩ ∧ b < B ∧ W.cell? ⟨b, o + i * 3, none⟩ = some (x i) ∧ W.cell? ⟨b, o + i * 3 + 1, none⟩ = some (y i) ∧ W.cell? ⟨b, o + i * 3 + 2, none⟩ = some (z i)) ∧ (∀ i k, (kids t)[i]? = some k → Rep W B h' k (.agg #[x i, y i, z i])) := by
  cases hr with
  | leaf _ s => exact ⟨rfl, rfl, 0, fun _ => .nilIface, fun _ => .nilIface, fun _ => .nilIface, fun i k hk => by simp [Cd.kids] at hk, fun i k hk => by simp [Cd.kids] at hk⟩
  | list h ks _ _ x y z hc hr => exact ⟨rfl, rfl, h, x, y, z, hc, hr⟩
theorem kids_le {t : T} (h : kidsLe t) : (kids t).length ≤ 65536 ∧ ∀ (k : Nat) (u : T), (kids t)[k]? = some u → kidsLe u := by
  cases t with
  | leaf s => exact ⟨by simp [kids], fun k u hu => by simp [kids] at hu⟩
  | list ks => exact kidsLe_list h
/-- what is read kid by kid -/
structure DL (W w1 wr : World) (t : T) (v : Value) (b : Bool) (ps : List I) (k : Nat) : Prop where
  len : ps.length = k
  own : wr.ownsRow w1.heap.size 31 3 v k (rowI ps)
  nb : ∀ x ∈ ps, N64 x
  yes : b = true → isL t = true ∧ ∀ (j : Nat) (u : T) (x : I), j < k → (kids t)[j]? = some u → ps[j]? = some x → InsP u x
  no : b = false → ∀ p, ¬ IsP t p
  old : Below w1.heap.size w1 wr
theorem DL.snoc {W w1 wr w2 w3 : World} {t : T} {v v' : Value} {b b' : Bool} {ps : List I} {k : Nat} (L : DL W w1 wr t v b ps k) {u : T} {x : I} (hu : (kids t)[k]? = some u) (hn : N64 x) (hy : b' = true → InsP u x) (hno : b' = false → ∀ y, ¬ InsP u y)
    (hb : Below wr.heap.size wr w2) (hgr : w2.grownBy w3 v.ownBlock) (hown : w3.ownsRow w1.heap.size 31 3 v' (k + 1) (rowI ps ++ [.int .i64 x.op, .int .i64 x.n, .string x.s])) : DL W w1 w3 t v' (b && b') (ps ++ [x]) (k + 1) := by
  refine ⟨by simp [L.len], ?_, fun y hy' => ?_, fun hbb => ?_, fun hbb => ?_, ?_⟩
  · rw [rowI_app]
    exact hown
  · rw [List.mem_append, List.mem_singleton] at hy'
    rcases hy' with hy' | rfl
    · exact L.nb y hy'
    · exact hn
  · rw [Bool.and_eq_true] at hbb
    obtain ⟨h1, h2⟩ := L.yes hbb.1
    refine ⟨h1, fun j u' x' hj hu' hx' => ?_⟩
    by_cases hjk : j < k
    · rw [List.getElem?_append_left (by rw [L.len]; exact hjk)] at hx'
      exact h2 j u' x' hjk hu' hx'
    · obtain rfl : j = k := by omega
      rw [hu] at hu'
      cases hu'
      rw [← L.len] at hx'
      simp at hx'
      subst hx'
      exact hy hbb.2
  · cases b with
    | false => exact L.no rfl
    | true =>
      simp at hbb
      intro p hp
      have ht := hp.tree
      subst ht
      rw [progT_kids, List.getElem?_map] at hu
      obtain ⟨y, hy', rfl⟩ := Option.map_eq_some_iff.1 hu
      exact hno hbb y (hp.ins y (List.mem_of_getElem? hy'))
  · have h1 := L.old.trans (hb.mono L.old.size)
    exact h1.grown hgr h1.size (fun g hg => (L.own.lt g hg).1)
end Cd
end Go.Proofs.YtjfchdgdgbdeeaaDoor
