/-
  A program's tree, and the rows that code.Encode makes: their facts.
-/
import Derived.Test.YtjfchdgdgbdeeaaDoorCodeJ
namespace Go.Proofs.YtjfchdgdgbdeeaaDoor
open Go.RowKit
namespace Cd

/-- an instruction's atoms -/
def args (x : I) : List ByteArray := if takes x.op = 0 then [] else if takes x.op = 2 then [x.s] else [⟨(Lib.itoa x.n).toArray⟩]
def atoms (x : I) : List ByteArray := wordB x.op :: args x
def insT (x : I) : T := .list ((atoms x).map .leaf)
def progT (p : List I) : T := .list (p.map insT)
theorem atoms_0 {x : I} (h : takes x.op = 0) : atoms x = [wordB x.op] := by simp [atoms, args, h]
theorem atoms_2 {x : I} (h : takes x.op = 2) : atoms x = [wordB x.op, x.s] := by simp [atoms, args, h]
theorem atoms_n {x : I} (h0 : takes x.op ≠ 0) (h : takes x.op ≠ 2) : atoms x = [wordB x.op, ⟨(Lib.itoa x.n).toArray⟩] := by simp [atoms, args, h, h0]

def row3 (l : List (Value × Value × Value)) : List Value := l.flatMap fun q => [q.1, q.2.1, q.2.2]
theorem row3_len : ∀ l, (row3 l).length = l.length * 3
  | [] => rfl
  | q :: l => by have := row3_len l; simp only [row3, List.flatMap_cons, List.length_append, List.length_cons, List.length_nil] at this ⊢; omega
theorem row3_get : ∀ (l : List (Value × Value × Value)) (i : Nat) (q : Value × Value × Value), l[i]? = some q → (row3 l)[i * 3]? = some q.1 ∧ (row3 l)[i * 3 + 1]? = some q.2.1 ∧ (row3 l)[i * 3 + 2]? = some q.2.2
  | [], i, q, h => by simp at h
  | r :: l, 0, q, h => by simp at h; subst h; simp [row3]
  | r :: l, i + 1, q, h => by
    have ih := row3_get l i q (by simpa using h)
    have e : row3 (r :: l) = [r.1, r.2.1, r.2.2] ++ row3 l := rfl
    have e1 : (i + 1) * 3 = i * 3 + 3 := by omega
    have ee : ∀ j, (row3 (r :: l))[j + 3]? = (row3 l)[j]? := fun j => by rw [e, List.getElem?_append_right (by simp)]; simp
    rw [e1, show i * 3 + 3 + 1 = i * 3 + 1 + 3 by omega, show i * 3 + 3 + 2 = i * 3 + 2 + 3 by omega, ee, ee, ee]
    exact ih
theorem row3_snoc (l : List (Value × Value × Value)) (q : Value × Value × Value) : row3 (l ++ [q]) = row3 l ++ [q.1, q.2.1, q.2.2] := by simp [row3]
theorem row3_one (l : List (Value × Value × Value)) (h : ∀ q ∈ l, q.1.oneCell' = true ∧ q.2.1.oneCell' = true ∧ q.2.2.oneCell' = true) : ∀ u ∈ row3 l, u.oneCell' = true := by
  intro u hu
  simp only [row3, List.mem_flatMap, List.mem_cons, List.not_mem_nil, or_false] at hu
  obtain ⟨q, hq, rfl | rfl | rfl⟩ := hu
  · exact (h q hq).1
  · exact (h q hq).2.1
  · exact (h q hq).2.2

/-- a row of the call's own as triples -/
theorem own_row3 {W : World} {B : Nat} {v : Value} {l : List (Value × Value × Value)} (h : W.ownsRow B 46 3 v l.length (row3 l)) (hl : 0 < l.length) :
    ∃ g cap, v = .slice (some ⟨g, 0, none⟩) l.length cap ∧ B ≤ g ∧ g < W.heap.size ∧ ∀ i q, l[i]? = some q → W.cell? ⟨g, 0 + i * 3, none⟩ = some q.1 ∧ W.cell? ⟨g, 0 + i * 3 + 1, none⟩ = some q.2.1 ∧ W.cell? ⟨g, 0 + i * 3 + 2, none⟩ = some q.2.2 := by
  obtain ⟨g, cap, rfl, hg, hlt⟩ := h.form hl
  have hadd : ∀ n, (⟨g, 0, none⟩ : Addr).add n = ⟨g, n, none⟩ := fun n => by unfold Addr.add; split <;> simp_all
  refine ⟨g, cap, rfl, hg, hlt, fun i q hq => ?_⟩
  obtain ⟨h1, h2, h3⟩ := row3_get l i q hq
  have c1 := h.cells (g := g) rfl _ _ h1
  have c2 := h.cells (g := g) rfl _ _ h2
  have c3 := h.cells (g := g) rfl _ _ h3
  rw [hadd] at c1 c2 c3
  simp only [Nat.zero_add]
  exact ⟨c1, c2, c3⟩

def leafQ (s : ByteArray) : Value × Value × Value := (.bool true, .string s, .slice none 0 0)
def listQ (z : Value) : Value × Value × Value := (.bool false, .string ⟨#[]⟩, z)
/-- z is a slice of atoms -/
def KB (W : World) (ts : List ByteArray) (z : Value) : Prop := ∃ g cap, z = .slice (some ⟨g, 0, none⟩) ts.length cap ∧ g < W.heap.size ∧ 0 < ts.length ∧ ∀ i s, ts[i]? = some s → W.cell? ⟨g, 0 + i * 3, none⟩ = some (.bool true) ∧ W.cell? ⟨g, 0 + i * 3 + 1, none⟩ = some (.string s) ∧ W.cell? ⟨g, 0 + i * 3 + 2, none⟩ = some (.slice none 0 0)
theorem KB.of_own {W : World} {B : Nat} {v : Value} {ts : List ByteArray} (h : W.ownsRow B 46 3 v ts.length (row3 (ts.map leafQ))) (hl : 0 < ts.length) : KB W ts v := by
  have h' : W.ownsRow B 46 3 v (ts.map leafQ).length (row3 (ts.map leafQ)) := by rw [List.length_map]; exact h
  obtain ⟨g, cap, rfl, _, hlt, hc⟩ := own_row3 h' (by rw [List.length_map]; exact hl)
  refine ⟨g, cap, by rw [List.length_map], hlt, hl, fun i s hs => hc i (leafQ s) (by rw [List.getElem?_map, hs]; rfl)⟩
theorem KB.keep {W W' : World} {ts : List ByteArray} {z : Value} (h : KB W ts z) (hs : W.heap.size ≤ W'.heap.size) (hk : ∀ g cap, z = .slice (some ⟨g, 0, none⟩) ts.length cap → W'.heap[g]? = W.heap[g]?) : KB W' ts z := by
  obtain ⟨g, cap, rfl, hlt, hl, hc⟩ := h
  refine ⟨g, cap, rfl, Nat.lt_of_lt_of_le hlt hs, hl, fun i s hi => ?_⟩
  have hb := hk g cap rfl
  obtain ⟨h1, h2, h3⟩ := hc i s hi
  exact ⟨(World.cell?_of_block hb).trans h1, (World.cell?_of_block hb).trans h2, (World.cell?_of_block hb).trans h3⟩
theorem KB.below {W W' : World} {ts : List ByteArray} {z : Value} (h : KB W ts z) (hb : Below W.heap.size W W') : KB W' ts z := by
  have h' := h
  obtain ⟨g, cap, rfl, hlt, _, _⟩ := h
  refine h'.keep hb.size (fun g' cap' e => ?_)
  cases e
  exact hb.block g hlt
theorem KB.rep {W : World} {ts : List ByteArray} {z : Value} (h : KB W ts z) : Rep W W.heap.size 1 (.list (ts.map .leaf)) (.agg #[.bool false, .string ⟨#[]⟩, z]) := by
  obtain ⟨g, cap, rfl, hlt, hl, hc⟩ := h
  have hlen : ts.length = (ts.map T.leaf).length := by simp
  rw [hlen]
  refine .list 0 _ _ _ (fun _ => .bool true) (fun i => .string (ts.getD i ⟨#[]⟩)) (fun _ => .slice none 0 0) (fun i k hk => ?_) (fun i k hk => ?_)
  · rw [List.getElem?_map] at hk
    obtain ⟨s, hs, rfl⟩ := Option.map_eq_some_iff.1 hk
    obtain ⟨h1, h2, h3⟩ := hc i s hs
    exact ⟨g, 0, rfl, hlt, h1, by rw [List.getD_eq_getElem?_getD, hs]; exact h2, h3⟩
  · rw [List.getElem?_map] at hk
    obtain ⟨s, hs, rfl⟩ := Option.map_eq_some_iff.1 hk
    rw [List.getD_eq_getElem?_getD, hs]
    exact .leaf 0 s

/-- the kids that are done -/
structure KS (W : World) (B : Nat) (p : List I) (k : Nat) (v : Value) (zs : List Value) : Prop where
  len : zs.length = k
  own : W.ownsRow B 46 3 v k (row3 (zs.map listQ))
  nil : k = 0 → v = .slice none 0 0
  kb : ∀ (i : Nat) (z : Value) (x : I), zs[i]? = some z → p[i]? = some x → KB W (atoms x) z
theorem KS.ne {W : World} {B : Nat} {p : List I} {k : Nat} {v : Value} {zs : List Value} (h : KS W B p k v zs) {ts : List ByteArray} {z : Value} (hz : KB W ts z) : ∀ g cap, z = .slice (some ⟨g, 0, none⟩) ts.length cap → some g ≠ v.ownBlock := by
  intro g cap e hg
  obtain ⟨g', cap', rfl, hlt, hl, hc⟩ := hz
  cases e
  rcases Nat.eq_zero_or_pos k with h0 | h0
  · rw [h.nil h0] at hg; simp [Value.ownBlock] at hg
  · obtain ⟨r, hr⟩ : ∃ r, zs[0]? = some r := ⟨zs[0]'(by rw [h.len]; exact h0), List.getElem?_eq_getElem _⟩
    have hq := (row3_get (zs.map listQ) 0 (listQ r) (by rw [List.getElem?_map, hr]; rfl)).1
    have hcell := h.own.cells hg.symm _ _ hq
    obtain ⟨s, hs⟩ : ∃ s, ts[0]? = some s := ⟨ts[0], List.getElem?_eq_getElem hl⟩
    have h1 := (hc 0 s hs).1
    simp [Addr.add] at hcell
    simp at h1
    rw [h1] at hcell
    simp [listQ] at hcell
theorem KS.below {W W' : World} {B : Nat} {p : List I} {k : Nat} {v : Value} {zs : List Value} (h : KS W B p k v zs) (hb : Below W.heap.size W W') : KS W' B p k v zs :=
  ⟨h.len, own_block h.own (fun k hk => hb.block k (h.own.lt k hk).2), h.nil, fun i z x hz hx => (h.kb i z x hz hx).below hb⟩
/-- one kid more, behind the append -/
theorem KS.snoc {W W' : World} {B : Nat} {p : List I} {k : Nat} {v v' : Value} {zs : List Value} (h : KS W B p k v zs) {x : I} {z : Value} (hx : p[k]? = some x) (hz : KB W (atoms x) z) (hg : W.grownBy W' v.ownBlock)
    (hown : W'.ownsRow B 46 3 v' (k + 1) (row3 (zs.map listQ) ++ [.bool false, .string ⟨#[]⟩, z])) : KS W' B p (k + 1) v' (zs ++ [z]) := by
  have keep : ∀ ts u, KB W ts u → KB W' ts u := fun ts u hu => by
    have hu' := hu
    obtain ⟨g, cap, rfl, hlt, _, _⟩ := hu
    refine hu'.keep hg.size (fun g' cap' e => ?_)
    cases e
    exact hg.block g hlt (h.ne hu' g cap rfl)
  refine ⟨by simp [h.len], by rw [List.map_append]; simp only [List.map_cons, List.map_nil]; rw [row3_snoc]; exact hown, fun h => by omega, fun i u y hu hy => ?_⟩
  rcases Nat.lt_or_ge i zs.length with hi | hi
  · rw [List.getElem?_append_left hi] at hu
    exact keep _ _ (h.kb i u y hu hy)
  · have hi' : i < (zs ++ [z]).length := (List.getElem?_eq_some_iff.1 hu).1
    simp at hi'
    obtain rfl : i = zs.length := by omega
    simp at hu
    subst hu
    rw [h.len] at hy
    obtain rfl : x = y := Option.some.inj (hx.symm.trans hy)
    exact keep _ _ hz
/-- all kids, in a row -/
theorem KS.rep {W : World} {B : Nat} {p : List I} {v : Value} {zs : List Value} (hkb : ∀ (i : Nat) (z : Value) (x : I), zs[i]? = some z → p[i]? = some x → KB W (atoms x) z) (hlen : zs.length = p.length) (hown : W.ownsRow B 46 3 v p.length (row3 (zs.map listQ))) (hp : 0 < p.length) :
    Rep W W.heap.size 2 (progT p) (.agg #[.bool false, .string ⟨#[]⟩, v]) := by
  have h' : W.ownsRow B 46 3 v (zs.map listQ).length (row3 (zs.map listQ)) := by rw [List.length_map, hlen]; exact hown
  obtain ⟨g, cap, rfl, _, hlt, hc⟩ := own_row3 h' (by rw [List.length_map, hlen]; exact hp)
  have hl : (zs.map listQ).length = (p.map insT).length := by simp [hlen]
  rw [hl]
  refine .list 1 _ _ _ (fun _ => .bool false) (fun _ => .string ⟨#[]⟩) (fun i => zs.getD i .nilIface) (fun i t ht => ?_) (fun i t ht => ?_)
  · rw [List.getElem?_map] at ht
    obtain ⟨x, hx, rfl⟩ := Option.map_eq_some_iff.1 ht
    have hi : i < zs.length := by rw [hlen]; exact (List.getElem?_eq_some_iff.1 hx).1
    have hz : zs[i]? = some zs[i] := List.getElem?_eq_getElem hi
    obtain ⟨h1, h2, h3⟩ := hc i (listQ zs[i]) (by rw [List.getElem?_map, hz]; rfl)
    exact ⟨g, 0, rfl, hlt, h1, h2, by rw [List.getD_eq_getElem?_getD, hz]; exact h3⟩
  · rw [List.getElem?_map] at ht
    obtain ⟨x, hx, rfl⟩ := Option.map_eq_some_iff.1 ht
    have hi : i < zs.length := by rw [hlen]; exact (List.getElem?_eq_some_iff.1 hx).1
    have hz : zs[i]? = some zs[i] := List.getElem?_eq_getElem hi
    rw [List.getD_eq_getElem?_getD, hz]
    exact (hkb i _ x hz hx).rep
end Cd
end Go.Proofs.YtjfchdgdgbdeeaaDoor
