/-
  Rows of lists of atoms: their facts.
-/
import Derived.Test.YtbhngjhfeejeiaaGreatDoorSxS
import Derived.Test.YtbhngjhfeejeiaaGreatDoorSxQ
import Derived.Test.YtbhngjhfeejeiaaGreatDoorMix
import Derived.Test.YtbhngjhfeejeiaaGreatDoorDvB
import Derived.Test.YtbhngjhfeejeiaaGreatDoorVs
namespace Go.Proofs.YtbhngjhfeejeiaaGreatDoor
open Go.RowKit Sx
namespace Dv

/-- the kids that are done -/
structure KS (W : World) (B : Nat) (p : List (List ByteArray)) (k : Nat) (v : Value) (zs : List Value) : Prop where
  len : zs.length = k
  own : W.ownsRow B 39 3 v k (row3 (zs.map listQ))
  nil : k = 0 → v = .slice none 0 0
  kb : ∀ (i : Nat) (z : Value) (x : List ByteArray), zs[i]? = some z → p[i]? = some x → KB W x z
theorem KS.ne {W : World} {B : Nat} {p : List (List ByteArray)} {k : Nat} {v : Value} {zs : List Value} (h : KS W B p k v zs) {ts : List ByteArray} {z : Value} (hz : KB W ts z) : ∀ g cap, z = .slice (some ⟨g, 0, none⟩) ts.length cap → some g ≠ v.ownBlock := by
  intro g cap e hg
  obtain ⟨g', cap', rfl, hlt, hl, hc⟩ := hz
  cases e
  rcases Nat.eq_zero_or_pos k with h0 | h0
  · rw [h.nil h0] at hg; simp [Value.ownBlock] at hg
  · obtain ⟨r, hr⟩ : ∃ r, zs[0]? = some r := ⟨zs[0]'(by rw [h.len]; exact h0), List.getElem?_eq_getElem _⟩
    have hq := (row3_get (zs.map listQ) 0 (listQ r) (by rw [List.getElem?_map, hr]; rfl)).1
    have hcell := h.own.cells hg.symm _ _ hq
    obtain ⟨s, hs⟩ : ∃ s, ts[0]? = some s := ⟨ts[0], List.getElem?_eq_getElem hl⟩
    have h1 := (hc 0 s hs).1
    simp [Addr.add] at hcell
    simp at h1
    rw [h1] at hcell
    simp [listQ] at hcell
theorem KS.below {W W' : World} {B : Nat} {p : List (List ByteArray)} {k : Nat} {v : Value} {zs : List Value} (h : KS W B p k v zs) (hb : Below W.heap.size W W') : KS W' B p k v zs :=
  ⟨h.len, own_block h.own (fun k hk => hb.block k (h.own.lt k hk).2), h.nil, fun i z x hz hx => (h.kb i z x hz hx).below hb⟩
/-- one kid more, behind the append -/
theorem KS.snoc {W W' : World} {B : Nat} {p : List (List ByteArray)} {k : Nat} {v v' : Value} {zs : List Value} (h : KS W B p k v zs) {x : List ByteArray} {z : Value} (hx : p[k]? = some x) (hz : KB W x z) (hg : W.grownBy W' v.ownBlock)
    (hown : W'.ownsRow B 39 3 v' (k + 1) (row3 (zs.map listQ) ++ [.bool false, .string ⟨#[]⟩, z])) : KS W' B p (k + 1) v' (zs ++ [z]) := by
  have keep : ∀ ts u, KB W ts u → KB W' ts u := fun ts u hu => by
    have hu' := hu
    obtain ⟨g, cap, rfl, hlt, _, _⟩ := hu
    refine hu'.keep hg.size (fun g' cap' e => ?_)
    cases e
    exact hg.block g hlt (h.ne hu' g cap rfl)
  refine ⟨by simp [h.len], by rw [List.map_append]; simp only [List.map_cons, List.map_nil]; rw [row3_snoc]; exact hown, fun h => by omega, fun i u y hu hy => ?_⟩
  rcases Nat.lt_or_ge i zs.length with hi | hi
  · rw [List.getElem?_append_left hi] at hu
    exact keep _ _ (h.kb i u y hu hy)
  · have hi' : i < (zs ++ [z]).length := (List.getElem?_eq_some_iff.1 hu).1
    simp at hi'
    obtain rfl : i = zs.length := by omega
    simp at hu
    subst hu
    rw [h.len] at hy
    obtain rfl : x = y := Option.some.inj (hx.symm.trans hy)
    exact keep _ _ hz
/-- all kids, in a row -/
theorem KS.rep {W : World} {B : Nat} {p : List (List ByteArray)} {v : Value} {zs : List Value} (hkb : ∀ (i : Nat) (z : Value) (x : List ByteArray), zs[i]? = some z → p[i]? = some x → KB W x z) (hlen : zs.length = p.length) (hown : W.ownsRow B 39 3 v p.length (row3 (zs.map listQ))) (hp : 0 < p.length) :
    Rep W W.heap.size 2 (.list (p.map fun ts => .list (ts.map .leaf))) (.agg #[.bool false, .string ⟨#[]⟩, v]) := by
  have h' : W.ownsRow B 39 3 v (zs.map listQ).length (row3 (zs.map listQ)) := by rw [List.length_map, hlen]; exact hown
  obtain ⟨g, cap, rfl, _, hlt, hc⟩ := own_row3 h' (by rw [List.length_map, hlen]; exact hp)
  have hl : (zs.map listQ).length = (p.map fun ts => T.list (ts.map .leaf)).length := by simp [hlen]
  rw [hl]
  refine .list 1 _ _ _ (fun _ => .bool false) (fun _ => .string ⟨#[]⟩) (fun i => zs.getD i .nilIface) (fun i t ht => ?_) (fun i t ht => ?_)
  · rw [List.getElem?_map] at ht
    obtain ⟨x, hx, rfl⟩ := Option.map_eq_some_iff.1 ht
    have hi : i < zs.length := by rw [hlen]; exact (List.getElem?_eq_some_iff.1 hx).1
    have hz : zs[i]? = some zs[i] := List.getElem?_eq_getElem hi
    obtain ⟨h1, h2, h3⟩ := hc i (listQ zs[i]) (by rw [List.getElem?_map, hz]; rfl)
    exact ⟨g, 0, rfl, hlt, h1, h2, by rw [List.getD_eq_getElem?_getD, hz]; exact h3⟩
  · rw [List.getElem?_map] at ht
    obtain ⟨x, hx, rfl⟩ := Option.map_eq_some_iff.1 ht
    have hi : i < zs.length := by rw [hlen]; exact (List.getElem?_eq_some_iff.1 hx).1
    have hz : zs[i]? = some zs[i] := List.getElem?_eq_getElem hi
    rw [List.getD_eq_getElem?_getD, hz]
    exact (hkb i _ x hz hx).rep
theorem nodes_own1 (W : World) (s : ByteArray) : (W.alloc (.cells #[.bool true, .string s, .slice none 0 0] 39)).ownsRow W.heap.size 39 3 (.slice (some ⟨W.heap.size, 0, none⟩) 1 1) 1 (row3 ([s].map leafQ)) :=
  World.ownsRow_lit W #[.bool true, .string s, .slice none 0 0] 1 (Nat.le_refl _) (by decide) rfl
theorem nodes_own2 (W : World) (s t : ByteArray) : (W.alloc (.cells #[.bool true, .string s, .slice none 0 0, .bool true, .string t, .slice none 0 0] 39)).ownsRow W.heap.size 39 3 (.slice (some ⟨W.heap.size, 0, none⟩) 2 2) 2 (row3 ([s, t].map leafQ)) :=
  World.ownsRow_lit W #[.bool true, .string s, .slice none 0 0, .bool true, .string t, .slice none 0 0] 2 (Nat.le_refl _) (by decide) rfl
theorem row_cells {W : World} {B g n cap : Nat} {xs : List Value} (h : W.ownsRow B 39 3 (.slice (some ⟨g, 0, none⟩) n cap) n xs) : ∀ j u, xs[j]? = some u → W.cell? ((⟨g, 0, none⟩ : Addr).add j) = some u := h.cells (g := g) rfl
theorem leafs_one (ts : List ByteArray) : ∀ u ∈ row3 (ts.map leafQ), u.oneCell' = true := row3_one _ (fun q hq => by
  obtain ⟨s, _, rfl⟩ := List.mem_map.1 hq
  exact ⟨rfl, rfl, rfl⟩)
theorem lists_one (zs : List Value) (h : ∀ z ∈ zs, z.oneCell' = true) : ∀ u ∈ row3 (zs.map listQ), u.oneCell' = true := row3_one _ (fun q hq => by
  obtain ⟨s, hs, rfl⟩ := List.mem_map.1 hq
  exact ⟨rfl, rfl, h s hs⟩)
theorem KS.one {W : World} {B : Nat} {p : List (List ByteArray)} {v : Value} {zs : List Value} (h : KS W B p p.length v zs) : ∀ z ∈ zs, z.oneCell' = true := fun z hz => by
  obtain ⟨i, hi⟩ := List.mem_iff_getElem?.1 hz
  have hl : i < p.length := by rw [← h.len]; exact (List.getElem?_eq_some_iff.1 hi).1
  obtain ⟨g, cap, rfl, _⟩ := h.kb i z p[i] hi (List.getElem?_eq_getElem hl)
  rfl
/-- a build's tree -/
def kids (d : D) : List (List ByteArray) := d.ins.map fun x => [x.1, x.2]
def textB (d : D) : ByteArray := ⟨(Vs.textL d.a d.b d.c).toArray⟩
def withT (d : D) : T := .list ((kids d).map fun ts => .list (ts.map .leaf))
def drvT (d : D) : T := .list [.leaf ⟨#[100, 114, 118]⟩, .leaf d.name, .leaf (textB d), .leaf d.tool, withT d]
def ENV (d : D) : Value := if goodD d = true then EV (enc (drvT d)) else .tuple #[.string ⟨#[]⟩, .int .i64 1]
theorem ENV_bad {d : D} (h : goodD d = false) : ENV d = .tuple #[.string ⟨#[]⟩, .int .i64 1] := by unfold ENV; rw [h]; rfl
theorem ENV_ok {d : D} (h : goodD d = true) : ENV d = EV (enc (drvT d)) := by unfold ENV; rw [if_pos h]
theorem good_len {d : D} (h : goodD d = true) : d.ins.length ≤ 40 := by
  simp only [goodD, Bool.and_eq_true, decide_eq_true_eq] at h
  exact h.1.2
def ES (l : List UInt8) : ByteArray := if 65536 < l.length then ⟨#[]⟩ else ⟨l.toArray⟩
def EE (l : List UInt8) : Int := if 65536 < l.length then 3 else 0
theorem EV_eq (l : List UInt8) : EV l = .tuple #[.string (ES l), .int .i64 (EE l)] := by
  unfold EV ES EE
  split <;> rfl
set_option maxHeartbeats 400000 in
theorem list_nil (W : World) : Calls Tryz.prog 18 #[.slice none 0 0] W fun e W' => ∃ v, e = .returned (.agg #[.bool false, .string ⟨#[]⟩, v]) ∧ (∃ sl cap, v = .slice sl 0 cap) ∧ Below W.heap.size W W' := by
  go_enter Tryz.func18, Tryz.ntmps18
  go_wp2_with fail
  refine bodyPost_ret (v := .agg #[.bool false, .string ⟨#[]⟩, .slice (some ⟨W.heap.size + 1, 0, none⟩) 0 0]) (by simp [results, Tryz.results18, go_sem]) rfl ⟨_, rfl, ⟨_, _, rfl⟩, ?_⟩
  exact ((Below.refl _ _).alloc (Nat.le_refl _) _).alloc (by simp) _
end Dv
end Go.Proofs.YtbhngjhfeejeiaaGreatDoor
