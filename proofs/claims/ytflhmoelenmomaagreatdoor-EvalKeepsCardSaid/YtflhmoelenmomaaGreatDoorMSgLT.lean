/-
  Law: SpanTerms answers true.
-/
import Derived.Test.YtflhmoelenmomaaGreatDoorMSgLH
namespace Go.Proofs.YtflhmoelenmomaaGreatDoor
open Go.RowKit Go.Shelf Go.Lib
namespace Sg

/-- a range that says S, unless it has too many gaps -/
def SP (S : Int → Prop) (z : Value) (c : Int) (W' : World) : Prop := ∃ r, Nm r ∧ (∀ n, inR r n ↔ S n) ∧ (∀ g ∈ r, Bd g) ∧ c = (if 16 < r.length then 13 else 0) ∧ GS W' z (if 16 < r.length then [] else r)
theorem SP.of {B : Nat} {S : Int → Prop} {r : List G} {e : Ending} {W' : World} (h : SetP B S r e W') : ∃ z c, e = .returned (.tuple #[z, .int .i64 c]) ∧ SP S z c W' := by
  rcases h.ans with ⟨h1, h2⟩ | ⟨h1, v, h2, h3⟩
  · exact ⟨_, _, h2, r, h.nm, h.mem, h.bd, by rw [if_pos h1], by rw [if_pos h1]; exact gs_nil W'⟩
  · exact ⟨_, _, h2, r, h.nm, h.mem, h.bd, by rw [if_neg h1], by rw [if_neg h1]; exact h3.gs fun g hg => (h.bd g hg).n64⟩
theorem SP.same {S S' : Int → Prop} {z z' : Value} {c c' : Int} {W W' : World} (h : SP S z c W) (h' : SP S' z' c' W') (hS : ∀ n, S n ↔ S' n) : c = c' ∧ ∃ l, GS W z l ∧ GS W' z' l := by
  obtain ⟨r, h1, h2, h3, h4, h5⟩ := h
  obtain ⟨r', g1, g2, g3, g4, g5⟩ := h'
  have e : r = r' := nm_unique _ _ h1 g1 fun n => (h2 n).trans ((hS n).trans (g2 n).symm)
  subst e
  exact ⟨h4.trans g4.symm, _, h5, g5⟩
theorem SP.form {S : Int → Prop} {x : Value} {c : Int} {W' : World} (h : SP S x c W') : ∃ sl n cap, x = .slice sl n cap := by
  obtain ⟨r, _, _, _, _, h⟩ := h
  obtain ⟨sl, cap, h1, _⟩ := h.form
  exact ⟨_, _, _, h1⟩
theorem parse_sp (s : ByteArray) (l : List G) (W : World) (hs : s.size ≤ 1048576) (hE : Vs.Env W) (h : setF s.data.toList = .ok l) :
    Calls Tryz.prog 30 #[.string s] W fun e W' => ∃ z c, e = .returned (.tuple #[z, .int .i64 c]) ∧ SP (fun n => inR l n) z c W' ∧ Below W.heap.size W W' := (parse_any s W hs hE).mono fun e W' hq => by
  obtain ⟨h1, hB⟩ := hq
  rw [h] at h1
  obtain ⟨r, h2⟩ := h1
  obtain ⟨z, c, h3, h4⟩ := SP.of h2
  exact ⟨z, c, h3, h4, hB⟩
/-- what Parse answers of a text that is not none: a fault, or the range of its gaps -/
def PT (l : List UInt8) (z : Value) (c : Int) (W' : World) : Prop := (c ≠ 0 ∧ z = .slice none 0 0) ∨ (c = 0 ∧ ∃ g r, allF l = some g ∧ goodB r = true ∧ (∀ n, inR r n ↔ inR g n) ∧ GS W' z r)
theorem parse_two (s : ByteArray) (W : World) (hs : s.size ≤ 1048576) (hE : Vs.Env W) (hn : s.data.toList ≠ noneL) :
    Calls Tryz.prog 30 #[.string s] W fun e W' => ∃ z c, e = .returned (.tuple #[z, .int .i64 c]) ∧ PT s.data.toList z c W' ∧ Below W.heap.size W W' := (parse_any s W hs hE).mono fun e W' hq => by
  obtain ⟨h1, hB⟩ := hq
  unfold setF at h1
  by_cases hl : 256 < s.data.toList.length
  · rw [if_pos hl] at h1
    exact ⟨_, _, h1, .inl ⟨by decide, rfl⟩, hB⟩
  rw [if_neg hl, if_neg hn] at h1
  cases ha : allF s.data.toList with
  | none =>
    rw [ha] at h1
    exact ⟨_, _, h1, .inl ⟨by decide, rfl⟩, hB⟩
  | some g =>
    rw [ha] at h1
    obtain ⟨r, h2⟩ := h1
    rcases h2.ans with ⟨k1, k2⟩ | ⟨k1, v, k2, k3⟩
    · exact ⟨_, _, k2, .inl ⟨by decide, rfl⟩, hB⟩
    · exact ⟨_, _, k2, .inr ⟨rfl, g, r, ha, good_of h2.nm (by omega) fun x hx => ⟨(h2.bd x hx).1.1, (h2.bd x hx).2.2⟩, h2.mem, k3.gs fun x hx => (h2.bd x hx).n64⟩, hB⟩
theorem PT.form {l : List UInt8} {x : Value} {c : Int} {W' : World} (h : PT l x c W') : ∃ sl n cap, x = .slice sl n cap := by
  rcases h with ⟨_, rfl⟩ | ⟨_, g, r, _, _, _, h⟩
  · exact ⟨_, _, _, rfl⟩
  · obtain ⟨sl, cap, h1, _⟩ := h.form
    exact ⟨_, _, _, h1⟩
theorem cat_data (s t : ByteArray) (x : List UInt8) : ((s ++ ⟨x.toArray⟩) ++ t).data.toList = s.data.toList ++ (x ++ t.data.toList) := by
  rw [ByteArray.data_append, ByteArray.data_append, Array.toList_append, Array.toList_append, List.append_assoc]
theorem set_some {l : List UInt8} {g : List G} (h1 : l.length ≤ 256) (h2 : l ≠ noneL) (h3 : allF l = some g) : setF l = .ok g := by
  unfold setF
  rw [if_neg (by omega), if_neg h2, h3]
theorem same_of {p : List G} {v v' : Value} {W W1 W2 : World} (h1 : GS W v p) (h2 : GS W1 v' p) (hb1 : Below W.heap.size W W2) (hb2 : Below W1.heap.size W1 W2) : Calls Tryz.prog 59 #[v, v'] W2 fun e W' => e = .returned (.bool true) ∧ Below W2.heap.size W2 W' := rsame_any p v v' W2 (h1.below hb1) (h2.below hb2)
theorem no_succ {s : ByteArray} {k : Nat} (h : (124 : UInt8) ∉ s.data.toList.take k) (hk : k < s.size) (hn : s[k]'hk ≠ 124) : (124 : UInt8) ∉ s.data.toList.take (k + 1) := by
  rw [List.take_add_one, Lib.data_getElem? s k hk]
  simp only [Option.toList_some, List.mem_append, List.mem_cons, List.not_mem_nil, or_false, not_or]
  exact ⟨h, fun e => hn e.symm⟩
theorem no_all {s : ByteArray} (h : (124 : UInt8) ∉ s.data.toList.take s.size) : (124 : UInt8) ∉ s.data.toList := by
  rw [Lib.size_eq s, List.take_length] at h
  exact h
end Sg
end Go.Proofs.YtflhmoelenmomaaGreatDoor
