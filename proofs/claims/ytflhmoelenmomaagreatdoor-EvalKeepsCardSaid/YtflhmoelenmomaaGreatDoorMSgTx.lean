/-
  Walks: word; Text at the empty range and at the range that the laws' guard tells; alive.
-/
import Derived.Test.YtflhmoelenmomaaGreatDoorMSgZ
import Derived.Test.YtflhmoelenmomaaGreatDoorMSgW
import Derived.Test.YtflhmoelenmomaaGreatDoorMRcP
import Derived.Test.YtflhmoelenmomaaGreatDoorMVersionC
namespace Go.Proofs.YtflhmoelenmomaaGreatDoor
open Go.RowKit Go.Shelf Go.Lib
namespace Sg

theorem info_string : (Tryz.prog.info? 9).map (fun i => (i.zero, i.size, i.bytes)) = some (some (.string ⟨#[]⟩), 1, 16) := by kernel_rfl
/-- a slice of texts that is its holder's own -/
def SO (W : World) (B : Nat) (v : Value) (l : List ByteArray) : Prop := W.ownsRow B 9 1 v l.length (l.map Value.string)
theorem so_nil (W : World) (B : Nat) : SO W B (.slice none 0 0) [] := World.ownsRow_nil W B _ 1
theorem SO.isl {W : World} {B : Nat} {v : Value} {l : List ByteArray} (h : SO W B v l) : ∃ sl cap, v = .slice sl l.length cap := by
  rcases h.2 with ⟨rfl, hn⟩ | ⟨g, cap, cur, rfl, _⟩
  · exact ⟨none, 0, by rw [hn]⟩
  · exact ⟨_, _, rfl⟩
theorem SO.at {W : World} {B : Nat} {sl : Option Addr} {n cap : Nat} {l : List ByteArray} (h : SO W B (.slice sl n cap) l) (hn : l ≠ []) :
    ∃ g, sl = some ⟨g, 0, none⟩ ∧ g < W.heap.size ∧ n = l.length ∧ n ≤ cap ∧ ∀ (k : Nat) x, l[k]? = some x → W.cell? ⟨g, 0 + k, none⟩ = some (.string x) := by
  have h0 := h
  rcases h.2 with ⟨_, hz⟩ | ⟨g, cap', cur, e, hb, hg, hc, _⟩
  · exact absurd (List.length_eq_zero_iff.1 hz) hn
  · cases e
    refine ⟨g, rfl, (Array.getElem?_eq_some_iff.1 hg).1, rfl, by omega, fun k x hk => ?_⟩
    have h1 := World.ownsRow.cells h0 (g := g) rfl k (.string x) (by rw [List.getElem?_map, hk]; rfl)
    rw [add_at] at h1
    exact h1
theorem SO.below {W W' : World} {B : Nat} {v : Value} {l : List ByteArray} (h : SO W B v l) (hb : Below W.heap.size W W') : SO W' B v l :=
  World.ownsRow.kept h (row := none) ⟨hb.os, hb.tape, hb.output, hb.size, fun k hk _ => hb.block k hk⟩ (by cases v.ownBlock <;> simp)
theorem SO.push {w : World} {B : Nat} {v : Value} {l : List ByteArray} (h : SO w B v l) (x : ByteArray) (hn : l.length ≤ 1000000) (hBw : B ≤ w.heap.size) {ops : Array Oper} {rest : List Oper} {o : Oper} {a : Act} {Q : Exit → Act → World → Prop} (hgd : o.guard = none) (sl xo : Operand)
    (ho : o.op = .call { callee := .builtin .append, args := #[sl, xo], argTypes := #[85, 85] }) (hv : a.eval sl = v) {A : Nat} (hx : a.eval xo = .slice (some ⟨A, 0, none⟩) 1 1) (hA : A = w.heap.size)
    (hK : ∀ v' w', SO w' B v' (l ++ [x]) → (∀ w0, Below B w0 w → Below B w0 w') → wpList Tryz.prog ops Q rest (a.put o.dst v') w') : wpList Tryz.prog ops Q (o :: rest) a (w.alloc (.cells #[.string x] 9)) := by
  subst hA
  obtain ⟨i0, hi0, hz⟩ := Option.map_eq_some_iff.1 info_string
  obtain ⟨z1, z2⟩ := Prod.mk.inj hz
  obtain ⟨z2, z3⟩ := Prod.mk.inj z2
  have h1 : SO (w.alloc (.cells #[.string x] 9)) B v l := h.below ((Below.refl _ _).alloc (Nat.le_refl _) _)
  refine wpList_append_own _ hgd sl xo 85 ho B 9 i0 _ 1 16 Tryz.underlying85 hi0 z1 z2 z3 rfl (by decide) v l.length _ hv h1 ⟨w.heap.size, 0, none⟩ 1 1 [.string x] hx rfl (World.news_of_block (cs := #[.string x]) (heap_alloc_new w _)) ?_ (by unfold maxLen; omega) (by omega) (by simp; omega) ?_
  · intro q hq
    simp only [List.mem_cons, List.not_mem_nil, or_false] at hq
    subst hq
    rfl
  intro v' w2 hown2 hg2 _
  refine hK v' w2 ?_ (fun w0 h0 => (h0.alloc hBw _).grown hg2 (by simp; omega) (fun k hk => (h.lt k hk).1))
  unfold SO
  rw [List.length_append, List.map_append]
  exact hown2
def numT (n : Int) : List UInt8 := Vs.textL (n / 1000000) (n / 1000 % 1000) (n % 1000)
theorem text_len9 (a b c : Int) : (Vs.textL a b c).length ≤ 1000 := by
  unfold Vs.textL
  split
  · rename_i h
    obtain ⟨a0, a1, b0, b1, c0, c1⟩ := Vs.of_good h
    have l0 := Lib.itoa_length_le a (by omega) (by omega)
    have l1 := Lib.itoa_length_le b (by omega) (by omega)
    have l2 := Lib.itoa_length_le c (by omega) (by omega)
    simp
    omega
  · simp
abbrev rA : List G := [(1002000, 2000000), (3000000, 3000001)]
abbrev tA1 : ByteArray := ⟨#[62, 61, 49, 46, 50, 46, 48, 32, 60, 50, 46, 48, 46, 48]⟩
abbrev tA2 : ByteArray := ⟨#[61, 51, 46, 48, 46, 48]⟩
abbrev tA : ByteArray := ⟨#[62, 61, 49, 46, 50, 46, 48, 32, 60, 50, 46, 48, 46, 48, 32, 124, 32, 61, 51, 46, 48, 46, 48]⟩
theorem w1_eq : ((⟨#[62, 61]⟩ : ByteArray) ++ ⟨(numT 1002000).toArray⟩) = ⟨#[62, 61, 49, 46, 50, 46, 48]⟩ := by decide +kernel
theorem w2_eq : ((⟨#[60]⟩ : ByteArray) ++ ⟨(numT 2000000).toArray⟩) = ⟨#[60, 50, 46, 48, 46, 48]⟩ := by decide +kernel
theorem w3_eq : ((⟨#[61]⟩ : ByteArray) ++ ⟨(numT 3000000).toArray⟩) = tA2 := by decide +kernel
theorem j_eq : (⟨(Lib.join ([tA1, tA2].map (·.data.toList)) (ByteArray.data ⟨#[32, 124, 32]⟩).toList).toArray⟩ : ByteArray) = tA := by decide +kernel
end Sg
end Go.Proofs.YtflhmoelenmomaaGreatDoor
