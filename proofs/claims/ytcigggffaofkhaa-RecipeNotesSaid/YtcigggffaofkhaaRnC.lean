/-
  The law RecipeNotes.
-/
import Derived.Test.YtcigggffaofkhaaRnB
import Derived.Test.YtcigggffaofkhaaRrW
import Derived.ChangeSlices
namespace Go.Proofs.Ytcigggffaofkhaa
open Go.RowKit Go.WideShapes Go.ChangeShapes
namespace Rc

theorem cell_spot {W : World} {a : Addr} {v : Value} (h : W.cell? a = some v) : a = ⟨a.block, a.off, none⟩ := by
  obtain ⟨b, o, s⟩ := a
  cases s with
  | none => rfl
  | some s =>
    simp only [World.cell?] at h
    split at h <;> simp at h
theorem spot_add (b o n : Nat) : (⟨b, o, none⟩ : Addr).add n = ⟨b, o + n, none⟩ := by
  unfold Addr.add
  split
  · rename_i h; subst h; rfl
  · rfl

set_option maxRecDepth 100000 in
/-- a slice of ints that came in -/
theorem open_seps {H : Type} {enc : TypeId × Value → H} {W : World} {r : Reach} {b0 base : Nat} {sp : Nat → Bool} {held : Bool} {v : Value} {d : DataW H} {q : List MemPlace} (hv : Value.okWide Try.prog W r b0 34 v)
    (h : DataW.Trod enc Try.prog W base sp held 34 v d q) : ∃ sl n c, v = .slice sl n c ∧ ∀ i, i < n → ∃ b o x, sl = some ⟨b, o, none⟩ ∧ b < W.heap.size ∧ W.cell? ⟨b, o + i, none⟩ = some (.int .i64 x) := by
  have hu := Try.underlying34
  have hs := Try.underlying3
  obtain ⟨sl, n, c, rfl⟩ := okWide_slice hu hv
  obtain ⟨fuel, hf⟩ := h
  refine ⟨sl, n, c, rfl, fun i hi => ?_⟩
  rcases open_ints hu hs (by kernel_rfl) hf with ⟨h0, -⟩ | ⟨a, len, cap, zs, hcs, _, hl, hm, hz, _, hc, _⟩
  · simp [Value.cells] at h0
    omega
  · simp [Value.cells] at hcs
    obtain ⟨rfl, rfl, rfl⟩ := hcs
    have hzi : i < zs.length := by rw [hz]; split <;> omega
    have hci := hc i hzi
    have hc0 := hc 0 (by omega)
    have hc0' : W.cell? a = some (.int .i64 (zs.getD 0 0)) := hc0
    have ha := cell_spot hc0'
    rw [ha, spot_add] at hci
    exact ⟨a.block, a.off, zs.getD i 0, by rw [← ha], World.block_lt_of_cell? W _ hc0', hci⟩
theorem notes_end {s : ByteArray} {out : ByteArray} {ts : List Tk} {p : Nat} {te : Tk} {sep0 : List UInt8} {xs : List (List UInt8)} (hs : s.size ≤ 4096) (ho : out.size ≤ 4096) (hc : Chain s.data.toList 0 ts p) (he : tokAt s.data.toList p = .ok te) (hk : te.kind = 0) (hl : ts.length = xs.length)
    (hx : ∀ x ∈ xs, Sep x) (h0 : Sep sep0) (hout : out.data.toList = sep0 ++ spread s.data.toList ts xs) : (outT (parseP s.data.toList)).1 = (outT (parseP out.data.toList)).1 ∧ (outT (parseP s.data.toList)).2.2 = (outT (parseP out.data.toList)).2.2 := by
  have e1 := Lib.size_eq s
  have e2 := Lib.size_eq out
  obtain ⟨t, t', h1, h2, h3⟩ := spread_rr hc he hk xs hl hx [] sep0 h0 (out := out.data.toList) (by simpa using hout) (Nat.zero_le _)
  rcases parse_rr (by omega) (by omega) h1 h2 h3 with ⟨h4, -⟩ | ⟨p1, p2, e, h4, h5⟩
  · rw [h4]; exact ⟨rfl, rfl⟩
  · rw [h4, h5]; exact ⟨rfl, rfl⟩
theorem spread_le (s : List UInt8) : ∀ {a e : Nat} {ts : List Tk} (_ : Chain s a ts e) (xs : List (List UInt8)) (_ : ∀ x ∈ xs, x.length ≤ 104), (spread s ts xs).length ≤ (e - a) + 104 * ts.length
  | _, _, _, .nil _, xs, _ => by cases xs <;> simp [spread]
  | a, e, _, .cons _ t ts _ h hk r, xs, hx => by
    have h1 := tok_prog h
    have h2 := r.len
    cases xs with
    | nil => simp [spread]
    | cons x xs =>
      have ih := spread_le s r xs fun y hy => hx y (by simp [hy])
      have hxl := hx x (by simp)
      have hb : (bodyT s t).length ≤ t.fin - a := by
        have hp := tokP_pl (show tokP s _ = .ok t from h)
        unfold bodyT
        simp only [List.length_take]
        omega
      simp only [spread, List.length_append, List.length_cons]
      have h3 := h1.1
      have h4 : (e - t.fin) + (t.fin - a) = e - a := by omega
      omega
abbrev oddL (n : List UInt8) : List (List UInt8) := [[32], [10], [9, 35, 32, 105, 110, 10], n]
theorem odd_sep {n : List UInt8} (h : Sep n) : ∀ x ∈ oddL n, Sep x := by
  intro x hx
  simp only [List.mem_cons, List.not_mem_nil, or_false] at hx
  rcases hx with rfl | rfl | rfl | rfl
  · exact sep_sp
  · exact sep_nl
  · exact sep_in
  · exact h
end Rc
end Go.Proofs.Ytcigggffaofkhaa
