/-
  A list of instructions that came in, with the form's own bound on its length.
-/
import Derived.Test.YtjfchdgdgbdeeaaDoorCodeOpen2
import Derived.SizedLaws
namespace Go.Proofs.YtjfchdgdgbdeeaaDoor
open Go.RowKit Go.WideShapes Go.ChangeShapes Go.Deep
namespace Cd
theorem bytes_ins : Tryd.prog.bytesOf 31 = 32 := by kernel_rfl
set_option maxRecDepth 100000 in
theorem open_ins3 {H : Type} {enc : TypeId × Value → H} {W : World} {r : Reach} {b0 base : Nat} {sp : Nat → Bool} {held : Bool} {v : Value} {d : DataW H} {q : List MemPlace} (hv : Value.okWide Tryd.prog W r b0 22 v)
    (h : DataW.Trod enc Tryd.prog W base sp held 22 v d q) {ts : List TypeId} {ds : List (DataW H)} (hw : (DataW.weightsEach Tryd.prog ts ds).all (· ≤ reachBytes) = true) (ht : ts[0]? = some 22) (hd : ds[0]? = some d) :
    ∃ p, PS W v p ∧ (∃ sl cap, v = .slice sl p.length cap ∧ (sl = none → cap = 0)) ∧ p.length * 32 ≤ 140737488355328 := by
  obtain ⟨p, hP, hq⟩ := open_ins2 hv h
  obtain ⟨sl, cap, rfl, -⟩ := hP.form
  refine ⟨p, hP, ⟨sl, cap, rfl, (hq sl cap rfl).2⟩, ?_⟩
  obtain ⟨fuel, hf⟩ := h
  rcases open_slice Tryd.underlying22 hf with ⟨h0, -⟩ | ⟨a, len, c, m, n, D, Pl, hcs, hb, hl, hm, hmm, hx, hi⟩
  · simp [Value.cells] at h0
    obtain ⟨-, h1, -⟩ := h0
    rw [h1]
    decide
  · simp [Value.cells] at hcs
    obtain ⟨-, h1, -⟩ := hcs
    have hdd := congrArg Prod.fst hx
    simp only at hdd
    rw [hdd] at hd
    have hs := sized_slice hw ht hd Tryd.underlying22
    rw [bytes_ins] at hs
    have hr := reachBytes_lt
    simp only [List.length_map, List.length_range] at hs
    have hpow : (2 : Nat) ^ 47 = 140737488355328 := by decide
    have h2 : len * 32 ≤ (len + (m - len)) * 32 := Nat.mul_le_mul_right _ (Nat.le_add_right _ _)
    omega
end Cd
end Go.Proofs.YtjfchdgdgbdeeaaDoor
