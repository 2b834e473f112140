/-
  Walk: the laws' guard.
-/
import Derived.Test.YtflhmoelenmomaaGreatDoorMSgTx
namespace Go.Proofs.YtflhmoelenmomaaGreatDoor
open Go.RowKit Go.Shelf Go.Lib
namespace Sg

abbrev pA : ByteArray := ⟨#[94, 49, 46, 50, 46, 48, 32, 124, 32, 61, 51, 46, 48, 46, 48]⟩
abbrev pB : ByteArray := ⟨#[62, 61, 50, 46, 48, 46, 48, 32, 60, 49, 46, 48, 46, 48]⟩
theorem setA : setF pA.data.toList = .ok rA := by kernel_rfl
theorem setB : setF pB.data.toList = .ok [(2000000, 1000000)] := by kernel_rfl
theorem nmA : Nm rA := (good_nm (show goodB rA = true by decide)).1
/-- an answer that is told: the range is the normal one -/
theorem pq_ok {B : Nat} {l r : List G} {e : Ending} {W' : World} (h : PQ B (.ok l) e W') (hr : Nm r) (hm : ∀ n, inR l n ↔ inR r n) (h16 : ¬ 16 < r.length) : ∃ v', e = .returned (.tuple #[v', .int .i64 0]) ∧ GO W' B v' r ∧ ∀ g ∈ r, Bd g := by
  obtain ⟨r', h1⟩ := h
  have e1 : r' = r := nm_unique _ _ h1.nm hr fun n => (h1.mem n).trans (hm n)
  subst e1
  rcases h1.ans with ⟨h2, _⟩ | ⟨_, v', h3, h4⟩
  · exact absurd h2 h16
  · exact ⟨v', h3, h4, h1.bd⟩
set_option maxHeartbeats 1000000 in
theorem parseA (W : World) (hE : Vs.Env W) : Calls Tryz.prog 30 #[.string pA] W fun e W' => ∃ v', e = .returned (.tuple #[v', .int .i64 0]) ∧ GS W' v' rA ∧ Below W.heap.size W W' := (parse_any pA W (by decide) hE).mono fun e W' ⟨h, hB⟩ => by
  rw [setA] at h
  obtain ⟨v', h1, h2, h3⟩ := pq_ok h nmA (fun n => Iff.rfl) (by decide)
  exact ⟨v', h1, h2.gs fun g hg => (h3 g hg).n64, hB⟩
theorem parseB (W : World) (hE : Vs.Env W) : Calls Tryz.prog 30 #[.string pB] W fun e W' => ∃ v', e = .returned (.tuple #[v', .int .i64 0]) ∧ GS W' v' [] ∧ Below W.heap.size W W' := (parse_any pB W (by decide) hE).mono fun e W' ⟨h, hB⟩ => by
  rw [setB] at h
  obtain ⟨v', h1, h2, h3⟩ := pq_ok h Nm.nil (fun n => ⟨fun h => by rw [in_one] at h; omega, fun h => absurd h (in_nil n)⟩) (by decide)
  exact ⟨v', h1, h2.gs fun g hg => (h3 g hg).n64, hB⟩
end Sg
end Go.Proofs.YtflhmoelenmomaaGreatDoor
