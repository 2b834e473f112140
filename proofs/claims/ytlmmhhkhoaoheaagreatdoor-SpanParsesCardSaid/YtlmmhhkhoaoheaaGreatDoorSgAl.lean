/-
  Walk: the laws' guard.
-/
import Derived.Test.YtlmmhhkhoaoheaaGreatDoorSgTx
namespace Go.Proofs.YtlmmhhkhoaoheaaGreatDoor
open Go.RowKit Go.Shelf Go.Lib
namespace Sg

abbrev pA : ByteArray := ⟨#[94, 49, 46, 50, 46, 48, 32, 124, 32, 61, 51, 46, 48, 46, 48]⟩
abbrev pB : ByteArray := ⟨#[62, 61, 50, 46, 48, 46, 48, 32, 60, 49, 46, 48, 46, 48]⟩
theorem setA : setF pA.data.toList = .ok rA := by kernel_rfl
theorem setB : setF pB.data.toList = .ok [(2000000, 1000000)] := by kernel_rfl
theorem nmA : Nm rA := (good_nm (show goodB rA = true by decide)).1
/-- an answer that is told: the range is the normal one -/
theorem pq_ok {B : Nat} {l r : List G} {e : Ending} {W' : World} (h : PQ B (.ok l) e W') (hr : Nm r) (hm : ∀ n, inR l n ↔ inR r n) (h16 : ¬ 16 < r.length) : ∃ v', e = .returned (.tuple #[v', .int .i64 0]) ∧ GO W' B v' r ∧ ∀ g ∈ r, Bd g := by
  obtain ⟨r', h1⟩ := h
  have e1 : r' = r := nm_unique _ _ h1.nm hr fun n => (h1.mem n).trans (hm n)
  subst e1
  rcases h1.ans with ⟨h2, _⟩ | ⟨_, v', h3, h4⟩
  · exact absurd h2 h16
  · exact ⟨v', h3, h4, h1.bd⟩
set_option maxHeartbeats 1000000 in
theorem parseA (W : World) (hE : Vs.Env W) : Calls Tryz.prog 9 #[.string pA] W fun e W' => ∃ v', e = .returned (.tuple #[v', .int .i64 0]) ∧ GS W' v' rA ∧ Below W.heap.size W W' := (parse_any pA W (by decide) hE).mono fun e W' ⟨h, hB⟩ => by
  rw [setA] at h
  obtain ⟨v', h1, h2, h3⟩ := pq_ok h nmA (fun n => Iff.rfl) (by decide)
  exact ⟨v', h1, h2.gs fun g hg => (h3 g hg).n64, hB⟩
theorem parseB (W : World) (hE : Vs.Env W) : Calls Tryz.prog 9 #[.string pB] W fun e W' => ∃ v', e = .returned (.tuple #[v', .int .i64 0]) ∧ GS W' v' [] ∧ Below W.heap.size W W' := (parse_any pB W (by decide) hE).mono fun e W' ⟨h, hB⟩ => by
  rw [setB] at h
  obtain ⟨v', h1, h2, h3⟩ := pq_ok h Nm.nil (fun n => ⟨fun h => by rw [in_one] at h; omega, fun h => absurd h (in_nil n)⟩) (by decide)
  exact ⟨v', h1, h2.gs fun g hg => (h3 g hg).n64, hB⟩
set_option maxHeartbeats 1000000 in
theorem alive_any (W : World) (hE : Vs.Env W) : Calls Tryz.prog 8 #[] W fun e W' => e = .returned (.bool true) ∧ Below W.heap.size W W' := by
  have hp := parseA W hE
  go_enter Tryz.func8, Tryz.ntmps8
  go_wp2_with (first
    | (go_at_call 9; refine hp.mono ?_; rintro e W1 ⟨v1, rfl, hG1, hB1⟩; clear hp; have hq := parseB W1 (hE.below (Nat.le_refl _) hB1))
    | (go_at_call 9; refine hq.mono ?_; rintro e W2 ⟨v2, rfl, hG2, hB2⟩; clear hq; have hB3 := hB1.trans (hB2.mono hB1.size); have h1 := text_two v1 W2 (hG1.below hB2) (hE.below (Nat.le_refl _) hB3); obtain ⟨sl, cap, hv2, -, -⟩ := id hG2.form; have hv2 : v2 = .slice sl 0 cap := hv2; subst hv2)
    | (go_at_call 23; refine h1.mono ?_; rintro e W4 ⟨rfl, hB4⟩; clear h1; have h2 := text_none _ W4 (hG2.below hB4))
    | (go_at_call 23; refine h2.mono ?_; rintro e W5 ⟨rfl, hB5⟩))
  go_ret
  exact ⟨rfl, (hB3.trans (hB4.mono hB3.size)).trans (hB5.mono (hB3.trans (hB4.mono hB3.size)).size)⟩
end Sg
end Go.Proofs.YtlmmhhkhoaoheaaGreatDoor
