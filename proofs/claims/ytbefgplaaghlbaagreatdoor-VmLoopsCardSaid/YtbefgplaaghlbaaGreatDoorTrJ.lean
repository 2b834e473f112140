/-
  Walks: does any file of a tree stand under a path? (IndexFunc, ContainsFunc at files)
-/
import Derived.Test.YtbefgplaaghlbaaGreatDoorTrI
import Derived.Test.YtbefgplaaghlbaaGreatDoorTrF
import Derived.Test.YtbefgplaaghlbaaGreatDoorTrE
namespace Go.Proofs.YtbefgplaaghlbaaGreatDoor
open Go.RowKit Go.Lib
namespace Tr

def underF (f : F) (l : List F) : Bool := l.any fun g => aheadL (K f) (K g)
theorem under_none {f : F} {l : List F} (h : ∀ x ∈ l, aheadL (K f) (K x) = false) : underF f l = false := by
  unfold underF
  rw [List.any_eq_false]
  intro x hx
  rw [h x hx]
  decide
theorem under_at {f : F} {l : List F} {k : Nat} {x : F} (hx : l[k]? = some x) (h : aheadL (K f) (K x) = true) : underF f l = true := by
  unfold underF
  rw [List.any_eq_true]
  exact ⟨x, List.mem_of_getElem? hx, h⟩
theorem under_step {f : F} {l : List F} {k : Nat} {x : F} (hx : l[k]? = some x) (hn : ∀ y ∈ l.take k, aheadL (K f) (K y) = false) (h : aheadL (K f) (K x) = false) : ∀ y ∈ l.take (k + 1), aheadL (K f) (K y) = false := by
  intro y hy
  rw [take_snoc hx] at hy
  rcases List.mem_append.1 hy with hy | hy
  · exact hn y hy
  · simp at hy
    subst hy
    exact h
set_option maxHeartbeats 1000000 in
set_option maxRecDepth 100000 in
theorem findex_any (f : F) (hs : f.1.size ≤ 1000000) (bx : Nat) (l : List F) (g cap : Nat) (W : World) (hF : FR W g l) (hl : l.length ≤ 10000000) (hbx : bx < W.heap.size) (hv : W.cell? ⟨bx, 0, none⟩ = some (.string f.1)) :
    Calls Tryz.prog 64 #[.slice (some ⟨g, 0, none⟩) l.length cap, .func (.func 62) #[] #[.pointer (some ⟨bx, 0, none⟩)]] W fun e W' => ∃ i : Int, e = .returned (.int .i64 i) ∧ decide (0 ≤ i) = underF f l ∧ Below W.heap.size W W' := by
  have HF := Lib.hid hF
  have HV := Lib.hid (And.intro hbx hv)
  clear hF hbx hv
  go_enter Tryz.func64, Tryz.ntmps64
  go_wp2_with fail
  go_loopw [8] (fun i wr => ∃ k : Nat, k ≤ l.length ∧ i = .int .i64 (k : Int) ∧ (∀ x ∈ l.take k, aheadL (K f) (K x) = false) ∧ Below W.heap.size W wr) (fun i _ => l.length - (RowKit.intOf i).toNat)
  case atStart => exact ⟨0, Nat.zero_le _, rfl, fun x h => by simp at h, Below.refl _ _⟩
  case round =>
    obtain ⟨k, hk, rfl, hn, hb⟩ := hrel
    by_cases hlt : k < l.length
    · obtain ⟨x, hx⟩ : ∃ x, l[k]? = some x := ⟨l[k], List.getElem?_eq_getElem hlt⟩
      obtain ⟨c0, c1⟩ := (HF.out.keep hb).cells hx
      have hcl := make1_any x f hs bx wr (Nat.lt_of_lt_of_le HV.out.1 hb.size) ((hb.cell (p := ⟨bx, 0, none⟩) HV.out.1).trans HV.out.2)
      have HNS := Lib.hid (fun h => under_step (f := f) hx hn h)
      have HIN := Lib.hid (fun h => under_at (f := f) hx h)
      clear hx hn
      cases hc : aheadL (K f) (K x) with
      | true =>
        have HR := Lib.hid (HIN.out hc)
        rw [hc] at hcl
        clear hc
        go_wp2_with (go_at_call 62; with_reducible refine hcl.mono ?_; clear hcl; rintro e w2 ⟨he, hb2⟩; subst he)
        go_ret
        rw [HR.out]
        exact ⟨_, rfl, decide_eq_true (by omega), hb.trans (hb2.mono hb.size)⟩
      | false =>
        have HR := Lib.hid (HNS.out hc)
        rw [hc] at hcl
        clear hc
        go_wp2_with (go_at_call 62; with_reducible refine hcl.mono ?_; clear hcl; rintro e w2 ⟨he, hb2⟩; subst he)
        refine ⟨⟨k + 1, hlt, by push_cast; rfl, HR.out, hb.trans (hb2.mono hb.size)⟩, ?_⟩
        simp only [RowKit.intOf]
        omega
    · obtain rfl : k = l.length := by omega
      rw [List.take_length] at hn
      have HR := Lib.hid (under_none hn)
      clear hn
      go_wp2_with fail
      go_ret
      rw [HR.out]
      exact ⟨_, rfl, by decide, hb⟩
set_option maxHeartbeats 1000000 in
theorem fcontains_any (f : F) (hs : f.1.size ≤ 1000000) (bx : Nat) (l : List F) (g cap : Nat) (W : World) (hF : FR W g l) (hl : l.length ≤ 10000000) (hbx : bx < W.heap.size) (hv : W.cell? ⟨bx, 0, none⟩ = some (.string f.1)) :
    Calls Tryz.prog 61 #[.slice (some ⟨g, 0, none⟩) l.length cap, .func (.func 62) #[] #[.pointer (some ⟨bx, 0, none⟩)]] W fun e W' => e = .returned (.bool (underF f l)) ∧ Below W.heap.size W W' := by
  have hi := findex_any f hs bx l g cap W hF hl hbx hv
  clear hF hbx hv
  go_enter Tryz.func61, Tryz.ntmps61
  go_wp2_with (go_at_call 64; refine hi.mono ?_; clear hi; rintro e w2 ⟨i, rfl, hh, hb2⟩; have HH := Lib.hid hh; clear hh)
  go_ret
  rw [← HH.out]
  exact ⟨rfl, hb2⟩
end Tr
end Go.Proofs.YtbefgplaaghlbaaGreatDoor
