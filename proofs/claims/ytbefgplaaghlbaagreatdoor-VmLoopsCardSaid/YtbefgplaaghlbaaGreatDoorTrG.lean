/-
  Walks: path.Good, the reference's Good of paths.
-/
import Derived.Test.YtbefgplaaghlbaaGreatDoorTrF
import Derived.Test.YtbefgplaaghlbaaGreatDoorTrQ
import Derived.Test.YtbefgplaaghlbaaGreatDoorTrE
import Derived.Test.YtbefgplaaghlbaaGreatDoorTrW
import Derived.Test.YtbefgplaaghlbaaGreatDoorNmB
import Derived.Test.YtbefgplaaghlbaaGreatDoorNmC
namespace Go.Proofs.YtbefgplaaghlbaaGreatDoor
open Go.RowKit Go.Lib
namespace Tr

theorem split47 (s : ByteArray) : (Lib.splitB ⟨#[47]⟩ 0 (Lib.countB s ⟨#[47]⟩) s).map (·.data.toList) = Vs.pieces 47 s.data.toList ∧ (Lib.splitB ⟨#[47]⟩ 0 (Lib.countB s ⟨#[47]⟩) s).length = Lib.countB s ⟨#[47]⟩ + 1 :=
  ⟨by rw [Lib.splitB_data]; exact Vs.split_pieces 47 _, Lib.splitB_all _ (by decide) 0 _ _ rfl⟩
/-- texts in a block -/
def TX (w : World) (g : Nat) (xs : List ByteArray) : Prop := g < w.heap.size ∧ ∀ i x, xs[i]? = some x → w.cell? ⟨g, i, none⟩ = some (.string x)
theorem TX.keep {w w' : World} {g : Nat} {xs : List ByteArray} (h : TX w g xs) (hb : Below w.heap.size w w') : TX w' g xs := ⟨Nat.lt_of_lt_of_le h.1 hb.size, fun i x hx => (hb.cell (p := ⟨g, i, none⟩) h.1).trans (h.2 i x hx)⟩
def noName (xs : List ByteArray) : Bool := xs.any fun x => !Nm.nameL x.data.toList
theorem noName_none {xs : List ByteArray} (h : ∀ x ∈ xs, Nm.nameL x.data.toList = true) : noName xs = false := by
  unfold noName
  rw [List.any_eq_false]
  intro x hx
  rw [h x hx]
  decide
theorem noName_at {xs : List ByteArray} {k : Nat} {x : ByteArray} (hx : xs[k]? = some x) (h : Nm.nameL x.data.toList = false) : noName xs = true := by
  unfold noName
  rw [List.any_eq_true]
  exact ⟨x, List.mem_of_getElem? hx, by rw [h]; rfl⟩
theorem noName_step {xs : List ByteArray} {k : Nat} {x : ByteArray} (hx : xs[k]? = some x) (hn : ∀ y ∈ xs.take k, Nm.nameL y.data.toList = true) (h : Nm.nameL x.data.toList = true) : ∀ y ∈ xs.take (k + 1), Nm.nameL y.data.toList = true := by
  intro y hy
  rw [List.take_add_one, hx] at hy
  rcases List.mem_append.1 hy with hy | hy
  · exact hn y hy
  · simp at hy
    subst hy
    exact h
set_option maxHeartbeats 1000000 in
theorem pgood1_any (s : ByteArray) (W : World) : Calls Tryz.prog 79 #[.string s] W fun e W' => e = .returned (.bool (!Nm.nameL s.data.toList)) ∧ Below W.heap.size W W' := by
  have hn := Nm.name_any s W
  go_enter Tryz.func79, Tryz.ntmps79
  go_wp2_with (first
    | (go_at_call 80; with_reducible refine hn.mono ?_; rintro e w1 ⟨he, hb1⟩; subst he))
  go_ret
  exact ⟨rfl, hb1⟩
set_option maxHeartbeats 1000000 in
set_option maxRecDepth 100000 in
theorem pindex_any (xs : List ByteArray) (g cap : Nat) (W : World) (hT : TX W g xs) (hl : xs.length ≤ 10000000) :
    Calls Tryz.prog 105 #[.slice (some ⟨g, 0, none⟩) xs.length cap, .func (.func 79) #[] #[]] W fun e W' => ∃ i : Int, e = .returned (.int .i64 i) ∧ decide (0 ≤ i) = noName xs ∧ Below W.heap.size W W' := by
  have HT := Lib.hid hT
  clear hT
  go_enter Tryz.func105, Tryz.ntmps105
  go_wp2_with fail
  go_loopw [8] (fun i wr => ∃ k : Nat, k ≤ xs.length ∧ i = .int .i64 (k : Int) ∧ (∀ x ∈ xs.take k, Nm.nameL x.data.toList = true) ∧ Below W.heap.size W wr) (fun i _ => xs.length - (RowKit.intOf i).toNat)
  case atStart => exact ⟨0, Nat.zero_le _, rfl, fun x h => by simp at h, Below.refl _ _⟩
  case round =>
    obtain ⟨k, hk, rfl, hn, hb⟩ := hrel
    by_cases hlt : k < xs.length
    · obtain ⟨x, hx⟩ : ∃ x, xs[k]? = some x := ⟨xs[k], List.getElem?_eq_getElem hlt⟩
      have c0 := (hb.cell (p := ⟨g, k, none⟩) HT.out.1).trans (HT.out.2 k x hx)
      have hcl := pgood1_any x wr
      have HNS := Lib.hid (fun h => noName_step hx hn h)
      have HIN := Lib.hid (fun h => noName_at hx h)
      clear hx hn
      cases hc : Nm.nameL x.data.toList with
      | false =>
        have HR := Lib.hid (HIN.out hc)
        rw [hc] at hcl
        clear hc
        go_wp2_with (go_at_call 79; with_reducible refine hcl.mono ?_; clear hcl; rintro e w2 ⟨he, hb2⟩; subst he)
        go_ret
        rw [HR.out]
        exact ⟨_, rfl, decide_eq_true (by omega), hb.trans (hb2.mono hb.size)⟩
      | true =>
        have HR := Lib.hid (HNS.out hc)
        rw [hc] at hcl
        clear hc
        go_wp2_with (go_at_call 79; with_reducible refine hcl.mono ?_; clear hcl; rintro e w2 ⟨he, hb2⟩; subst he)
        refine ⟨⟨k + 1, hlt, by push_cast; rfl, HR.out, hb.trans (hb2.mono hb.size)⟩, ?_⟩
        simp only [RowKit.intOf]
        omega
    · obtain rfl : k = xs.length := by omega
      rw [List.take_length] at hn
      have HR := Lib.hid (noName_none hn)
      clear hn
      go_wp2_with fail
      go_ret
      rw [HR.out]
      exact ⟨_, rfl, by decide, hb⟩
set_option maxHeartbeats 1000000 in
theorem pcontains_any (xs : List ByteArray) (g cap : Nat) (W : World) (hT : TX W g xs) (hl : xs.length ≤ 10000000) :
    Calls Tryz.prog 78 #[.slice (some ⟨g, 0, none⟩) xs.length cap, .func (.func 79) #[] #[]] W fun e W' => e = .returned (.bool (noName xs)) ∧ Below W.heap.size W W' := by
  have hi := pindex_any xs g cap W hT hl
  clear hT
  go_enter Tryz.func78, Tryz.ntmps78
  go_wp2_with (go_at_call 105; refine hi.mono ?_; clear hi; rintro e w2 ⟨i, rfl, hh, hb2⟩; have HH := Lib.hid hh; clear hh)
  go_ret
  rw [← HH.out]
  exact ⟨rfl, hb2⟩
set_option maxHeartbeats 2000000 in
set_option maxRecDepth 100000 in
theorem goodp_any (s : ByteArray) (hs : s.size ≤ 1048576) (w : World) (hE : Vm.Env w) : Calls Tryz.prog 58 #[.string s] w fun e w' => e = .returned (.bool (pathL s.data.toList)) ∧ Below w.heap.size w w' := by
  have hmf : ∀ (fn : Fn) (first cap : Array Value) (w : World), (Instr.makeFunc fn first cap).run Tryz.prog w = .ok (.func fn first cap) w := fun _ _ _ _ => rfl
  obtain ⟨hp, hl⟩ := split47 s
  obtain ⟨m, hm⟩ := hE.max
  have hc := Lib.countB_le ⟨#[47]⟩ (by decide) _ s (Nat.le_refl _)
  have hc1 : Lib.countB s ⟨#[47]⟩ ≤ 1048576 := by omega
  have hsz := Lib.size_eq s
  have HSZ := Lib.hid hsz
  clear hc hsz
  generalize hxs : Lib.splitB ⟨#[47]⟩ 0 (Lib.countB s ⟨#[47]⟩) s = xs at *
  generalize hn : Lib.countB s ⟨#[47]⟩ = n at *
  have HX := Lib.hid hxs
  have HN := Lib.hid hn
  have HP := Lib.hid (show pathL s.data.toList = (decide (s.size ≤ 128) && decide (xs.length ≤ 8) && !noName xs) by
    unfold pathL
    rw [← hp, List.length_map, HSZ.out, List.all_map]
    congr 1
    unfold noName
    rw [List.not_any_eq_all_not]
    congr 1
    funext x
    simp)
  have HL := Lib.hid hl
  have hT : TX (w.alloc (.cells (List.map Value.string xs).toArray 9)) w.heap.size xs := ⟨by simp, fun i x hx => by
    have h := heap_alloc_new w (.cells (List.map Value.string xs).toArray 9)
    simp only [World.cell?, h]
    simp [hx]⟩
  have hA := (Below.refl w.heap.size w).alloc (Nat.le_refl _) (.cells (List.map Value.string xs).toArray 9)
  have hct := pcontains_any xs w.heap.size (n + 1) _ hT (by omega)
  rw [hl] at hct
  have HA := Lib.hid hA
  have HCT := Lib.hid hct
  clear hxs hn hl hp hT hA hct
  by_cases h1 : s.size ≤ 128
  · by_cases h2 : xs.length ≤ 8
    · have HR := Lib.hid (show pathL s.data.toList = !noName xs by rw [HP.out, decide_eq_true h1, decide_eq_true h2]; rfl)
      have h2' : ¬ 8 < n + 1 := by have := HL.out; omega
      have h3' : n + 1 ≤ 8 := by have := HL.out; omega
      have hct := HCT.out
      generalize noName xs = b at *
      go_enter Tryz.func58, Tryz.ntmps58
      go_wp2_with (first
        | (go_at_call 77; refine (Tryz.strings_Split s ⟨#[47]⟩ m _ (by omega) hm (by decide)).mono ?_; rintro e w1 ⟨rfl, rfl⟩; rw [HN.out, HX.out])
        | (go_at_call 78; with_reducible refine hct.mono ?_; rintro e w2 ⟨he, hb2⟩; subst he))
      go_ret
      rw [HR.out]
      exact ⟨rfl, HA.out.trans (hb2.mono HA.out.size)⟩
    · have HR := Lib.hid (show pathL s.data.toList = false by rw [HP.out, decide_eq_true h1, decide_eq_false h2]; rfl)
      have h2' : 8 < n + 1 := by have := HL.out; omega
      go_enter Tryz.func58, Tryz.ntmps58
      go_wp2_with (first
        | (go_at_call 77; refine (Tryz.strings_Split s ⟨#[47]⟩ m _ (by omega) hm (by decide)).mono ?_; rintro e w1 ⟨rfl, rfl⟩; rw [HN.out, HX.out]))
      go_ret
      rw [HR.out]
      exact ⟨rfl, HA.out⟩
  · have HR := Lib.hid (show pathL s.data.toList = false by rw [HP.out, decide_eq_false h1]; rfl)
    go_enter Tryz.func58, Tryz.ntmps58
    go_wp2_with (first
      | (go_at_call 77; refine (Tryz.strings_Split s ⟨#[47]⟩ m _ (by omega) hm (by decide)).mono ?_; rintro e w1 ⟨rfl, rfl⟩; rw [HN.out, HX.out]))
    go_ret
    rw [HR.out]
    exact ⟨rfl, HA.out⟩
end Tr
end Go.Proofs.YtbefgplaaghlbaaGreatDoor
