/-
  Walks: tree.Make.
-/
import Derived.Test.YtbefgplaaghlbaaGreatDoorTrL
import Derived.Test.YtbefgplaaghlbaaGreatDoorTrG
import Derived.RegionTactic
import Derived.Laws.ResultCell
namespace Go.Proofs.YtbefgplaaghlbaaGreatDoor
open Go.RowKit Go.Shelf Go.Lib Go.Sort
namespace Tr

/-- sorted files whose neighbours are unlike are all unlike -/
theorem unl_of : ∀ {s : List F}, Srt s → (∀ i x y, s[i]? = some x → s[i + 1]? = some y → K y ≠ K x) → Unl s
  | [], _, _ => by simp [Unl]
  | [x], _, _ => by simp [Unl]
  | x :: y :: l, h, hn => by
    obtain ⟨h1, h2⟩ := List.pairwise_cons.1 h
    have ih := unl_of h2 (fun i a b ha hb => hn (i + 1) a b (by simpa using ha) (by simpa using hb))
    refine List.nodup_cons.2 ⟨fun hm => ?_, ih⟩
    obtain ⟨z, hz, e⟩ := List.mem_map.1 hm
    have hxy := hn 0 x y rfl rfl
    have a1 := h1 y (List.mem_cons_self ..)
    rcases List.mem_cons.1 hz with rfl | hz
    · exact hxy e
    · have a2 := (List.pairwise_cons.1 h2).1 z hz
      have a2' : leB (K y) (K x) := by
        have : leB (K y) (K z) := a2
        rwa [e] at this
      exact hxy (leB_anti a2' a1)
theorem not_unl {s : List F} {i : Nat} {x y : F} (hx : s[i]? = some x) (hy : s[i + 1]? = some y) (e : K y = K x) : ¬ Unl s := by
  intro h
  obtain ⟨h1, rfl⟩ := List.getElem?_eq_some_iff.1 hx
  obtain ⟨h2, rfl⟩ := List.getElem?_eq_some_iff.1 hy
  have := List.pairwise_iff_getElem.1 h i (i + 1) (by simpa using h1) (by simpa using h2) (by omega)
  rw [List.getElem_map, List.getElem_map] at this
  exact this e.symm
theorem badF_app : ∀ {a b : List F}, badF a = none → badF (a ++ b) = badF b
  | [], _, _ => rfl
  | f :: a, b, h => by
    rw [badF] at h
    rw [List.cons_append, badF]
    split at h
    · cases h
    · rename_i h1
      rw [if_neg h1]
      split at h
      · cases h
      · rename_i h2
        rw [if_neg h2]
        exact badF_app h
theorem badF_at {l : List F} {k : Nat} {f : F} (h : badF (l.take k) = none) (hf : l[k]? = some f) : badF l = if pathL (K f) = false then some 10 else if 2048 < f.2.size then some 3 else badF (l.drop (k + 1)) := by
  obtain ⟨h6, h7⟩ := List.getElem?_eq_some_iff.1 hf
  have e : l = l.take k ++ f :: l.drop (k + 1) := by
    rw [← h7, ← List.drop_eq_getElem_cons h6, List.take_append_drop]
  have h1 := badF_app (b := f :: l.drop (k + 1)) h
  rw [← e] at h1
  rw [h1, badF]
theorem badF_next {l : List F} {k : Nat} {f : F} (h : badF (l.take k) = none) (hf : l[k]? = some f) (h1 : pathL (K f) = true) (h2 : ¬ 2048 < f.2.size) : badF (l.take (k + 1)) = none := by
  rw [List.take_add_one, hf, badF_app h]
  show badF [f] = none
  rw [badF, if_neg (by rw [h1]; decide), if_neg h2]
  rfl
/-- a slice of files that can be read -/
def FS (w : World) (v : Value) (l : List F) : Prop := (v = .slice none 0 0 ∧ l = []) ∨ ∃ g off cap, v = .slice (some ⟨g, off, none⟩) l.length cap ∧ FC w g off l
/-- what tree.Make answers -/
def MakeV (w w' : World) (e : Ending) : Except Int (List F) → Prop
  | .error c => e = .returned (.tuple #[.agg #[.slice none 0 0], .int .i64 c])
  | .ok s => ∃ v, e = .returned (.tuple #[.agg #[v], .int .i64 0]) ∧ ((v = .slice none 0 0 ∧ s = []) ∨ ∃ g cap, v = .slice (some ⟨g, 0, none⟩) s.length cap ∧ w.heap.size ≤ g ∧ FR w' g s)
def MakeOut (w : World) (l : List F) (e : Ending) (w' : World) : Prop := Below w.heap.size w w' ∧ MakeV w w' e (makeP l)
/-- the result's cell: its block, as it was made -/
def RC (w X : World) : Prop := Below (w.heap.size + 1) (w.alloc (.cells #[.slice none 0 0] 25)) X
theorem RC.start (w : World) : RC w (w.alloc (.cells #[.slice none 0 0] 25)) := Below.refl _ _
theorem RC.blk {w X : World} (h : RC w X) : X.heap[w.heap.size]? = some (.cells #[.slice none 0 0] 25 (0, 0)) := (h.block _ (by omega)).trans (heap_alloc_new w _)
theorem RC.old {w X : World} (h : RC w X) : Below w.heap.size w X := ((Below.refl w.heap.size w).alloc (Nat.le_refl _) _).trans (h.mono (by omega))
theorem RC.lt {w X : World} (h : RC w X) : w.heap.size < X.heap.size := by
  have := h.size
  simp at this
  omega
theorem RC.next {w X Y : World} (h : RC w X) (hb : Below X.heap.size X Y) : RC w Y := Below.trans h (hb.mono h.lt)
theorem RC.drew {w X : World} (h : RC w X) : RC w X.drew := Below.drew h
theorem RC.drewN {w X : World} (h : RC w X) (n : Nat) : RC w (X.drewN n) := Sx.below_drewN h n
theorem RC.c {w X : World} (h : RC w X) : X.cell? ⟨w.heap.size, 0, none⟩ = some (.slice none 0 0) ∧ X.frozen? ⟨w.heap.size, 0, none⟩ = false := ⟨by simp [World.cell?, h.blk], by simp [World.frozen?, h.blk]⟩
theorem RC.fin {w X : World} (h : RC w X) (v : Value) : Below w.heap.size w (X.setCell ⟨w.heap.size, 0, none⟩ v) := h.old.setCell (p := ⟨w.heap.size, 0, none⟩) (Nat.le_refl _) _
theorem RC.res {w X : World} (h : RC w X) (v : Value) : (X.setCell ⟨w.heap.size, 0, none⟩ v).cell? ⟨w.heap.size, 0, none⟩ = some v := by
  have := heap_setCell_same X w.heap.size 0 _ _ v h.blk
  simp [World.cell?, this]
/-- a return -/
theorem RC.err {w X : World} (h : RC w X) {l : List F} {c : Int} (hm : makeP l = .error c) {tm : Array Value} (h2 : tm[2]? = some (.pointer (some ⟨w.heap.size, 0, none⟩))) (h3 : tm[3]? = some (.int .i64 c)) (hX : X.cell? ⟨w.heap.size, 0, none⟩ = some (.slice none 0 0)) :
    bodyPost Tryz.prog Tryz.f34 (MakeOut w l) Exit.ret ⟨tm, []⟩ X := by
  refine bodyPost_ret (v := .tuple #[.agg #[.slice none 0 0], .int .i64 c]) (by simp [results, Tryz.results34, go_sem, h2, h3, hX]) rfl ⟨h.old, ?_⟩
  rw [hm]
  rfl
theorem RC.errS {w X : World} (h : RC w X) {l : List F} {c : Int} (hm : makeP l = .error c) {tm : Array Value} (h2 : tm[2]? = some (.pointer (some ⟨w.heap.size, 0, none⟩))) (h3 : tm[3]? = some (.int .i64 c)) :
    bodyPost Tryz.prog Tryz.f34 (MakeOut w l) Exit.ret ⟨tm, []⟩ (X.setCell ⟨w.heap.size, 0, none⟩ (.slice none 0 0)) := by
  refine bodyPost_ret (v := .tuple #[.agg #[.slice none 0 0], .int .i64 c]) (by simp [results, Tryz.results34, go_sem, h2, h3, h.res]) rfl ⟨h.fin _, ?_⟩
  rw [hm]
  rfl
theorem RC.ok {w X : World} (h : RC w X) {l s : List F} (hm : makeP l = .ok s) {v : Value} {tm : Array Value} (h2 : tm[2]? = some (.pointer (some ⟨w.heap.size, 0, none⟩))) (h3 : tm[3]? = some (.int .i64 0))
    (hv : (v = .slice none 0 0 ∧ s = []) ∨ ∃ g cap, v = .slice (some ⟨g, 0, none⟩) s.length cap ∧ w.heap.size < g ∧ FR X g s) :
    bodyPost Tryz.prog Tryz.f34 (MakeOut w l) Exit.ret ⟨tm, []⟩ (X.setCell ⟨w.heap.size, 0, none⟩ v) := by
  refine bodyPost_ret (v := .tuple #[.agg #[v], .int .i64 0]) (by simp [results, Tryz.results34, go_sem, h2, h3, h.res v]) rfl ⟨h.fin v, ?_⟩
  rw [hm]
  refine ⟨v, rfl, ?_⟩
  rcases hv with hv | ⟨g, cap, hv, hg, hF⟩
  · exact .inl hv
  · refine .inr ⟨g, cap, hv, Nat.le_of_lt hg, hF.same (Below.heap_setCell _ _ _ _ ?_)⟩
    show g ≠ w.heap.size
    omega
set_option maxHeartbeats 4000000 in
set_option maxRecDepth 100000 in
theorem make_nil (w : World) : Calls Tryz.prog 34 #[.slice none 0 0] w (MakeOut w []) := by
  have HC := Lib.hid (RC.start w)
  obtain ⟨c0, f0⟩ := HC.out.c
  have HR := Lib.hid (good_make good_nil)
  go_enter Tryz.func34, Tryz.ntmps34
  go_wp2_with fail
  go_loopw [16] (fun i wr => i = .int .i64 0 ∧ wr = w.alloc (.cells #[.slice none 0 0] 25)) (fun _ _ => 0)
  case atStart => exact ⟨rfl, rfl⟩
  case round =>
    obtain ⟨rfl, rfl⟩ := hrel
    have h1 := fclone_nil (w.alloc (.cells #[.slice none 0 0] 25))
    have h2 := sortstable_nil (w.alloc (.cells #[.slice none 0 0] 25))
    go_wp2_with (first
      | (go_at_call 37; with_reducible refine h1.mono ?_; rintro e w1 ⟨he, hw⟩; subst he; subst w1)
      | (go_at_call 59; with_reducible refine h2.mono ?_; rintro e w1 ⟨he, hw⟩; subst he; subst w1))
    go_loopw [7] (fun i wr => i = .int .i64 1 ∧ wr = w.alloc (.cells #[.slice none 0 0] 25)) (fun _ _ => 0)
    case atStart => exact ⟨rfl, rfl⟩
    case round =>
      obtain ⟨rfl, rfl⟩ := hrel
      go_wp2_with fail
      go_loopw [58] (fun i wr => i = .int .i64 0 ∧ wr = w.alloc (.cells #[.slice none 0 0] 25)) (fun _ _ => 0)
      case atStart => exact ⟨rfl, rfl⟩
      case round =>
        obtain ⟨rfl, rfl⟩ := hrel
        go_wp2_with fail
        refine bodyPost_ret (v := .tuple #[.agg #[.slice none 0 0], .int .i64 0]) (by simp [results, Tryz.results34, go_sem, c0]) rfl ⟨HC.out.old, ?_⟩
        rw [HR.out]
        exact ⟨_, rfl, .inl ⟨rfl, rfl⟩⟩
set_option maxHeartbeats 4000000 in
set_option maxRecDepth 100000 in
theorem make_any (l : List F) (g off cap : Nat) (w : World) (hE : Vm.Env w) (hF : FC w g off l) (hs : ∀ f ∈ l, f.1.size ≤ 1000000) (hl : l.length ≤ 1000000) :
    Calls Tryz.prog 34 #[.slice (some ⟨g, off, none⟩) l.length cap] w (MakeOut w l) := by
  have hr := RC.start w
  by_cases h32 : 32 < l.length
  · have HR := Lib.hid (show makeP l = .error 13 by unfold makeP; rw [if_pos h32])
    have HC := Lib.hid hr
    obtain ⟨c0, f0⟩ := hr.c
    clear hF hr
    go_enter Tryz.func34, Tryz.ntmps34
    go_wp2_with fail
    exact HC.out.err HR.out rfl rfl c0
  · have HF := Lib.hid hF
    have HC := Lib.hid hr
    obtain ⟨c0, f0⟩ := hr.c
    have HE := Lib.hid hE
    clear hF hr
    go_enter Tryz.func34, Tryz.ntmps34
    go_wp2_with fail
    clear c0 f0
    go_loopw [16] (fun i wr => ∃ k : Nat, k ≤ l.length ∧ i = .int .i64 (k : Int) ∧ badF (l.take k) = none ∧ RC w wr) (fun i _ => l.length - (RowKit.intOf i).toNat)
    case atStart => exact ⟨0, Nat.zero_le _, rfl, rfl, HC.out⟩
    case round =>
      obtain ⟨k, hk, rfl, hb, hX⟩ := hrel
      clear HC
      by_cases hlt : k < l.length
      · obtain ⟨f, hf⟩ : ∃ f, l[k]? = some f := ⟨l[k], List.getElem?_eq_getElem hlt⟩
        obtain ⟨q0, q1⟩ := (HF.out.keep hX.old).2 k f hf
        have hg := fun W (hE : Vm.Env W) => goodp_any f.1 (by have := hs f (List.mem_of_getElem? hf); omega) W hE
        have HAT := Lib.hid (badF_at hb hf)
        have HNX := Lib.hid (badF_next hb hf)
        obtain ⟨c0, f0⟩ := hX.c
        have hX1 := hX.next ((Below.refl _ _).alloc (Nat.le_refl _) (.cells #[.string f.1, .string f.2] 34))
        have hE1 : Vm.Env (wr.alloc (.cells #[.string f.1, .string f.2] 34)) := HE.out.below hX1.old
        have hg := hg _ hE1
        have HX := Lib.hid hX1
        have HQ1 := Lib.hid (show (wr.alloc (.cells #[.string f.1, .string f.2] 34)).cell? ⟨wr.heap.size, 1, none⟩ = some (.string f.2) by simp only [World.cell?, heap_alloc_new]; rfl)
        clear hb hf hX hX1 hE1 HE
        cases hp : pathL f.1.data.toList with
        | false =>
          have HR := Lib.hid (show makeP l = .error 10 by
            unfold makeP
            rw [if_neg h32, HAT.out, if_pos hp])
          rw [hp] at hg
          clear hp HAT HNX
          go_wp2_with (go_at_call 58; with_reducible refine hg.mono ?_; clear hg; rintro e w2 ⟨he, hb2⟩; subst he; have hX2 := HX.out.next hb2; obtain ⟨c0', f0'⟩ := hX2.c; have HX2 := Lib.hid hX2; clear hX2 c0 f0)
          (try simp only [Exit.inBlock, Exit.then])
          exact HX2.out.errS HR.out rfl rfl
        | true =>
          by_cases h2 : 2048 < f.2.size
          · have HR := Lib.hid (show makeP l = .error 3 by
              unfold makeP
              rw [if_neg h32, HAT.out, if_neg (by rw [show pathL (K f) = true from hp]; decide), if_pos h2])
            rw [hp] at hg
            clear hp HAT HNX
            go_wp2_with (go_at_call 58; with_reducible refine hg.mono ?_; clear hg; rintro e w2 ⟨he, hb2⟩; subst he; have q1' := Sx.keep_cell hb2 HQ1.out; have hX2 := HX.out.next hb2; obtain ⟨c0', f0'⟩ := hX2.c; have HX2 := Lib.hid hX2; clear hX2 c0 f0)
            (try simp only [Exit.inBlock, Exit.then])
            exact HX2.out.errS HR.out rfl rfl
          · have HR := Lib.hid (HNX.out hp h2)
            rw [hp] at hg
            clear hp HAT HNX
            go_wp2_with (go_at_call 58; with_reducible refine hg.mono ?_; clear hg; rintro e w2 ⟨he, hb2⟩; subst he; have q1' := Sx.keep_cell hb2 HQ1.out; have hX2 := HX.out.next hb2; obtain ⟨c0', f0'⟩ := hX2.c; have HX2 := Lib.hid hX2; clear hX2 c0 f0)
            go_roundw
            case rel => exact ⟨k + 1, hlt, by push_cast; rfl, HR.out, HX2.out⟩
            case measure => simp [RowKit.intOf]; omega
      · obtain rfl : k = l.length := by omega
        rw [List.take_length] at hb
        have HB := Lib.hid hb
        have HX := Lib.hid hX
        obtain ⟨c0, f0⟩ := hX.c
        have hc := fclone_any l g off cap wr (HF.out.keep hX.old) hl
        clear hb hX
        have hso := fun (n : Nat) (hn : l.length = n) (g cap : Nat) (W : World) (hF : FR W g l) => sortstable_any hn (by omega) cap g W hF
        go_wp2_with (first
          | (go_at_call 37; with_reducible refine hc.mono ?_; clear hc; rintro e w2 ⟨g2, cap2, he, hg2, hF2, hb2⟩; subst he; have HF2 := Lib.hid hF2; have HG2 := Lib.hid hg2; have HX2 := Lib.hid (HX.out.next hb2); clear hF2 hg2 hb2)
          | (go_at_call 59; with_reducible refine (hso _ rfl g2 cap2 w2 HF2.out).mono ?_; clear hso; rintro e w3 ⟨he, s, hF3, hp3, hs3, hB3⟩; subst he; have HQ := Lib.hid (And.intro hF3 (And.intro hp3 (And.intro hs3 hB3))); clear hF3 hp3 hs3 hB3))
        have HS := Lib.hid (show s.length = l.length from HQ.out.2.1.length_eq)
        have HX3 := Lib.hid (show RC w w3 from But.below HX2.out HX2.out.lt (Nat.lt_of_lt_of_le HX.out.lt HG2.out) HQ.out.2.2.2)
        have HGW := Lib.hid (show w.heap.size < g2 from Nat.lt_of_lt_of_le HX.out.lt HG2.out)
        have HFS := Lib.hid (show ∀ f ∈ s, f.1.size ≤ 1000000 from fun f hf => hs f (HQ.out.2.1.mem_iff.1 hf))
        clear HG2 HF2 c0 f0 HX2 HX
        go_loopw [7] (fun i wr => ∃ j : Nat, (j < l.length ∨ j = 0) ∧ i = .int .i64 ((j : Int) + 1) ∧ (∀ i x y, i < j → s[i]? = some x → s[i + 1]? = some y → K y ≠ K x) ∧ FR wr g2 s ∧ RC w wr) (fun i _ => l.length - (RowKit.intOf i).toNat)
        case atStart => exact ⟨0, .inr rfl, rfl, fun i x y h => absurd h (by omega), HQ.out.1, HX3.out⟩
        case round =>
          obtain ⟨j, hj, rfl, hu, hF, hX⟩ := hrel
          by_cases hlt : j + 1 < l.length
          · obtain ⟨x, hx⟩ : ∃ x, s[j]? = some x := ⟨s[j]'(by rw [HS.out]; omega), List.getElem?_eq_getElem _⟩
            obtain ⟨y, hy⟩ : ∃ y, s[j + 1]? = some y := ⟨s[j + 1]'(by rw [HS.out]; omega), List.getElem?_eq_getElem _⟩
            obtain ⟨q0, -⟩ := hF.cells hx
            obtain ⟨q1, -⟩ := hF.cells hy
            have HU := Lib.hid hu
            have HF3 := Lib.hid hF
            have HX4 := Lib.hid hX
            have HXY := Lib.hid (And.intro hx hy)
            clear hu hF hX hx hy
            by_cases he : K y = K x
            · have HR := Lib.hid (show makeP l = .error 11 by
                unfold makeP
                rw [if_neg h32, HB.out]
                show (if ¬ Unl l then _ else _) = _
                rw [if_pos (fun h => not_unl HXY.out.1 HXY.out.2 he (h.perm HQ.out.2.1.symm))])
              have hk := Sx.seq_tt (ByteArray.ext (Array.toList_inj.1 he) : y.1 = x.1)
              clear he
              go_wp2_with fail
              go_quiet (fail)
              have hX5 := HX4.out.drewN nq
              obtain ⟨c0, f0⟩ := hX5.c
              have HX5 := Lib.hid hX5
              clear hX5 q0 q1
              generalize wr.drewN nq = wz at *
              go_wp2_with fail
              (try simp only [Exit.inBlock, Exit.then])
              exact HX5.out.errS HR.out rfl rfl
            · have hk := Sx.seq_ff (fun h : y.1 = x.1 => he (by unfold K; rw [h]))
              have HR := Lib.hid he
              clear he
              go_wp2_with fail
              go_quiet (fail)
              have HX5 := Lib.hid (HX4.out.drewN nq)
              have HF5 := Lib.hid (show FR (wr.drewN nq) g2 s from HF3.out)
              clear q0 q1
              generalize wr.drewN nq = wz at *
              go_wp2_with fail
              go_roundw
              case rel =>
                refine ⟨j + 1, .inl hlt, by push_cast; rfl, fun i a b hi ha hb => ?_, HF5.out, HX5.out⟩
                by_cases hij : i = j
                · subst hij
                  have e1 := Option.some.inj (ha.symm.trans HXY.out.1)
                  have e2 := Option.some.inj (hb.symm.trans HXY.out.2)
                  rw [e1, e2]
                  exact HR.out
                · exact HU.out i a b (by omega) ha hb
              case measure => simp [RowKit.intOf]; omega
          · have HU := Lib.hid (show Unl s from unl_of HQ.out.2.2.1 fun i x y hx hy => hu i x y (by have := (List.getElem?_eq_some_iff.1 hy).1; rw [HS.out] at this; omega) hx hy)
            have HF3 := Lib.hid hF
            have HX4 := Lib.hid hX
            clear hu hF hX
            have i1 : ¬ (j : Int) + 1 < l.length := by omega
            go_wp2_with fail
            go_loopw [58] (fun i wz => ∃ k : Nat, k ≤ l.length ∧ i = .int .i64 (k : Int) ∧ (∀ f ∈ s.take k, underF f s = false) ∧ FR wz g2 s ∧ RC w wz) (fun i _ => l.length - (RowKit.intOf i).toNat)
            case atStart => exact ⟨0, Nat.zero_le _, rfl, fun f h => by simp at h, HF3.out, HX4.out⟩
            case round =>
              obtain ⟨k, hk, rfl, hn, hF, hX⟩ := hrel
              by_cases hlt : k < l.length
              · obtain ⟨f, hf⟩ : ∃ f, s[k]? = some f := ⟨s[k]'(by rw [HS.out]; exact hlt), List.getElem?_eq_getElem _⟩
                obtain ⟨q0, q1⟩ := hF.cells hf
                have hX6 := hX.next ((Below.refl _ _).alloc (Nat.le_refl _) (.cells #[.string f.1, .string f.2] 34))
                have hF6 : FR (wr.alloc (.cells #[.string f.1, .string f.2] 34)) g2 s := hF.keep ((Below.refl _ _).alloc (Nat.le_refl _) _)
                have hcl := fcontains_any f (HFS.out f (List.mem_of_getElem? hf)) wr.heap.size s g2 cap2 _ hF6 (by rw [HS.out]; omega) (by simp) (by simp only [World.cell?, heap_alloc_new]; rfl)
                rw [HS.out] at hcl
                have HF6 := Lib.hid hF6
                have HX6 := Lib.hid hX6
                have HN := Lib.hid hn
                have HK := Lib.hid hf
                clear hn hf hF hX hF6 hX6
                cases hc : underF f s with
                | true =>
                  have HR := Lib.hid (show makeP l = .error 12 by
                    unfold makeP
                    rw [if_neg h32, HB.out]
                    show (if ¬ Unl l then _ else _) = _
                    rw [if_neg (by have := HU.out.perm HQ.out.2.1; simpa using this), if_pos (by
                      rw [clash_perm HQ.out.2.1.symm]
                      unfold clashF
                      rw [List.any_eq_true]
                      exact ⟨f, List.mem_of_getElem? HK.out, hc⟩)])
                  rw [hc] at hcl
                  clear hc
                  go_wp2_with (go_at_call 61; with_reducible refine hcl.mono ?_; clear hcl; rintro e w4 ⟨he, hb4⟩; subst he; have hX7 := HX6.out.next hb4; obtain ⟨c0, f0⟩ := hX7.c; have HX7 := Lib.hid hX7; clear hX7)
                  (try simp only [Exit.inBlock, Exit.then])
                  exact HX7.out.errS HR.out rfl rfl
                | false =>
                  have HR := Lib.hid (show ∀ y ∈ s.take (k + 1), underF y s = false by
                    intro y hy
                    rw [take_snoc HK.out] at hy
                    rcases List.mem_append.1 hy with hy | hy
                    · exact HN.out y hy
                    · simp at hy
                      subst hy
                      exact hc)
                  rw [hc] at hcl
                  clear hc
                  go_wp2_with (go_at_call 61; with_reducible refine hcl.mono ?_; clear hcl; rintro e w4 ⟨he, hb4⟩; subst he; have HX7 := Lib.hid (HX6.out.next hb4); have HF7 := Lib.hid (HF6.out.keep hb4))
                  go_roundw
                  case rel => exact ⟨k + 1, hlt, by push_cast; rfl, HR.out, HF7.out, HX7.out⟩
                  case measure => simp [RowKit.intOf]; omega
              · obtain rfl : k = l.length := by omega
                rw [← HS.out, List.take_length] at hn
                have HR := Lib.hid (show makeP l = .ok s from make_of h32 HB.out (HU.out.perm HQ.out.2.1) (by
                  rw [clash_perm HQ.out.2.1.symm]
                  unfold clashF
                  rw [List.any_eq_false]
                  intro f hf
                  have := hn f hf
                  unfold underF at this
                  rw [this]
                  decide) HQ.out.2.2.1 HQ.out.2.1)
                have HF8 := Lib.hid hF
                have HX8 := Lib.hid hX
                obtain ⟨c0, f0⟩ := hX.c
                clear hn hF hX
                go_wp2_with fail
                (try simp only [Exit.inBlock, Exit.then])
                exact HX8.out.ok HR.out rfl rfl (.inr ⟨g2, cap2, by rw [HS.out], HGW.out, HF8.out⟩)
end Tr
end Go.Proofs.YtbefgplaaghlbaaGreatDoor
