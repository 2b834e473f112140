/-
  Walks: the reference's tree.Make.
-/
import Derived.Test.YtbefgplaaghlbaaGreatDoorTpC
namespace Go.Proofs.YtbefgplaaghlbaaGreatDoor
open Go.RowKit Go.Shelf Go.Lib Go.Sort
namespace Tr

theorem less_ltB : ∀ a b : List UInt8, Op.bytesLess a b = ltB a b
  | [], [] => rfl
  | _ :: _, [] => rfl
  | [], _ :: _ => rfl
  | x :: l, y :: m => by
    have ih := less_ltB l m
    rw [Op.bytesLess, ih]
    unfold ltB
    rw [Lib.compareBytes]
    by_cases h1 : x < y
    · rw [if_pos h1]
      simp [h1]
    · rw [if_neg h1]
      by_cases h2 : y < x
      · rw [if_pos h2]
        have : (x == y) = false := by
          rw [beq_eq_false_iff_ne]
          rintro rfl
          exact UInt8.lt_irrefl _ h2
        simp [h1, this]
      · rw [if_neg h2]
        have e : x = y := UInt8.le_antisymm (UInt8.not_lt.1 h2) (UInt8.not_lt.1 h1)
        simp [e]
theorem less_K (g f : F) : Op.bytesLess g.1.toList f.1.toList = ltB (K g) (K f) := by
  rw [less_ltB, ByteArray.toList_eq, ByteArray.toList_eq]
theorem insA_app : ∀ (a b t : List F), insA (a ++ b) t = (insA a t).bind (insA b)
  | [], b, t => rfl
  | f :: a, b, t => by
    rw [List.cons_append, insA, insA]
    split
    · rfl
    · exact insA_app a b _
theorem insA_len : ∀ {l t s : List F}, insA l t = some s → s.length ≤ l.length + t.length
  | [], t, s, h => by cases h; simp
  | f :: l, t, s, h => by
    rw [insA] at h
    split at h
    · cases h
    · have := insA_len h
      have h1 : (ins1 t f).length ≤ t.length + 1 := by
        unfold ins1
        rw [List.length_append, List.length_cons]
        have a1 : t.filter (fun g => ltB (K f) (K g)) = (t.filter (fun g => !ltB (K g) (K f))).filter fun g => ltB (K f) (K g) := by
          rw [List.filter_filter]
          refine List.filter_congr fun g _ => ?_
          cases h1 : ltB (K f) (K g) with
          | false => rfl
          | true => rw [ltB_asym h1]; rfl
        have a2 := List.length_filter_le (fun g => ltB (K f) (K g)) (t.filter (fun g => !ltB (K g) (K f)))
        rw [← a1] at a2
        have a3 := (List.filter_append_perm (fun g => ltB (K g) (K f)) t).length_eq
        rw [List.length_append] at a3
        omega
      simp
      omega
theorem insA_next {l T : List F} {k : Nat} {f : F} (h : insA (l.take k) [] = some T) (hf : l[k]? = some f) (hn : (T.any fun g => K g == K f) = false) : insA (l.take (k + 1)) [] = some (ins1 T f) := by
  rw [take_snoc hf, insA_app, h]
  show insA [f] T = _
  rw [insA, if_neg (by rw [hn]; decide)]
  rfl
theorem insA_bad {l T : List F} {k : Nat} {f : F} (h : insA (l.take k) [] = some T) (hf : l[k]? = some f) (hn : (T.any fun g => K g == K f) = true) : ¬ Unl l := by
  rw [← insA_unl]
  have e : l = l.take k ++ f :: l.drop (k + 1) := by
    obtain ⟨h6, h7⟩ := List.getElem?_eq_some_iff.1 hf
    rw [← h7, ← List.drop_eq_getElem_cons h6, List.take_append_drop]
  rw [e, insA_app, h]
  show (insA (f :: l.drop (k + 1)) T).isNone = true
  rw [insA, if_pos hn]
  rfl
theorem RC.err5 {w X : World} (h : RC w X) {l : List F} {c : Int} (hm : makeP l = .error c) {tm : Array Value} (h2 : tm[2]? = some (.pointer (some ⟨w.heap.size, 0, none⟩))) (h3 : tm[3]? = some (.int .i64 c)) (hX : X.cell? ⟨w.heap.size, 0, none⟩ = some (.slice none 0 0)) :
    bodyPost Tryz.prog Tryz.f42 (MakeOut w l) Exit.ret ⟨tm, []⟩ X := by
  refine bodyPost_ret (v := .tuple #[.agg #[.slice none 0 0], .int .i64 c]) (by simp [results, Tryz.results42, go_sem, h2, h3, hX]) rfl ⟨h.old, ?_⟩
  rw [hm]
  rfl
theorem RC.errS5 {w X : World} (h : RC w X) {l : List F} {c : Int} (hm : makeP l = .error c) {tm : Array Value} (h2 : tm[2]? = some (.pointer (some ⟨w.heap.size, 0, none⟩))) (h3 : tm[3]? = some (.int .i64 c)) :
    bodyPost Tryz.prog Tryz.f42 (MakeOut w l) Exit.ret ⟨tm, []⟩ (X.setCell ⟨w.heap.size, 0, none⟩ (.slice none 0 0)) := by
  refine bodyPost_ret (v := .tuple #[.agg #[.slice none 0 0], .int .i64 c]) (by simp [results, Tryz.results42, go_sem, h2, h3, h.res]) rfl ⟨h.fin _, ?_⟩
  rw [hm]
  rfl
theorem RC.ok5 {w X : World} (h : RC w X) {l s : List F} (hm : makeP l = .ok s) {v : Value} {tm : Array Value} (h2 : tm[2]? = some (.pointer (some ⟨w.heap.size, 0, none⟩))) (h3 : tm[3]? = some (.int .i64 0))
    {B : Nat} (hB : w.heap.size < B) (hv : FO X B v s) :
    bodyPost Tryz.prog Tryz.f42 (MakeOut w l) Exit.ret ⟨tm, []⟩ (X.setCell ⟨w.heap.size, 0, none⟩ v) := by
  refine bodyPost_ret (v := .tuple #[.agg #[v], .int .i64 0]) (by simp [results, Tryz.results42, go_sem, h2, h3, h.res v]) rfl ⟨h.fin v, ?_⟩
  rw [hm]
  refine ⟨v, rfl, ?_⟩
  by_cases hn : v = .slice none 0 0
  · subst hn
    rcases hv.2 with ⟨-, hl⟩ | ⟨g, cap, cur, e, -⟩
    · exact .inl ⟨rfl, List.length_eq_zero_iff.1 hl⟩
    · cases e
  · obtain ⟨g, cap, rfl, hg, hF, -⟩ := own_fr hv hn
    refine .inr ⟨g, cap, rfl, by omega, hF.same (Below.heap_setCell _ _ _ _ ?_)⟩
    show g ≠ w.heap.size
    omega
/-- files of one's own, read in a later world -/
theorem FO.at {w : World} {B : Nat} {v : Value} {l : List F} (h : FO w B v l) : ∃ (sl : Option Addr) (cap : Nat), v = .slice sl l.length cap ∧ ∀ k f, l[k]? = some f → ∃ g, sl = some ⟨g, 0, none⟩ ∧ B ≤ g ∧ g < w.heap.size ∧ w.cell? ⟨g, k * 2, none⟩ = some (.string f.1) ∧ w.cell? ⟨g, k * 2 + 1, none⟩ = some (.string f.2) := by
  by_cases hn : v = .slice none 0 0
  · subst hn
    rcases h.2 with ⟨-, hl⟩ | ⟨g, cap, cur, e, -⟩
    · exact ⟨none, 0, by rw [hl], fun k f hf => by have := (List.getElem?_eq_some_iff.1 hf).1; omega⟩
    · cases e
  · obtain ⟨g, cap, rfl, hg, hF, -⟩ := own_fr h hn
    exact ⟨_, cap, rfl, fun k f hf => ⟨g, rfl, hg, hF.lt, (hF.cells hf).1, (hF.cells hf).2⟩⟩
/-- inserting, in its midst: the block b6 shows the files T -/
structure IM (w X : World) (b6 : Nat) (T : List F) : Prop where
  rc : RC w X
  lt : w.heap.size < b6
  blk : ∃ v, X.heap[b6]? = some (.cells #[v] 25 (0, 0)) ∧ FO X (b6 + 1) v T
theorem IM.keep {w X Y : World} {b6 : Nat} {T : List F} (h : IM w X b6 T) (hb : Below X.heap.size X Y) : IM w Y b6 T := by
  obtain ⟨v, h1, h2⟩ := h.blk
  exact ⟨h.rc.next hb, h.lt, v, (hb.block _ (Array.getElem?_eq_some_iff.1 h1).1).trans h1, h2.keep hb⟩
set_option maxHeartbeats 8000000 in
set_option maxRecDepth 100000 in
theorem make5_any (l : List F) (v : Value) (w : World) (hF : FS w v l) (hs : ∀ f ∈ l, f.1.size ≤ 1000000) (hl : l.length ≤ 1000000) :
    Calls Tryz.prog 42 #[v] w (MakeOut w l) := by
  obtain ⟨sl, cap, rfl, hf⟩ := hF.form
  have hr := RC.start w
  by_cases h32 : 32 < l.length
  · have HR := Lib.hid (show makeP l = .error 13 by unfold makeP; rw [if_pos h32])
    have HC := Lib.hid hr
    obtain ⟨c0, f0⟩ := hr.c
    clear hF hr hf
    go_enter Tryz.func42, Tryz.ntmps42
    go_wp2_with fail
    exact HC.out.err5 HR.out rfl rfl c0
  · have HF := Lib.hid hf
    have HC := Lib.hid hr
    obtain ⟨c0, f0⟩ := hr.c
    clear hF hr hf
    go_enter Tryz.func42, Tryz.ntmps42
    go_wp2_with fail
    clear c0 f0
    go_loopw [24] (fun i wr => ∃ k : Nat, k ≤ l.length ∧ i = .int .i64 (k : Int) ∧ badF (l.take k) = none ∧ RC w wr) (fun i _ => l.length - (RowKit.intOf i).toNat)
    case atStart => exact ⟨0, Nat.zero_le _, rfl, rfl, HC.out⟩
    case round =>
      obtain ⟨k, hk, rfl, hb, hX⟩ := hrel
      clear HC
      by_cases hlt : k < l.length
      · obtain ⟨f, hf⟩ : ∃ f, l[k]? = some f := ⟨l[k], List.getElem?_eq_getElem hlt⟩
        obtain ⟨g, o, rfl, hgw, q0, q1⟩ := HF.out k f hf
        replace q0 := (hX.old.cell (p := ⟨g, o + k * 2, none⟩) hgw).trans q0
        replace q1 := (hX.old.cell (p := ⟨g, o + k * 2 + 1, none⟩) hgw).trans q1
        have hg := fun W => good4_any f.1 (by have := hs f (List.mem_of_getElem? hf); omega) W
        have HAT := Lib.hid (badF_at hb hf)
        have HNX := Lib.hid (badF_next hb hf)
        obtain ⟨c0, f0⟩ := hX.c
        have hX1 := hX.next ((Below.refl _ _).alloc (Nat.le_refl _) (.cells #[.string f.1, .string f.2] 34))
        have hg := hg (wr.alloc (.cells #[.string f.1, .string f.2] 34))
        have HX := Lib.hid hX1
        have HQ1 := Lib.hid (show (wr.alloc (.cells #[.string f.1, .string f.2] 34)).cell? ⟨wr.heap.size, 1, none⟩ = some (.string f.2) by simp only [World.cell?, heap_alloc_new]; rfl)
        clear hb hf hX hX1
        cases hp : pathL f.1.data.toList with
        | false =>
          have HR := Lib.hid (show makeP l = .error 10 by
            unfold makeP
            rw [if_neg h32, HAT.out, if_pos hp])
          rw [hp] at hg
          clear hp HAT HNX
          go_wp2_with (go_at_call 66; with_reducible refine hg.mono ?_; clear hg; rintro e w2 ⟨he, hb2⟩; subst he; have hX2 := HX.out.next hb2; obtain ⟨c0', f0'⟩ := hX2.c; have HX2 := Lib.hid hX2; clear hX2 c0 f0)
          (try simp only [Exit.inBlock, Exit.then])
          exact HX2.out.errS5 HR.out rfl rfl
        | true =>
          by_cases h2 : 2048 < f.2.size
          · have HR := Lib.hid (show makeP l = .error 3 by
              unfold makeP
              rw [if_neg h32, HAT.out, if_neg (by rw [show pathL (K f) = true from hp]; decide), if_pos h2])
            rw [hp] at hg
            clear hp HAT HNX
            go_wp2_with (go_at_call 66; with_reducible refine hg.mono ?_; clear hg; rintro e w2 ⟨he, hb2⟩; subst he; have q1' := Sx.keep_cell hb2 HQ1.out; have hX2 := HX.out.next hb2; obtain ⟨c0', f0'⟩ := hX2.c; have HX2 := Lib.hid hX2; clear hX2 c0 f0)
            (try simp only [Exit.inBlock, Exit.then])
            exact HX2.out.errS5 HR.out rfl rfl
          · have HR := Lib.hid (HNX.out hp h2)
            rw [hp] at hg
            clear hp HAT HNX
            go_wp2_with (go_at_call 66; with_reducible refine hg.mono ?_; clear hg; rintro e w2 ⟨he, hb2⟩; subst he; have q1' := Sx.keep_cell hb2 HQ1.out; have hX2 := HX.out.next hb2; obtain ⟨c0', f0'⟩ := hX2.c; have HX2 := Lib.hid hX2; clear hX2 c0 f0)
            go_roundw
            case rel => exact ⟨k + 1, hlt, by push_cast; rfl, HR.out, HX2.out⟩
            case measure => simp [RowKit.intOf]; omega
      · obtain rfl : k = l.length := by omega
        rw [List.take_length] at hb
        have HB := Lib.hid hb
        have hlt6 := hX.lt
        have HIM := Lib.hid (show IM w (wr.alloc (.cells #[.slice none 0 0] 25)) wr.heap.size [] from ⟨hX.next ((Below.refl _ _).alloc (Nat.le_refl _) _), hX.lt, _, heap_alloc_new _ _, FO.nil _ _⟩)
        clear hb hX
        go_wp2_with fail
        generalize hW6 : wr.alloc (.cells #[.slice none 0 0] 25) = W6 at *
        clear hW6
        generalize wr.heap.size = b6 at *
        go_loopw [42] (fun i wz => ∃ (k : Nat) (T : List F), k ≤ l.length ∧ i = .int .i64 (k : Int) ∧ insA (l.take k) [] = some T ∧ IM w wz b6 T) (fun i _ => l.length - (RowKit.intOf i).toNat)
        case atStart => exact ⟨0, [], Nat.zero_le _, rfl, rfl, HIM.out⟩
        case round =>
          clear HIM
          obtain ⟨k, T, hk, rfl, hi, hM⟩ := hrel
          have HI := Lib.hid hi
          by_cases hlt : k < l.length
          · obtain ⟨f, hf⟩ : ∃ f, l[k]? = some f := ⟨l[k], List.getElem?_eq_getElem hlt⟩
            obtain ⟨g, o, rfl, hgw, q0, q1⟩ := HF.out k f hf
            replace q0 := (hM.rc.old.cell (p := ⟨g, o + k * 2, none⟩) hgw).trans q0
            replace q1 := (hM.rc.old.cell (p := ⟨g, o + k * 2 + 1, none⟩) hgw).trans q1
            have hTl : T.length ≤ 32 := by
              have := insA_len hi
              rw [List.length_take] at this
              simp at this
              omega
            have hA8 : Below wr.heap.size wr (wr.alloc (.cells #[.string f.1, .string f.2] 34)) := (Below.refl _ _).alloc (Nat.le_refl _) _
            have hM8 := hM.keep hA8
            have hz8 : (wr.alloc (.cells #[.string f.1, .string f.2] 34)).heap.size = wr.heap.size + 1 := by simp
            have hn8 : (wr.alloc (.cells #[.string f.1, .string f.2] 34)).cell? ⟨wr.heap.size, 0, none⟩ = some (.string f.1) ∧ (wr.alloc (.cells #[.string f.1, .string f.2] 34)).cell? ⟨wr.heap.size, 1, none⟩ = some (.string f.2) := by
              constructor <;> (simp only [World.cell?, heap_alloc_new]; rfl)
            obtain ⟨v6, hb6, hO6⟩ := hM8.blk
            obtain ⟨s6, c6, rfl, hT⟩ := hO6.at
            have hb6l : b6 < wr.heap.size := by
              obtain ⟨v, h1, -⟩ := hM.blk
              exact (Array.getElem?_eq_some_iff.1 h1).1
            obtain ⟨d6, z6⟩ := blk_cell hb6
            have HT := Lib.hid (show ∀ (k : Nat) (x : F), T[k]? = some x → ∃ g, s6 = some ⟨g, 0, none⟩ ∧ g < wr.heap.size + 1 ∧ (wr.alloc (.cells #[.string f.1, .string f.2] 34)).cell? ⟨g, k * 2, none⟩ = some (.string x.1) ∧ (wr.alloc (.cells #[.string f.1, .string f.2] 34)).cell? ⟨g, k * 2 + 1, none⟩ = some (.string x.2) from fun k x hk => by
              obtain ⟨g, h1, h2, h3, h4⟩ := hT k x hk
              exact ⟨g, h1, by omega, h4⟩)
            have HM8 := Lib.hid hM8
            have HN8 := Lib.hid hn8
            have HD8 := Lib.hid (And.intro d6 (And.intro z6 hb6))
            have HFX := Lib.hid hf
            have HL6 := Lib.hid (And.intro hb6l hz8)
            have HTL := Lib.hid hTl
            clear hi hM hf hA8 hM8 hz8 hn8 hb6 hO6 hT hb6l hTl z6
            go_wp2_with fail
            clear q0 q1 d6
            generalize hW8 : wr.alloc (.cells #[.string f.1, .string f.2] 34) = W8 at *
            clear hW8
            generalize wr.heap.size = b8 at *
            go_loopw [49, 9] (fun i s9 wz => ∃ m : Nat, m ≤ T.length ∧ i = .int .i64 (m : Int) ∧ FO wz (b8 + 1) s9 ((T.take m).filter fun g => ltB (K g) (K f)) ∧ Below (b8 + 1) W8 wz) (fun i _ _ => T.length - (RowKit.intOf i).toNat)
            case atStart => exact ⟨0, Nat.zero_le _, rfl, FO.nil _ _, Below.refl _ _⟩
            case round =>
              rename_i s9
              obtain ⟨m, hm, rfl, hO9, hB9⟩ := hrel
              have hTl := HTL.out
              have HO9 := Lib.hid hO9
              have HB9 := Lib.hid hB9
              have hsz9 : b8 + 1 ≤ wr.heap.size := by have := hB9.size; have := HL6.out.2; omega
              have n0 := (hB9.cell (p := ⟨b8, 0, none⟩) (Nat.lt_succ_self _)).trans HN8.out.1
              have n1 := (hB9.cell (p := ⟨b8, 1, none⟩) (Nat.lt_succ_self _)).trans HN8.out.2
              by_cases hlt2 : m < T.length
              · obtain ⟨x, hx⟩ : ∃ x, T[m]? = some x := ⟨T[m], List.getElem?_eq_getElem hlt2⟩
                obtain ⟨g6, rfl, hg6, c0, c1⟩ := HT.out m x hx
                replace c0 := (hB9.cell (p := ⟨g6, m * 2, none⟩) hg6).trans c0
                replace c1 := (hB9.cell (p := ⟨g6, m * 2 + 1, none⟩) hg6).trans c1
                have hc := less_K x f
                have HTS := Lib.hid (take_snoc hx)
                have HSZ := Lib.hid hsz9
                have n0' := Sx.keep_cell ((Below.refl wr.heap.size wr).alloc (Nat.le_refl _) (.cells #[.string x.1, .string x.2] 34)) n0
                clear hx hO9 hB9 hsz9
                cases hcc : ltB (K x) (K f) with
                | true =>
                  rw [hcc] at hc
                  have HR := Lib.hid (show ((T.take (m + 1)).filter fun g => ltB (K g) (K f)) = ((T.take m).filter fun g => ltB (K g) (K f)) ++ [x] by rw [HTS.out, List.filter_append]; simp [hcc])
                  clear hcc
                  go_wp2_with (first
                    | (at_builtin; refine FO.push (w := wr.alloc (.cells #[.string x.1, .string x.2] 34)) (l := (T.take m).filter fun g => ltB (K g) (K f)) (B := b8 + 1) ?hh x ?hn ?hk rfl _ _ rfl rfl rfl ?he ?_; (case hh => exact HO9.out.keep ((Below.refl _ _).alloc (Nat.le_refl _) _)); (case hn => have := List.length_filter_le (fun g => ltB (K g) (K f)) (T.take m); rw [List.length_take] at this; have := HTL.out; omega); (case hk => have := HSZ.out; simp; omega); (case he => simp); intro v5 w5 hO5 hB5 hF5 hZ5))
                  go_roundw
                  case rel => exact ⟨m + 1, hlt2, by push_cast; rfl, by rw [HR.out]; exact hO5, hB5 W8 (HB9.out.alloc HSZ.out _)⟩
                  case measure => simp [RowKit.intOf]; omega
                | false =>
                  rw [hcc] at hc
                  have HR := Lib.hid (show ((T.take (m + 1)).filter fun g => ltB (K g) (K f)) = ((T.take m).filter fun g => ltB (K g) (K f)) by rw [HTS.out, List.filter_append]; simp [hcc])
                  clear hcc
                  go_wp2_with fail
                  go_roundw
                  case rel => exact ⟨m + 1, hlt2, by push_cast; rfl, by rw [HR.out]; exact HO9.out.keep ((Below.refl _ _).alloc (Nat.le_refl _) _), HB9.out.alloc HSZ.out _⟩
                  case measure => simp [RowKit.intOf]; omega
              · obtain rfl : m = T.length := by omega
                rw [List.take_length] at hO9
                have d6 := (hB9.cell (p := ⟨b6, 0, none⟩) (by have := HL6.out.1; show b6 < b8 + 1; omega)).trans HD8.out.1
                have HO9 := Lib.hid hO9
                have HSZ := Lib.hid hsz9
                have hfl := List.length_filter_le (fun g => ltB (K g) (K f)) T
                have HFL := Lib.hid hfl
                clear hO9 hB9 hsz9 hfl
                go_wp2_with (first
                  | (at_builtin; refine FO.push (l := T.filter fun g => ltB (K g) (K f)) (B := b8 + 1) ?hh f ?hn ?hk rfl _ _ rfl rfl rfl ?he ?_; (case hh => exact HO9.out); (case hn => have := HFL.out; omega); (case hk => exact HSZ.out); (case he => simp); intro v5 w5 hO5 hB5 hF5 hZ5; have d6' := ((hB5 W8 HB9.out).cell (p := ⟨b6, 0, none⟩) (by have := HL6.out.1; show b6 < b8 + 1; omega)).trans HD8.out.1; have HO5 := Lib.hid hO5; have HB5 := Lib.hid (hB5 W8 HB9.out); clear hO5 hB5 hF5 hZ5 d6 n0 n1))
                go_loopw [70, 9] (fun i s9 wz => ∃ m : Nat, m ≤ T.length ∧ i = .int .i64 (m : Int) ∧ (∀ g ∈ T.take m, K g ≠ K f) ∧ FO wz (b8 + 1) s9 ((T.filter fun g => ltB (K g) (K f)) ++ f :: ((T.take m).filter fun g => ltB (K f) (K g))) ∧ Below (b8 + 1) W8 wz) (fun i _ _ => T.length - (RowKit.intOf i).toNat)
                case atStart => exact ⟨0, Nat.zero_le _, rfl, fun g h => by simp at h, HO5.out, HB5.out⟩
                case round =>
                  clear HO5 HB5 d6' HO9 HB9 HSZ
                  rename_i s9
                  obtain ⟨m, hm, rfl, hne, hO9, hB9⟩ := hrel
                  have hTl := HTL.out
                  have HNE := Lib.hid hne
                  have HO9 := Lib.hid hO9
                  have HB9 := Lib.hid hB9
                  have hsz9 : b8 + 1 ≤ wr.heap.size := by have := hB9.size; have := HL6.out.2; omega
                  have n0 := (hB9.cell (p := ⟨b8, 0, none⟩) (Nat.lt_succ_self _)).trans HN8.out.1
                  have n1 := (hB9.cell (p := ⟨b8, 1, none⟩) (Nat.lt_succ_self _)).trans HN8.out.2
                  by_cases hlt2 : m < T.length
                  · obtain ⟨x, hx⟩ : ∃ x, T[m]? = some x := ⟨T[m], List.getElem?_eq_getElem hlt2⟩
                    obtain ⟨g6, rfl, hg6, c0, c1⟩ := HT.out m x hx
                    replace c0 := (hB9.cell (p := ⟨g6, m * 2, none⟩) hg6).trans c0
                    replace c1 := (hB9.cell (p := ⟨g6, m * 2 + 1, none⟩) hg6).trans c1
                    have hc := less_K x f
                    have HTS := Lib.hid (take_snoc hx)
                    have HXM := Lib.hid hx
                    have HSZ := Lib.hid hsz9
                    have n0' := Sx.keep_cell ((Below.refl wr.heap.size wr).alloc (Nat.le_refl _) (.cells #[.string x.1, .string x.2] 34)) n0
                    have hRC := (HM8.out.rc)
                    have HRC := Lib.hid (show RC w (wr.alloc (.cells #[.string x.1, .string x.2] 34)) from (hRC.trans (hB9.mono (by have := HL6.out.1; omega))).alloc (by have := HL6.out.1; omega) _)
                    obtain ⟨cc0, ff0⟩ := HRC.out.c
                    clear hx hO9 hB9 hsz9 hne hRC
                    by_cases he : K x = K f
                    · have hq := Sx.seq_tt (ByteArray.ext (Array.toList_inj.1 he) : x.1 = f.1)
                      have HR := Lib.hid (show makeP l = .error 11 by
                        unfold makeP
                        rw [if_neg h32, HB.out]
                        show (if ¬ Unl l then _ else _) = _
                        rw [if_pos (insA_bad HI.out HFX.out (any_iff.2 ⟨x, List.mem_of_getElem? HXM.out, he⟩))])
                      clear he hc
                      go_wp2_with fail
                      (try simp only [Exit.inBlock, Exit.then])
                      exact HRC.out.errS5 HR.out rfl rfl
                    · have hq := Sx.seq_ff (fun h : x.1 = f.1 => he (by unfold K; rw [h]))
                      have HR := Lib.hid (show ∀ g ∈ T.take (m + 1), K g ≠ K f by
                        intro y hy
                        rw [HTS.out] at hy
                        rcases List.mem_append.1 hy with hy | hy
                        · exact HNE.out y hy
                        · simp at hy
                          subst hy
                          exact he)
                      cases hcc : ltB (K x) (K f) with
                      | true =>
                        rw [hcc] at hc
                        have HR2 := Lib.hid (show ((T.take (m + 1)).filter fun g => ltB (K f) (K g)) = ((T.take m).filter fun g => ltB (K f) (K g)) by rw [HTS.out, List.filter_append]; simp [ltB_asym hcc])
                        clear hcc he
                        go_wp2_with fail
                        go_roundw
                        case rel => exact ⟨m + 1, hlt2, by push_cast; rfl, HR.out, by rw [HR2.out]; exact HO9.out.keep ((Below.refl _ _).alloc (Nat.le_refl _) _), HB9.out.alloc HSZ.out _⟩
                        case measure => simp [RowKit.intOf]; omega
                      | false =>
                        rw [hcc] at hc
                        have HR2 := Lib.hid (show ((T.take (m + 1)).filter fun g => ltB (K f) (K g)) = ((T.take m).filter fun g => ltB (K f) (K g)) ++ [x] by
                          have : ltB (K f) (K x) = true := by
                            cases h : ltB (K f) (K x) with
                            | true => rfl
                            | false => exact absurd (ltB_tri hcc h) he
                          rw [HTS.out, List.filter_append]
                          simp [this])
                        have HLN := Lib.hid (show ((T.filter fun g => ltB (K g) (K f)) ++ f :: ((T.take m).filter fun g => ltB (K f) (K g))).length ≤ 1000000 by
                          have h1 := List.length_filter_le (fun g => ltB (K g) (K f)) T
                          have h2 := List.length_filter_le (fun g => ltB (K f) (K g)) (T.take m)
                          rw [List.length_take] at h2
                          rw [List.length_append, List.length_cons]
                          omega)
                        clear hcc he
                        generalize hAL : ((T.filter fun g => ltB (K g) (K f)) ++ f :: ((T.take m).filter fun g => ltB (K f) (K g))) = AL at *
                        have HAL := Lib.hid hAL
                        clear hAL
                        go_wp2_with (first
                          | (at_builtin; refine FO.push (w := wr.alloc (.cells #[.string x.1, .string x.2] 34)) (l := AL) (B := b8 + 1) ?hh x ?hn ?hk rfl _ _ rfl rfl rfl ?he ?_; (case hh => exact HO9.out.keep ((Below.refl _ _).alloc (Nat.le_refl _) _)); (case hn => exact HLN.out); (case hk => have := HSZ.out; simp; omega); (case he => simp); intro v5 w5 hO5 hB5 hF5 hZ5))
                        go_roundw
                        case rel => exact ⟨m + 1, hlt2, by push_cast; rfl, HR.out, by rw [HR2.out, ← List.cons_append, ← List.append_assoc, HAL.out]; exact hO5, hB5 W8 (HB9.out.alloc HSZ.out _)⟩
                        case measure => simp [RowKit.intOf]; omega
                  · obtain rfl : m = T.length := by omega
                    rw [List.take_length] at hO9 hne
                    have d6 := (hB9.cell (p := ⟨b6, 0, none⟩) (by have := HL6.out.1; show b6 < b8 + 1; omega)).trans HD8.out.1
                    have z6 := (hB9.frozen (p := ⟨b6, 0, none⟩) (by have := HL6.out.1; show b6 < b8 + 1; omega)).trans HD8.out.2.1
                    have hb6 := (hB9.block b6 (by have := HL6.out.1; omega)).trans HD8.out.2.2
                    have hR := insA_next HI.out HFX.out (by
                      rw [List.any_eq_false]
                      intro x hx
                      simpa using hne x hx)
                    unfold ins1 at hR
                    generalize hAL : ((T.filter fun g => ltB (K g) (K f)) ++ f :: (T.filter fun g => ltB (K f) (K g))) = AL at *
                    have HR := Lib.hid hR
                    clear hR hAL
                    obtain ⟨s9', c9, he9, -⟩ := hO9.at
                    subst he9
                    have HRM := Lib.hid (show IM w (wr.setCell ⟨b6, 0, none⟩ (.slice s9' AL.length c9)) b6 AL from ⟨(HM8.out.rc.trans (hB9.mono (by have := HL6.out.1; omega))).setCell (p := ⟨b6, 0, none⟩) (by have := HM8.out.lt; show w.heap.size + 1 ≤ b6; omega) _, HM8.out.lt, _, heap_setCell_same wr b6 0 _ _ _ hb6, by
                      refine ⟨hO9.1, ?_⟩
                      rcases hO9.2 with hn | ⟨g, cap, cur, e, hbg, hg, rest⟩
                      · exact .inl hn
                      · exact .inr ⟨g, cap, cur, e, by have := HL6.out.1; omega, (Below.heap_setCell _ _ _ _ (by have := HL6.out.1; show g ≠ b6; omega)).trans hg, rest⟩⟩)
                    clear hO9 hne hB9 hb6 n0 n1
                    go_wp2_with fail
                    go_roundw
                    case rel => exact ⟨k + 1, AL, hlt, by push_cast; rfl, HR.out, HRM.out⟩
                    case measure => simp [RowKit.intOf]; omega
          · obtain rfl : k = l.length := by omega
            rw [List.take_length] at hi
            have HUN := Lib.hid (show Unl l from Classical.byContradiction fun h => by
              have := insA_unl.2 h
              rw [hi] at this
              cases this)
            have HTS := Lib.hid (insA_sort hi)
            have HM5 := Lib.hid hM
            clear hi hM HI
            go_wp2_with fail
            go_loopw [95] (fun i wz => ∃ k : Nat, k ≤ l.length ∧ i = .int .i64 (k : Int) ∧ (∀ f ∈ l.take k, underF f l = false) ∧ IM w wz b6 T) (fun i _ => l.length - (RowKit.intOf i).toNat)
            case atStart => exact ⟨0, Nat.zero_le _, rfl, fun f h => by simp at h, HM5.out⟩
            case round =>
              clear HM5
              obtain ⟨k, hk, rfl, hn, hM⟩ := hrel
              by_cases hlt : k < l.length
              · obtain ⟨f, hf⟩ : ∃ f, l[k]? = some f := ⟨l[k], List.getElem?_eq_getElem hlt⟩
                obtain ⟨g, o, rfl, hgw, q0, q1⟩ := HF.out k f hf
                replace q0 := (hM.rc.old.cell (p := ⟨g, o + k * 2, none⟩) hgw).trans q0
                replace q1 := (hM.rc.old.cell (p := ⟨g, o + k * 2 + 1, none⟩) hgw).trans q1
                have HM8 := Lib.hid (hM.keep ((Below.refl _ _).alloc (Nat.le_refl _) (.cells #[.string f.1, .string f.2] 34)))
                have HZ8 := Lib.hid (show (wr.alloc (.cells #[.string f.1, .string f.2] 34)).heap.size = wr.heap.size + 1 by simp)
                have HN8 := Lib.hid (show (wr.alloc (.cells #[.string f.1, .string f.2] 34)).cell? ⟨wr.heap.size, 0, none⟩ = some (.string f.1) by simp only [World.cell?, heap_alloc_new]; rfl)
                have HN := Lib.hid hn
                have HFX := Lib.hid hf
                clear hn hM hf
                go_wp2_with fail
                clear q0 q1
                generalize hW8 : wr.alloc (.cells #[.string f.1, .string f.2] 34) = W8 at *
                clear hW8
                generalize wr.heap.size = b8 at *
                go_loopw [101] (fun i wz => ∃ m : Nat, m ≤ l.length ∧ i = .int .i64 (m : Int) ∧ (∀ g ∈ l.take m, aheadL (K f) (K g) = false) ∧ Below W8.heap.size W8 wz) (fun i _ => l.length - (RowKit.intOf i).toNat)
                case atStart => exact ⟨0, Nat.zero_le _, rfl, fun g h => by simp at h, Below.refl _ _⟩
                case round =>
                  obtain ⟨m, hm, rfl, hn, hB⟩ := hrel
                  have HNN := Lib.hid hn
                  by_cases hlt2 : m < l.length
                  · obtain ⟨x, hx⟩ : ∃ x, l[m]? = some x := ⟨l[m], List.getElem?_eq_getElem hlt2⟩
                    obtain ⟨g', o', e', hgw', q0, q1⟩ := HF.out m x hx
                    cases e'
                    have hold := (HM8.out.keep hB).rc.old
                    replace q0 := (hold.cell (p := ⟨g, o + m * 2, none⟩) hgw).trans q0
                    replace q1 := (hold.cell (p := ⟨g, o + m * 2 + 1, none⟩) hgw).trans q1
                    have n0 := Sx.keep_cell ((Below.refl wr.heap.size wr).alloc (Nat.le_refl _) (.cells #[.string x.1, .string x.2] 34)) (Sx.keep_cell hB HN8.out)
                    have hB2 := hB.alloc hB.size (.cells #[.string x.1, .string x.2] 34)
                    have hpf := (badF_none.1 HB.out f (List.mem_of_getElem? HFX.out)).1
                    have hpx := (badF_none.1 HB.out x (List.mem_of_getElem? hx)).1
                    have hah := ahead5_any f.1 x.1 hpf hpx (by have := hs f (List.mem_of_getElem? HFX.out); omega) (by have := hs x (List.mem_of_getElem? hx); omega) (wr.alloc (.cells #[.string x.1, .string x.2] 34))
                    have HB2 := Lib.hid hB2
                    have HX := Lib.hid hx
                    clear hB2 hB hold hpf hpx hx hn
                    cases hc : aheadL f.1.data.toList x.1.data.toList with
                    | true =>
                      have HR := Lib.hid (show makeP l = .error 12 by
                        unfold makeP
                        rw [if_neg h32, HB.out]
                        show (if ¬ Unl l then _ else _) = _
                        rw [if_neg (by have := HUN.out; simpa using this), if_pos (by
                          unfold clashF
                          rw [List.any_eq_true]
                          refine ⟨f, List.mem_of_getElem? HFX.out, ?_⟩
                          rw [List.any_eq_true]
                          exact ⟨x, List.mem_of_getElem? HX.out, hc⟩)])
                      rw [hc] at hah
                      clear hc
                      go_wp2_with (go_at_call 67; with_reducible refine hah.mono ?_; clear hah; rintro e w4 ⟨he, hb4⟩; subst he; have HX7 := Lib.hid ((HM8.out.keep (HB2.out.trans (hb4.mono HB2.out.size))).rc); obtain ⟨c0, f0⟩ := HX7.out.c)
                      (try simp only [Exit.inBlock, Exit.then])
                      exact HX7.out.errS5 HR.out rfl rfl
                    | false =>
                      have HR := Lib.hid (show ∀ y ∈ l.take (m + 1), aheadL (K f) (K y) = false by
                        intro y hy
                        rw [take_snoc HX.out] at hy
                        rcases List.mem_append.1 hy with hy | hy
                        · exact HNN.out y hy
                        · simp at hy
                          subst hy
                          exact hc)
                      rw [hc] at hah
                      clear hc
                      go_wp2_with (go_at_call 67; with_reducible refine hah.mono ?_; clear hah; rintro e w4 ⟨he, hb4⟩; subst he; have HX7 := Lib.hid (HB2.out.trans (hb4.mono HB2.out.size)))
                      go_roundw
                      case rel => exact ⟨m + 1, hlt2, by push_cast; rfl, HR.out, HX7.out⟩
                      case measure => simp [RowKit.intOf]; omega
                  · obtain rfl : m = l.length := by omega
                    rw [List.take_length] at hn
                    have HR := Lib.hid (show ∀ y ∈ l.take (k + 1), underF y l = false by
                      intro y hy
                      rw [take_snoc HFX.out] at hy
                      rcases List.mem_append.1 hy with hy | hy
                      · exact HN.out y hy
                      · simp at hy
                        subst hy
                        exact under_none hn)
                    have HM9 := Lib.hid (HM8.out.keep hB)
                    clear hn hB
                    go_wp2_with fail
                    go_roundw
                    case rel => exact ⟨k + 1, hlt, by push_cast; rfl, HR.out, HM9.out⟩
                    case measure => simp [RowKit.intOf]; omega
              · obtain rfl : k = l.length := by omega
                rw [List.take_length] at hn
                have HR := Lib.hid (show makeP l = .ok T by
                  have hcl : clashF l = false := by
                    unfold clashF
                    rw [List.any_eq_false]
                    intro f hf
                    have := hn f hf
                    unfold underF at this
                    rw [this]
                    decide
                  rw [HTS.out]
                  exact make_of h32 HB.out HUN.out hcl (sort_srt l) (sort_perm l))
                obtain ⟨v6, hb6, hO6⟩ := hM.blk
                obtain ⟨s6, c6, rfl, -⟩ := hO6.at
                obtain ⟨d6, z6⟩ := blk_cell hb6
                obtain ⟨c0, f0⟩ := hM.rc.c
                have HX8 := Lib.hid hM.rc
                have HO6 := Lib.hid hO6
                have HL6 := Lib.hid hM.lt
                clear hn hM hb6 hO6
                go_wp2_with fail
                (try simp only [Exit.inBlock, Exit.then])
                exact HX8.out.ok5 HR.out rfl rfl (by have := HL6.out; omega) HO6.out
end Tr
end Go.Proofs.YtbefgplaaghlbaaGreatDoor
