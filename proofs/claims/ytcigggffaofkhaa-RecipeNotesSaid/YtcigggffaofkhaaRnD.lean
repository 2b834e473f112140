/-
  Walk: the law RecipeNotes.
-/
import Derived.Test.YtcigggffaofkhaaRnC
namespace Go.Proofs.Ytcigggffaofkhaa
open Go.RowKit
namespace Rc

/-- what the loop over the tokens keeps -/
structure NW (s : ByteArray) (n : List UInt8) (W w0 wr : World) (O : ByteArray) (p i : Nat) : Prop where
  below : Below W.heap.size W wr
  keep : Below w0.heap.size w0 wr
  chain : ∃ ts xs, Chain s.data.toList 0 ts p ∧ ts.length = xs.length ∧ ts.length = i ∧ (∀ x ∈ xs, x ∈ oddL n) ∧ O.data.toList = n ++ spread s.data.toList ts xs
  le : p ≤ s.size
theorem NW.size {s : ByteArray} {n : List UInt8} {W w0 wr : World} {O : ByteArray} {p i : Nat} (L : NW s n W w0 wr O p i) (hn : n.length ≤ 104) (hs : s.size ≤ 4096) : O.size ≤ 500000 ∧ i ≤ 4096 := by
  obtain ⟨ts, xs, hc, hl, rfl, hx, ho⟩ := L.chain
  have h1 := hc.len
  have h2 := L.le
  have h3 := spread_le s.data.toList hc xs (fun x h => by
    have := hx x h
    simp only [List.mem_cons, List.not_mem_nil, or_false] at this
    rcases this with rfl | rfl | rfl | rfl
    · decide
    · decide
    · decide
    · exact hn)
  have h4 := congrArg List.length ho
  rw [List.length_append, ← Lib.size_eq O] at h4
  omega
theorem NW.next {s : ByteArray} {n : List UInt8} {W w0 wr wr' : World} {O : ByteArray} {p i : Nat} (L : NW s n W w0 wr O p i) {t : Tk} (ho : tokAt s.data.toList p = .ok t) (hk : t.kind ≠ 0) {x : ByteArray} (hx : x.data.toList ∈ oddL n) (hb : Below wr.heap.size wr wr') :
    NW s n W w0 wr' (O ++ s.extract t.pl t.fin ++ x) t.fin (i + 1) ∧ p < t.fin ∧ t.pl ≤ t.fin ∧ t.fin ≤ s.size := by
  obtain ⟨ts, xs, hc, hl, rfl, hxs, hO⟩ := L.chain
  have h1 := (tok_prog ho).2 hk
  have h2 := (tok_tv L.le ho).fin
  have h3 := (tokP_prog (tokAt_pl ho)).1
  refine ⟨⟨L.below.trans (hb.mono L.below.size), L.keep.trans (hb.mono L.keep.size), ⟨ts ++ [t], xs ++ [x.data.toList], hc.snoc ho hk, by simp [hl], by simp, fun y hy => ?_, ?_⟩, h2⟩, h1, h3, h2⟩
  · rw [List.mem_append, List.mem_singleton] at hy
    rcases hy with hy | rfl
    · exact hxs y hy
    · exact hx
  · rw [spread_snoc _ _ _ _ _ hl, ByteArray.data_append, Array.toList_append, ByteArray.data_append, Array.toList_append, hO, ext_word]
    unfold bodyT
    simp only [List.append_assoc]
theorem odd_at {nn : ByteArray} : ∀ k, k ≤ 3 → ∃ x : ByteArray, [Value.string ⟨#[32]⟩, .string ⟨#[10]⟩, .string ⟨#[9, 35, 32, 105, 110, 10]⟩, .string nn][k]? = some (.string x) ∧ x.data.toList ∈ oddL nn.data.toList ∧ (x.size ≤ 6 ∨ x = nn)
  | 0, _ => ⟨⟨#[32]⟩, rfl, by simp, .inl (by decide)⟩
  | 1, _ => ⟨⟨#[10]⟩, rfl, by simp, .inl (by decide)⟩
  | 2, _ => ⟨⟨#[9, 35, 32, 105, 110, 10]⟩, rfl, by simp, .inl (by decide)⟩
  | 3, _ => ⟨nn, rfl, by simp, .inr rfl⟩
  | k + 4, h => by omega
theorem note_str {note : ByteArray} : ((⟨#[32, 35]⟩ ++ note) ++ ⟨#[10, 32]⟩ : ByteArray).data.toList = [32, 35] ++ note.data.toList ++ [10, 32] := by
  rw [ByteArray.data_append, Array.toList_append, ByteArray.data_append, Array.toList_append]
theorem and3 (x : Int) : ∃ k : Nat, k ≤ 3 ∧ bits BinOp.and IntKind.i64 x 3 = k := by
  have h : (BitVec.ofInt 64 x &&& 3#64).toNat ≤ 3 := by
    rw [BitVec.toNat_and]
    exact Nat.and_le_right
  refine ⟨(BitVec.ofInt 64 x &&& 3#64).toNat, h, ?_⟩
  show IntKind.i64.wrap ((BitVec.ofInt 64 x &&& 3#64).toNat : Int) = _
  exact IntWalk.i64_in _ (by omega)
set_option maxHeartbeats 1000000 in
set_option maxRecDepth 100000 in
theorem noteslaw_any (s note : ByteArray) (sl : Option Addr) (n cap : Nat) (W : World) (hsep : ∀ i, i < n → ∃ b o x, sl = some ⟨b, o, none⟩ ∧ b < W.heap.size ∧ W.cell? ⟨b, o + i, none⟩ = some (.int .i64 x)) :
    Calls Try.prog 5 #[.string s, .slice sl n cap, .string note] W fun e W' => e = .returned (.bool true) ∧ Below W.heap.size W W' := by
  have h1 := alive_any W
  by_cases hs : s.size ≤ 4096
  rotate_left
  · have k1 : decide ((4096 : Int) < s.size) = true := by simp; omega
    clear hs hsep
    go_enter Try.func5, Try.ntmps5
    go_wp2_with fail
    refine h1.mono ?_
    rintro e w1 ⟨rfl, hb1⟩
    clear h1
    go_wp2_with fail
    go_ret
    exact ⟨rfl, hb1⟩
  have k1 : decide ((4096 : Int) < s.size) = false := by simp; omega
  by_cases hn : note.size ≤ 100
  rotate_left
  · have k2 : decide ((100 : Int) < note.size) = true := by simp; omega
    clear hs hn hsep
    go_enter Try.func5, Try.ntmps5
    go_wp2_with fail
    refine h1.mono ?_
    rintro e w1 ⟨rfl, hb1⟩
    clear h1
    go_wp2_with fail
    go_ret
    exact ⟨rfl, hb1⟩
  have k2 : decide ((100 : Int) < note.size) = false := by simp; omega
  have HS := Lib.hid hsep
  clear hsep
  go_enter Try.func5, Try.ntmps5
  go_wp2_with fail
  refine h1.mono ?_
  rintro e w1 ⟨rfl, hb1⟩
  clear h1
  go_wp2_with fail
  go_loop [7] (fun i => ∃ k : Nat, k ≤ note.size ∧ i = .int .i64 k ∧ ∀ (j : Nat) (hj : j < note.size), j < k → note[j] ≠ 10) (fun i => note.size - (intOf i).toNat)
  case atStart => exact ⟨0, Nat.zero_le _, rfl, fun j hj h => by omega⟩
  case round =>
    obtain ⟨k, hk, rfl, hnn⟩ := hrel
    have HN := Lib.hid hnn
    have hk1 : IntKind.i64.wrap ((k : Int) + 1) = (k : Int) + 1 := IntWalk.i64_in _ (by omega)
    clear hnn
    by_cases hk2 : k < note.size
    · have c2 : decide ((k : Int) < note.size) = true := by simp; omega
      by_cases h10 : note[k] = 10
      · have c3 : ((note[k].toNat : Int) == 10) = true := by rw [h10]; rfl
        clear h10
        go_wp2_with fail
        go_ret
        exact ⟨rfl, hb1⟩
      · have c3 : ((note[k].toNat : Int) == 10) = false := by
          rw [beq_eq_false_iff_ne]
          intro e
          apply h10
          apply UInt8.toNat_inj.1
          have : note[k].toNat = 10 := by omega
          rw [this]; rfl
        have HNN := Lib.hid (show ∀ (j : Nat) (hj : j < note.size), j < k + 1 → note[j] ≠ 10 from fun j hj hjk => by
          by_cases h : j < k
          · exact HN.out j hj h
          · obtain rfl : j = k := by omega
            exact h10)
        clear h10
        go_wp2_with fail
        go_round
        case rel => exact ⟨k + 1, by omega, by go_num, HNN.out⟩
        case measure => simp [intOf]; omega
    · have c2 : decide ((k : Int) < note.size) = false := by simp; omega
      have HNT := Lib.hid (show ∀ c ∈ note.data.toList, c ≠ 10 from fun c hc => by
        obtain ⟨j, hj⟩ := List.mem_iff_getElem?.1 hc
        have hz := Lib.size_eq note
        have hj2 := (List.getElem?_eq_some_iff.1 hj).1
        have := HN.out j (by omega) (by omega)
        have e : note.data.toList[j] = note[j]'(by omega) := rfl
        rw [List.getElem?_eq_getElem hj2, e] at hj
        cases hj
        exact this)
      clear HN hk1 hk
      go_wp2_with fail
      have hst := note_str (note := note)
      have hsepN := sep_note (n := note.data.toList) HNT.out
      have hlN : ((⟨#[32, 35]⟩ ++ note ++ ⟨#[10, 32]⟩ : ByteArray).data.toList).length ≤ 104 := by
        rw [hst]
        have := Lib.size_eq note
        simp only [List.length_append, List.length_cons, List.length_nil]
        omega
      rw [← hst] at hsepN
      clear hst
      have hsz := Lib.size_eq (⟨#[32, 35]⟩ ++ note ++ ⟨#[10, 32]⟩ : ByteArray)
      generalize (⟨#[32, 35]⟩ ++ note ++ ⟨#[10, 32]⟩ : ByteArray) = nn at *
      have hV := VC.made w1 [.string ⟨#[32]⟩, .string ⟨#[10]⟩, .string ⟨#[9, 35, 32, 105, 110, 10]⟩, .string nn] 35
      change VC (w1.alloc (.cells #[.string ⟨#[32]⟩, .string ⟨#[10]⟩, .string ⟨#[9, 35, 32, 105, 110, 10]⟩, .string nn] 35)) _ _ at hV
      have HSEP := Lib.hid (hsepN)
      have HL0 := Lib.hid (show NW s nn.data.toList W (w1.alloc (.cells #[.string ⟨#[32]⟩, .string ⟨#[10]⟩, .string ⟨#[9, 35, 32, 105, 110, 10]⟩, .string nn] 35)) (w1.alloc (.cells #[.string ⟨#[32]⟩, .string ⟨#[10]⟩, .string ⟨#[9, 35, 32, 105, 110, 10]⟩, .string nn] 35)) nn 0 0 from
        ⟨hb1.alloc hb1.size _, Below.refl _ _, ⟨[], [], .nil _, rfl, rfl, fun x hx => by simp at hx, by simp [spread]⟩, Nat.zero_le _⟩)
      have HV := Lib.hid hV
      have HNL := Lib.hid (And.intro hlN hsz)
      clear hsepN hlN hsz hV HNT hb1
      generalize w1.alloc (.cells #[.string ⟨#[32]⟩, .string ⟨#[10]⟩, .string ⟨#[9, 35, 32, 105, 110, 10]⟩, .string nn] 35) = w2 at *
      generalize w1.heap.size = g at *
      go_loopw [9, 10, 11] (fun o a i wr => ∃ (O : ByteArray) (p j : Nat), o = .string O ∧ a = .int .i64 p ∧ i = .int .i64 j ∧ NW s nn.data.toList W w2 wr O p j) (fun _ a _ _ => s.size - (intOf a).toNat)
      case atStart => exact ⟨_, _, _, rfl, rfl, rfl, HL0.out⟩
      case round =>
        obtain ⟨O, p, j, rfl, rfl, rfl, L⟩ := hrel
        clear HL0
        have hnx := rnext_any s p wr L.le (by omega)
        obtain ⟨hO, hj⟩ := L.size HNL.out.1 hs
        have HL := Lib.hid L
        clear L
        go_wp2_with fail
        refine hnx.mono ?_
        intro e w3 hx
        obtain ⟨hb3, hx⟩ := hx
        cases ho : tokAt s.data.toList p with
        | bad q =>
          rw [ho] at hx
          obtain ⟨k', σ, f, -, rfl⟩ := hx
          have HB := Lib.hid (HL.out.below.trans ((hb3.alloc hb3.size (.cells #[.int .i64 k', .string σ, .int .i64 q, .int .i64 f] 37)).mono HL.out.below.size))
          clear hnx hb3 ho
          go_wp2_with fail
          go_ret
          exact ⟨rfl, HB.out⟩
        | ok t =>
          rw [ho] at hx
          subst hx
          have HO := Lib.hid ho
          have hV := VC.made w3 [.int .i64 t.kind, .string t.s, .int .i64 t.pl, .int .i64 t.fin] 37
          have hbA := hb3.alloc hb3.size (.cells #[.int .i64 t.kind, .string t.s, .int .i64 t.pl, .int .i64 t.fin] 37)
          change VC (w3.alloc (.cells #[.int .i64 t.kind, .string t.s, .int .i64 t.pl, .int .i64 t.fin] 37)) _ _ at hV
          have d0 := hV.cs 0 _ rfl
          have d2 := hV.cs 2 _ rfl
          have d3 := hV.cs 3 _ rfl
          by_cases hk0 : t.kind = 0
          · have m1 : ((t.kind : Int) == 0) = true := by simp [hk0]
            have HBA := Lib.hid (HL.out.below.trans (hbA.mono HL.out.below.size))
            by_cases hO4 : O.size ≤ 4096
            rotate_left
            · have m2 : decide ((4096 : Int) < O.size) = true := by simp; omega
              clear hnx hb3 ho hV hbA hk0
              go_wp2_with fail
              go_ret
              exact ⟨rfl, HBA.out⟩
            · have m2 : decide ((4096 : Int) < O.size) = false := by simp; omega
              obtain ⟨ts, xs, hc1, hc2, -, hc3, hc4⟩ := HL.out.chain
              obtain ⟨he1, he2⟩ := notes_end hs hO4 hc1 ho hk0 hc2 (fun x hx => odd_sep HSEP.out x (hc3 x hx)) HSEP.out hc4
              have hfew := out_few (s := s.data.toList)
              have h2 := parse_any s (w3.alloc (.cells #[.int .i64 t.kind, .string t.s, .int .i64 t.pl, .int .i64 t.fin] 37))
              have h3 := fun w => parse_any O w
              generalize parseP s.data.toList = o1 at *
              generalize parseP O.data.toList = o2 at *
              have HE1 := Lib.hid he1
              have m3 : ((outT o1).2.2 == (outT o2).2.2) = true := by rw [he2]; exact beq_self_eq_true _
              clear hk0 hnx hb3 ho hV hbA hc1 hc2 hc3 hc4 he1 he2 HL HSEP HNL HV HS HO
              go_wp2_with fail
              generalize w3.alloc (.cells #[.int .i64 t.kind, .string t.s, .int .i64 t.pl, .int .i64 t.fin] 37) = w4 at *
              clear d0 d2 d3
              refine h2.mono ?_
              intro e w5 hpa
              obtain ⟨k1', σ1, sl1, n1, c1, k2', σ2, sl2, n2, c2', sl', n', c', hb2, rfl, hr⟩ := pt_of hpa
              have h3 := h3 (w5.alloc (.cells #[.int .i64 k1', .string σ1, .slice sl1 n1 c1, .int .i64 k2', .string σ2, .slice sl2 n2 c2', .slice sl' n' c'] 29))
              have hV := VC.made w5 [.int .i64 k1', .string σ1, .slice sl1 n1 c1, .int .i64 k2', .string σ2, .slice sl2 n2 c2', .slice sl' n' c'] 29
              have hA : Below w5.heap.size w5 (w5.alloc (.cells #[.int .i64 k1', .string σ1, .slice sl1 n1 c1, .int .i64 k2', .string σ2, .slice sl2 n2 c2', .slice sl' n' c'] 29)) := (Below.refl _ _).alloc (Nat.le_refl _) _
              have HR := Lib.hid hr
              have HV := Lib.hid hV
              have HA := Lib.hid hA
              have HB := Lib.hid (HBA.out.trans (hb2.mono HBA.out.size))
              clear h2 hpa hb2 hr hV hA HBA
              go_wp2_with fail
              refine h3.mono ?_
              intro e w6 hpa
              obtain ⟨k1'', σ1', sl1', n1', c1'', k2'', σ2', sl2', n2', c2'', sl'', n'', c'', hb3, rfl, hr⟩ := pt_of hpa
              have hA3 := HA.out.trans (hb3.mono HA.out.size)
              have hA4 : Below w6.heap.size w6 (w6.alloc (.cells #[.int .i64 k1'', .string σ1', .slice sl1' n1' c1'', .int .i64 k2'', .string σ2', .slice sl2' n2' c2'', .slice sl'' n'' c''] 29)) := (Below.refl _ _).alloc (Nat.le_refl _) _
              have hV := (HV.out.keep hb3).keep hA4
              have a0 := hV.cs 0 _ rfl
              have a1 := hV.cs 1 _ rfl
              have a2 := hV.cs 2 _ rfl
              have a3 := hV.cs 3 _ rfl
              have a4 := hV.cs 4 _ rfl
              have a5 := hV.cs 5 _ rfl
              have a6 := hV.cs 6 _ rfl
              rw [← HE1.out] at hr
              have hc := rsames_any hfew (w6.alloc (.cells #[.int .i64 k1'', .string σ1', .slice sl1' n1' c1'', .int .i64 k2'', .string σ2', .slice sl2' n2' c2'', .slice sl'' n'' c''] 29)) _ _ _ _ (fun b hb => Nat.lt_of_lt_of_le hb.2 (hA3.trans (hA4.mono hA3.size)).size) (fun b hb => Nat.lt_of_lt_of_le hb.2 hA4.size) (HR.out.keep (fun b hb => hb.2) (hA3.trans (hA4.mono hA3.size))) (hr.keep (fun b hb => hb.2) hA4)
              have HB := Lib.hid ((HB.out.trans (hA3.mono HB.out.size)).trans (hA4.mono (Nat.le_trans HB.out.size hA3.size)))
              clear h3 hpa hr hV hA3 hA4 hb3 HR HV HA
              go_wp2_with fail
              refine hc.mono ?_
              rintro e w7 ⟨rfl, hb4⟩
              have HB := Lib.hid (HB.out.trans (hb4.mono HB.out.size))
              clear hc hb4 a0 a1 a2 a3 a4 a5 a6
              go_wp2_with fail
              go_ret
              exact ⟨rfl, HB.out⟩
          · have m1 : ((t.kind : Int) == 0) = false := by rw [beq_eq_false_iff_ne]; omega
            have hVo := HV.out.keep (HL.out.keep.trans (hbA.mono HL.out.keep.size))
            have hjw : IntKind.i64.wrap ((j : Int) + 1) = (j : Int) + 1 := IntWalk.i64_in _ (by omega)
            by_cases hjn : j < n
            · obtain ⟨b, o, x, rfl, hbl, hcx⟩ := HS.out j hjn
              have hcx := ((HL.out.below.trans (hbA.mono HL.out.below.size)).cell (p := ⟨b, o + j, none⟩) hbl).trans hcx
              obtain ⟨k3, hk3, hbits⟩ := and3 x
              clear hnx hb3 ho hV
              go_wp2_with fail
              clear hcx hbits
              obtain ⟨xb, hx1, hx2, hx3⟩ := odd_at (nn := nn) k3 (by omega)
              have hod := hVo.cs k3 _ hx1
              have HNX := Lib.hid (HL.out.next HO.out hk0 hx2 hbA)
              obtain ⟨-, hp1, hp2, hp3⟩ := HL.out.next HO.out hk0 hx2 hbA
              have q1 : (t.pl : Int) ≤ t.fin := by omega
              have q2 : (t.fin : Int) ≤ s.size := by omega
              have q3 : (0 : Int) ≤ t.pl := by omega
              have hxs : xb.size ≤ 104 := by
                have h9 := HNL.out
                rcases hx3 with h | h
                · omega
                · rw [h]; omega
              have hes : (s.extract t.pl t.fin).size = min t.fin s.size - t.pl := by rw [ByteArray.size_extract]
              have z1 : O.size + (s.extract t.pl t.fin).size ≤ 9223372036854775807 := by rw [hes]; omega
              have z2 : O.size + (min t.fin s.size - t.pl) ≤ 9223372036854775807 := by omega
              have z3 : (O ++ s.extract t.pl t.fin).size + xb.size ≤ 9223372036854775807 := by rw [ByteArray.size_append, hes]; omega
              have z4 : O.size + (min t.fin s.size - t.pl) + xb.size ≤ 9223372036854775807 := by omega
              have z5 : O.size + (s.extract t.pl t.fin).size + xb.size ≤ 9223372036854775807 := by rw [hes]; omega
              clear hx1 hx2 hVo hbA hx3 hes
              generalize w3.alloc (.cells #[.int .i64 t.kind, .string t.s, .int .i64 t.pl, .int .i64 t.fin] 37) = w4 at *
              go_quiet (fail)
              replace hod : (w4.drewN nq).cell? ⟨g, k3, none⟩ = some (.string xb) := hod
              replace d0 : (w4.drewN nq).cell? ⟨w3.heap.size, 0, none⟩ = some (.int .i64 t.kind) := d0
              replace d2 : (w4.drewN nq).cell? ⟨w3.heap.size, 2, none⟩ = some (.int .i64 t.pl) := d2
              replace d3 : (w4.drewN nq).cell? ⟨w3.heap.size, 3, none⟩ = some (.int .i64 t.fin) := d3
              have HN2 := Lib.hid (show NW s nn.data.toList W w2 (w4.drewN nq) (O ++ s.extract t.pl t.fin ++ xb) t.fin (j + 1) from
                ⟨below_drewN HNX.out.1.below nq, below_drewN HNX.out.1.keep nq, HNX.out.1.chain, HNX.out.1.le⟩)
              clear HNX
              generalize w4.drewN nq = w5 at *
              go_wp2_with fail
              go_roundw
              case rel => exact ⟨_, _, _, rfl, rfl, by go_num, HN2.out⟩
              case measure => simp [intOf]; omega
            · clear hnx hb3 ho hV
              go_wp2_with fail
              obtain ⟨xb, hx1, hx2, hx3⟩ := odd_at (nn := nn) 0 (by omega)
              have hod := hVo.cs 0 _ hx1
              have HNX := Lib.hid (HL.out.next HO.out hk0 hx2 hbA)
              obtain ⟨-, hp1, hp2, hp3⟩ := HL.out.next HO.out hk0 hx2 hbA
              have q1 : (t.pl : Int) ≤ t.fin := by omega
              have q2 : (t.fin : Int) ≤ s.size := by omega
              have q3 : (0 : Int) ≤ t.pl := by omega
              have hxs : xb.size ≤ 104 := by
                have h9 := HNL.out
                rcases hx3 with h | h
                · omega
                · rw [h]; omega
              have hes : (s.extract t.pl t.fin).size = min t.fin s.size - t.pl := by rw [ByteArray.size_extract]
              have z1 : O.size + (s.extract t.pl t.fin).size ≤ 9223372036854775807 := by rw [hes]; omega
              have z2 : O.size + (min t.fin s.size - t.pl) ≤ 9223372036854775807 := by omega
              have z3 : (O ++ s.extract t.pl t.fin).size + xb.size ≤ 9223372036854775807 := by rw [ByteArray.size_append, hes]; omega
              have z4 : O.size + (min t.fin s.size - t.pl) + xb.size ≤ 9223372036854775807 := by omega
              have z5 : O.size + (s.extract t.pl t.fin).size + xb.size ≤ 9223372036854775807 := by rw [hes]; omega
              clear hx1 hx2 hVo hbA hx3 hes
              generalize w3.alloc (.cells #[.int .i64 t.kind, .string t.s, .int .i64 t.pl, .int .i64 t.fin] 37) = w4 at *
              go_quiet (fail)
              replace hod : (w4.drewN nq).cell? ⟨g, 0, none⟩ = some (.string xb) := hod
              replace d0 : (w4.drewN nq).cell? ⟨w3.heap.size, 0, none⟩ = some (.int .i64 t.kind) := d0
              replace d2 : (w4.drewN nq).cell? ⟨w3.heap.size, 2, none⟩ = some (.int .i64 t.pl) := d2
              replace d3 : (w4.drewN nq).cell? ⟨w3.heap.size, 3, none⟩ = some (.int .i64 t.fin) := d3
              have HN2 := Lib.hid (show NW s nn.data.toList W w2 (w4.drewN nq) (O ++ s.extract t.pl t.fin ++ xb) t.fin (j + 1) from
                ⟨below_drewN HNX.out.1.below nq, below_drewN HNX.out.1.keep nq, HNX.out.1.chain, HNX.out.1.le⟩)
              clear HNX
              generalize w4.drewN nq = w5 at *
              go_wp2_with fail
              go_roundw
              case rel => exact ⟨_, _, _, rfl, rfl, by go_num, HN2.out⟩
              case measure => simp [intOf]; omega
end Rc
end Go.Proofs.Ytcigggffaofkhaa
