/-
  Walk of the reference: Disassemble.
-/
import Derived.Test.YtipcockcndnipaaGreatDoorMAwD
namespace Go.Proofs.YtipcockcndnipaaGreatDoor
open Go.RowKit
namespace Aw
open As

/-- the text so far, a row of bytes; the instruction's block -/
structure EZ (W : World) (h : Nat) (x : Cd.I) (l : List UInt8) (N : Nat) (v : Value) (w : World) : Prop where
  own : w.ownsRow W.heap.size 5 1 v l.length (u8s l)
  o : w.heap[h]? = some (.cells #[.int .i64 x.op, .int .i64 x.n, .string x.s] 38 (0, 0))
  below : Below W.heap.size W w
  len : l.length ≤ N
/-- the text so far -/
structure EX (W : World) (l : List UInt8) (v : Value) (w : World) : Prop where
  own : w.ownsRow W.heap.size 5 1 v l.length (u8s l)
  below : Below W.heap.size W w
section
variable {W w w' : World} {h N : Nat} {x : Cd.I} {l : List UInt8} {v : Value}
theorem EZ.low (g : EZ W h x l N v w) (hb : Below w.heap.size w w') : EZ W h x l N v w' :=
  ⟨own_block g.own fun k hk => hb.block k (g.own.lt k hk).2, (hb.block _ (Array.getElem?_eq_some_iff.1 g.o).1).trans g.o, g.below.trans (hb.mono g.below.size), g.len⟩
theorem EZ.env (g : EZ W h x l N v w) (hE : Env W) : Env w := hE.below g.below
theorem EX.start (g : EX W l v w) (hl : l.length ≤ N) (x : Cd.I) : EZ W w.heap.size x l N v (w.alloc (.cells #[.int .i64 x.op, .int .i64 x.n, .string x.s] 38)) := by
  have hb : Below w.heap.size w (w.alloc (.cells #[.int .i64 x.op, .int .i64 x.n, .string x.s] 38)) := (Below.refl _ _).alloc (Nat.le_refl _) _
  exact ⟨own_block g.own fun k hk => hb.block k (g.own.lt k hk).2, heap_alloc_new w _, g.below.trans (hb.mono g.below.size), hl⟩
theorem EZ.end (g : EZ W h x l N v w) {l' : List UInt8} (e : l = l') : EX W l' v w := e ▸ ⟨g.own, g.below⟩
theorem EZ.grown (g : EZ W h x l N v w) {v' : Value} {s : List UInt8} (hs : s.length ≤ 1000) (hown : w'.ownsRow W.heap.size 5 1 v' (l ++ s).length (u8s (l ++ s))) (hg : w.grownBy w' v.ownBlock) : EZ W h x (l ++ s) (N + 1000) v' w' := by
  refine ⟨hown, (hg.block h (Array.getElem?_eq_some_iff.1 g.o).1 fun e => ?_).trans g.o, g.below.grown hg g.below.size (fun k hk => (g.own.lt k hk).1), ?_⟩
  · obtain ⟨cs, hcs⟩ := own_type g.own e.symm
    rw [g.o] at hcs
    injection hcs with hcs
    injection hcs with _ hcs _
    exact absurd hcs (by decide)
  · have := g.len
    rw [List.length_append]
    omega
theorem EZ.app (g : EZ W h x l N v w) (s : ByteArray) (hs : s.size ≤ 1000) (hN : decide (N + 1000 ≤ 100000000) = true) {ops : Array Oper} {rest : List Oper} {o : Oper} {a : Act} {Q : Exit → Act → World → Prop} (hgd : o.guard = none) (sl xo : Operand)
    (ho : o.op = .call { callee := .builtin .append, args := #[sl, xo], argTypes := #[34, 9] }) (hv : a.eval sl = v) (hx : a.eval xo = .string s)
    (hK : ∀ v' w', EZ W h x (l ++ s.data.toList) (N + 1000) v' w' → wpList Tryz.prog ops Q rest (a.put o.dst v') w') : wpList Tryz.prog ops Q (o :: rest) a w := by
  obtain ⟨i0, hi0, hz0, hz1, hz2⟩ := info_parts info_u8
  have hN' := of_decide_eq_true hN
  have hl := g.len
  have hsz : s.size = s.data.toList.length := Lib.size_eq s
  refine Lib.wpList_append_own_string w hgd sl xo _ _ ho W.heap.size 5 i0 Tryz.underlying34 Tryz.underlying9 hi0 hz0 hz1 hz2 v l.length _ hv g.own s hx (by unfold maxLen; omega) (by omega) g.below.size ?_
  intro v' w2 hown2 hg2 _
  refine hK v' w2 (g.grown (by omega) ?_ hg2)
  rw [List.length_append, ← hsz, u8s_app]
  exact hown2
theorem EZ.nl (g : EZ W h x l N v w) (hN : decide (N + 1000 ≤ 100000000) = true) {ops : Array Oper} {rest : List Oper} {o : Oper} {a : Act} {Q : Exit → Act → World → Prop} (hgd : o.guard = none) (sl xo : Operand)
    (ho : o.op = .call { callee := .builtin .append, args := #[sl, xo], argTypes := #[34, 34] }) (hv : a.eval sl = v) (hx : a.eval xo = .slice (some ⟨w.heap.size, 0, none⟩) 1 1)
    (hK : ∀ v' w', EZ W h x (l ++ [10]) (N + 1000) v' w' → wpList Tryz.prog ops Q rest (a.put o.dst v') w') : wpList Tryz.prog ops Q (o :: rest) a (w.alloc (.cells #[.int .u8 10] 5)) := by
  obtain ⟨i0, hi0, hz0, hz1, hz2⟩ := info_parts info_u8
  have hN' := of_decide_eq_true hN
  have hl := g.len
  have g1 := g.low (w' := w.alloc (.cells #[.int .u8 10] 5)) ((Below.refl _ _).alloc (Nat.le_refl _) _)
  refine wpList_append_own _ hgd sl xo 34 ho W.heap.size 5 i0 _ 1 1 Tryz.underlying34 hi0 hz0 hz1 hz2 rfl (by decide) v l.length _ hv g1.own ⟨w.heap.size, 0, none⟩ 1 1 [.int .u8 10] hx rfl ?_ ?_ (by unfold maxLen; omega) (by omega) g1.below.size ?_
  · intro j q hj
    match j, hj with
    | 0, hj => simp at hj; subst hj; simp [Addr.add]
  · intro q hq; simp at hq; subst hq; rfl
  intro v' w2 hown2 hg2 _
  refine hK v' w2 (g1.grown (by decide) ?_ hg2)
  rw [List.length_append, u8s_app]
  exact hown2
end
set_option maxHeartbeats 8000000 in
set_option maxRecDepth 100000 in
theorem rdisassemble_any (p : List Cd.I) (v : Value) (W : World) (hP : Cd.PS W v p) (hE : Env W) :
    Calls Tryz.prog 14 #[v] W fun e W' => DQ W p e W' := by
  have hch := Cd.checkr_any p v W hP
  by_cases hc : (Cd.check p).2 = 0
  · have hsm : p.length ≤ 256 := by
      have h9 := hc
      unfold Cd.check at h9
      split at h9
      · cases h9
      · omega
    obtain ⟨sl, cap, rfl, hf⟩ := hP.form
    have HP := Lib.hid hP
    unfold Cd.CKV at hch
    rw [hc] at hch
    have HF := Lib.hid hf
    clear hf hP
    go_enter Tryz.func14, Tryz.ntmps14
    go_wp2_with (first
      | (go_at_call 24; refine hch.mono ?_; rintro e w1 ⟨rfl, hb1⟩; clear hch))
    go_loopw [6, 22] (fun kv i wr => ∃ (k : Nat) (v : Value), v = kv ∧ i = .int .i64 (k : Int) ∧ k ≤ p.length ∧ EX W (txL p k) v wr ∧ (txL p k).length ≤ k * 1000) (fun _ i _ => p.length - (intOf i).toNat)
    case atStart => exact ⟨0, _, rfl, rfl, Nat.zero_le _, by rw [tx_zero]; exact ⟨World.ownsRow_nil _ _ _ _, hb1⟩, by rw [tx_zero]; exact Nat.le_refl _⟩
    case round =>
      obtain ⟨k, v, rfl, rfl, hk, hZ, hL⟩ := hrel
      have hbW := hZ.below
      by_cases hlt2 : k < p.length
      · obtain ⟨x, hx⟩ : ∃ x, p[k]? = some x := ⟨p[k], List.getElem?_eq_getElem hlt2⟩
        obtain ⟨b, o, rfl, ha, h3⟩ := HF.out k x hx
        obtain ⟨c0, c1, c2⟩ := h3.below ha hbW
        obtain ⟨v1, hn0, hn1⟩ := ok_in hc HP.out hx
        have hR0 := EX.start hZ (N := 1000000) (by omega) x
        have HE := Lib.hid hE
        have HR0 := Lib.hid hR0
        have hT := fun w => Cd.takesr_any x.op w
        have hW := fun w => Cd.wordr_any x.op w
        have HSw := Lib.hid (show (Cd.wordB x.op).size ≤ 1000 from word_small x.op)
        have HX := Lib.hid hx
        have HL := Lib.hid (tx_len hx (by omega) v1 hn0 hn1 hL)
        clear hR0 hZ hL hx h3
        go_wp2_with fail
        go_loopw [9, 29] (fun kv i w1 => ∃ j : Nat, kv = .bool (aimI (p.take j) (k : Int)) ∧ i = .int .i64 (j : Int) ∧ j ≤ p.length ∧ EZ W wr.heap.size x (txL p k) 1000000 v w1) (fun _ i _ => p.length - (intOf i).toNat)
        case atStart => exact ⟨0, rfl, rfl, Nat.zero_le _, HR0.out⟩
        case round =>
          obtain ⟨j, rfl, rfl, hj, hZ1⟩ := hrel
          by_cases hlt3 : j < p.length
          · obtain ⟨y, hy⟩ : ∃ y, p[j]? = some y := ⟨p[j], List.getElem?_eq_getElem hlt3⟩
            obtain ⟨b9, o9, e9, ha9, h39⟩ := HF.out j y hy
            cases e9
            have hsn := aim_snoc hy (k : Int)
            have hTy := fun w => Cd.takesr_any y.op w
            obtain ⟨g0, g1, g2⟩ := h39.below ha9 hZ1.below
            have HSN := Lib.hid hsn
            have HZ1 := Lib.hid (hZ1.low (w' := wr.alloc (.cells #[.int .i64 y.op, .int .i64 y.n, .string y.s] 38)) ((Below.refl _ _).alloc (Nat.le_refl _) _))
            clear h39 hZ1 hy hsn hT hW
            cases hai : aimI (p.take j) (k : Int) with
            | true =>
              have HAI := Lib.hid hai
              clear hai
              go_wp2_with fail
              go_roundw
              case rel => exact ⟨j + 1, by rw [HSN.out, HAI.out]; rfl, by go_num, by omega, HZ1.out⟩
              case measure => simp [intOf]; omega
            | false =>
              have HAI := Lib.hid hai
              clear hai
              by_cases h4 : Cd.takes y.op = 4
              · rw [h4] at hTy
                have H4 := Lib.hid h4
                clear h4
                by_cases hyn : y.n = (k : Int)
                · have k1 : (y.n == (k : Int)) = true := by rw [hyn]; exact beq_self_eq_true _
                  have HYN := Lib.hid hyn
                  clear hyn
                  go_wp2_with (first
                    | (go_at_call 16; refine (hTy _).mono ?_; rintro e w3 ⟨rfl, hb3⟩; obtain ⟨d0, d1, d2, -, -, -⟩ := obj_three ((hb3.block wr.heap.size (by simp)).trans (heap_alloc_new wr _)); have HB3 := Lib.hid hb3; clear hb3))
                  go_roundw
                  case rel => exact ⟨j + 1, by rw [HSN.out, HAI.out, H4.out, HYN.out]; simp, by go_num, by omega, HZ1.out.low HB3.out⟩
                  case measure => simp [intOf]; omega
                · have k1 : (y.n == (k : Int)) = false := by rw [beq_eq_false_iff_ne]; exact hyn
                  have HYN := Lib.hid (decide_eq_false hyn)
                  clear hyn
                  go_wp2_with (first
                    | (go_at_call 16; refine (hTy _).mono ?_; rintro e w3 ⟨rfl, hb3⟩; obtain ⟨d0, d1, d2, -, -, -⟩ := obj_three ((hb3.block wr.heap.size (by simp)).trans (heap_alloc_new wr _)); have HB3 := Lib.hid hb3; clear hb3))
                  go_roundw
                  case rel => exact ⟨j + 1, by rw [HSN.out, HAI.out, HYN.out]; simp, by go_num, by omega, HZ1.out.low HB3.out⟩
                  case measure => simp [intOf]; omega
              · have H4 := Lib.hid (decide_eq_false h4)
                obtain ⟨tk, htk⟩ : ∃ tk, tk = Cd.takes y.op := ⟨_, rfl⟩
                rw [← htk] at h4 hTy
                have k1 : (tk == 4) = false := by rw [beq_eq_false_iff_ne]; exact h4
                clear htk h4
                go_wp2_with (first
                  | (go_at_call 16; refine (hTy _).mono ?_; rintro e w3 ⟨rfl, hb3⟩; have HB3 := Lib.hid hb3; clear hb3))
                go_roundw
                case rel => exact ⟨j + 1, by rw [HSN.out, HAI.out, H4.out]; simp, by go_num, by omega, HZ1.out.low HB3.out⟩
                case measure => simp [intOf]; omega
          · obtain rfl : j = p.length := by omega
            rw [List.take_length, show aimI p (k : Int) = aim p k from rfl]
            have HR := Lib.hid hZ1
            obtain ⟨d0, d1, d2, -, -, -⟩ := obj_three hZ1.o
            clear hZ1 HR0
            cases hmk : aim p k with
            | true =>
              have HMK := Lib.hid hmk
              clear hmk
              have hIk := fun w h => itoa_any (k : Int) (by omega) (by omega) w h
              have HSl := Lib.hid (lab_small (k := k) (by omega))
              have n1 : ¬ 9223372036854775807 < 1 + (Lib.itoa (k : Int)).length := by have := Lib.itoa_length_le (k : Int) (by omega) (by omega); omega
              have n2 : ¬ 9223372036854775807 < 1 + (Lib.itoa (k : Int)).length + 2 := by have := Lib.itoa_length_le (k : Int) (by omega) (by omega); omega
              rcases Cd.takes_5 x.op with htk | htk | htk | htk | htk
              · rw [htk] at hT
                have HTK := Lib.hid htk
                clear htk
                have HSa := HSw
                clear v1
                go_wp2_with (first
                  | (go_at_call 34; refine (hW _).mono ?_; rintro e w9 ⟨rfl, hb9⟩; have HR9 := Lib.hid (HR.out.low hb9); clear hb9 HR d0 d1 d2; have HR := HR9; clear HR9; obtain ⟨d0, d1, d2, -, -, -⟩ := obj_three HR.out.o)
                  | (go_at_call 16; refine (hT _).mono ?_; rintro e w9 ⟨rfl, hb9⟩; have HR9 := Lib.hid (HR.out.low hb9); clear hb9 HR d0 d1 d2; have HR := HR9; clear HR9; obtain ⟨d0, d1, d2, -, -, -⟩ := obj_three HR.out.o)
                  | (go_at_call 30; refine (hIk _ (HR.out.env HE.out)).mono ?_; rintro e w9 ⟨rfl, hb9⟩; have HR9 := Lib.hid (HR.out.low hb9); clear hb9 HR d0 d1 d2; have HR := HR9; clear HR9; obtain ⟨d0, d1, d2, -, -, -⟩ := obj_three HR.out.o)
                  | (at_builtin; refine EZ.app HR.out _ (by first | exact HSl.out | exact HSw.out | exact HSa.out) (by decide) rfl _ _ rfl rfl rfl ?_; intro v9 w9 hz9; have HR9 := Lib.hid hz9; clear hz9 HR d0 d1 d2; have HR := HR9; clear HR9; obtain ⟨d0, d1, d2, -, -, -⟩ := obj_three HR.out.o)
                  | (at_builtin; refine EZ.nl HR.out (by decide) rfl _ _ rfl rfl rfl ?_; intro v9 w9 hz9; have HR9 := Lib.hid hz9; clear hz9 HR d0 d1 d2; have HR := HR9; clear HR9; obtain ⟨d0, d1, d2, -, -, -⟩ := obj_three HR.out.o))
                go_roundw
                case rel =>
                  refine ⟨k + 1, _, rfl, by go_num, by omega, HR.out.end ?_, HL.out⟩
                  rw [tx_snoc HX.out, HMK.out]
                  simp [insT, argT, HTK.out, labT, Cd.wordB, ByteArray.data_append]
                case measure => simp [intOf]; omega
              · rw [htk] at hT
                have HTK := Lib.hid htk
                clear htk
                have hIn := fun w h => itoa_any x.n hn0 hn1 w h
                have HSa := Lib.hid (num_small hn0 hn1)
                have n3 : ¬ 9223372036854775807 < 1 + (Lib.itoa x.n).length := by have := Lib.itoa_length_le x.n hn0 hn1; omega
                clear v1
                go_wp2_with (first
                  | (go_at_call 34; refine (hW _).mono ?_; rintro e w9 ⟨rfl, hb9⟩; have HR9 := Lib.hid (HR.out.low hb9); clear hb9 HR d0 d1 d2; have HR := HR9; clear HR9; obtain ⟨d0, d1, d2, -, -, -⟩ := obj_three HR.out.o)
                  | (go_at_call 16; refine (hT _).mono ?_; rintro e w9 ⟨rfl, hb9⟩; have HR9 := Lib.hid (HR.out.low hb9); clear hb9 HR d0 d1 d2; have HR := HR9; clear HR9; obtain ⟨d0, d1, d2, -, -, -⟩ := obj_three HR.out.o)
                  | (go_at_call 30; (first | with_reducible refine (hIk _ (HR.out.env HE.out)).mono ?_ | with_reducible refine (hIn _ (HR.out.env HE.out)).mono ?_); rintro e w9 ⟨rfl, hb9⟩; have HR9 := Lib.hid (HR.out.low hb9); clear hb9 HR d0 d1 d2; have HR := HR9; clear HR9; obtain ⟨d0, d1, d2, -, -, -⟩ := obj_three HR.out.o)
                  | (at_builtin; refine EZ.app HR.out _ (by first | exact HSl.out | exact HSw.out | exact HSa.out) (by decide) rfl _ _ rfl rfl rfl ?_; intro v9 w9 hz9; have HR9 := Lib.hid hz9; clear hz9 HR d0 d1 d2; have HR := HR9; clear HR9; obtain ⟨d0, d1, d2, -, -, -⟩ := obj_three HR.out.o)
                  | (at_builtin; refine EZ.nl HR.out (by decide) rfl _ _ rfl rfl rfl ?_; intro v9 w9 hz9; have HR9 := Lib.hid hz9; clear hz9 HR d0 d1 d2; have HR := HR9; clear HR9; obtain ⟨d0, d1, d2, -, -, -⟩ := obj_three HR.out.o))
                go_roundw
                case rel =>
                  refine ⟨k + 1, _, rfl, by go_num, by omega, HR.out.end ?_, HL.out⟩
                  rw [tx_snoc HX.out, HMK.out]
                  simp [insT, argT, HTK.out, labT, Cd.wordB, ByteArray.data_append]
                case measure => simp [intOf]; omega
              · rw [htk] at hT
                have HTK := Lib.hid htk
                clear htk
                have hQ := fun w => rquote_any x.s w (by omega)
                have HSa := Lib.hid (quote_small v1)
                have n3 := quote_ov v1
                clear v1
                go_wp2_with (first
                  | (go_at_call 34; refine (hW _).mono ?_; rintro e w9 ⟨rfl, hb9⟩; have HR9 := Lib.hid (HR.out.low hb9); clear hb9 HR d0 d1 d2; have HR := HR9; clear HR9; obtain ⟨d0, d1, d2, -, -, -⟩ := obj_three HR.out.o)
                  | (go_at_call 16; refine (hT _).mono ?_; rintro e w9 ⟨rfl, hb9⟩; have HR9 := Lib.hid (HR.out.low hb9); clear hb9 HR d0 d1 d2; have HR := HR9; clear HR9; obtain ⟨d0, d1, d2, -, -, -⟩ := obj_three HR.out.o)
                  | (go_at_call 30; refine (hIk _ (HR.out.env HE.out)).mono ?_; rintro e w9 ⟨rfl, hb9⟩; have HR9 := Lib.hid (HR.out.low hb9); clear hb9 HR d0 d1 d2; have HR := HR9; clear HR9; obtain ⟨d0, d1, d2, -, -, -⟩ := obj_three HR.out.o)
                  | (go_at_call 35; refine (hQ _).mono ?_; rintro e w9 ⟨rfl, hb9⟩; have HR9 := Lib.hid (HR.out.low hb9); clear hb9 HR d0 d1 d2; have HR := HR9; clear HR9; obtain ⟨d0, d1, d2, -, -, -⟩ := obj_three HR.out.o)
                  | (at_builtin; refine EZ.app HR.out _ (by first | exact HSl.out | exact HSw.out | exact HSa.out) (by decide) rfl _ _ rfl rfl rfl ?_; intro v9 w9 hz9; have HR9 := Lib.hid hz9; clear hz9 HR d0 d1 d2; have HR := HR9; clear HR9; obtain ⟨d0, d1, d2, -, -, -⟩ := obj_three HR.out.o)
                  | (at_builtin; refine EZ.nl HR.out (by decide) rfl _ _ rfl rfl rfl ?_; intro v9 w9 hz9; have HR9 := Lib.hid hz9; clear hz9 HR d0 d1 d2; have HR := HR9; clear HR9; obtain ⟨d0, d1, d2, -, -, -⟩ := obj_three HR.out.o))
                go_roundw
                case rel =>
                  refine ⟨k + 1, _, rfl, by go_num, by omega, HR.out.end ?_, HL.out⟩
                  rw [tx_snoc HX.out, HMK.out]
                  simp [insT, argT, HTK.out, labT, Cd.wordB, ByteArray.data_append]
                case measure => simp [intOf]; omega
              · rw [htk] at hT
                have HTK := Lib.hid htk
                clear htk
                have hIn := fun w h => itoa_any x.n hn0 hn1 w h
                have HSa := Lib.hid (num_small hn0 hn1)
                have n3 : ¬ 9223372036854775807 < 1 + (Lib.itoa x.n).length := by have := Lib.itoa_length_le x.n hn0 hn1; omega
                clear v1
                go_wp2_with (first
                  | (go_at_call 34; refine (hW _).mono ?_; rintro e w9 ⟨rfl, hb9⟩; have HR9 := Lib.hid (HR.out.low hb9); clear hb9 HR d0 d1 d2; have HR := HR9; clear HR9; obtain ⟨d0, d1, d2, -, -, -⟩ := obj_three HR.out.o)
                  | (go_at_call 16; refine (hT _).mono ?_; rintro e w9 ⟨rfl, hb9⟩; have HR9 := Lib.hid (HR.out.low hb9); clear hb9 HR d0 d1 d2; have HR := HR9; clear HR9; obtain ⟨d0, d1, d2, -, -, -⟩ := obj_three HR.out.o)
                  | (go_at_call 30; (first | with_reducible refine (hIk _ (HR.out.env HE.out)).mono ?_ | with_reducible refine (hIn _ (HR.out.env HE.out)).mono ?_); rintro e w9 ⟨rfl, hb9⟩; have HR9 := Lib.hid (HR.out.low hb9); clear hb9 HR d0 d1 d2; have HR := HR9; clear HR9; obtain ⟨d0, d1, d2, -, -, -⟩ := obj_three HR.out.o)
                  | (at_builtin; refine EZ.app HR.out _ (by first | exact HSl.out | exact HSw.out | exact HSa.out) (by decide) rfl _ _ rfl rfl rfl ?_; intro v9 w9 hz9; have HR9 := Lib.hid hz9; clear hz9 HR d0 d1 d2; have HR := HR9; clear HR9; obtain ⟨d0, d1, d2, -, -, -⟩ := obj_three HR.out.o)
                  | (at_builtin; refine EZ.nl HR.out (by decide) rfl _ _ rfl rfl rfl ?_; intro v9 w9 hz9; have HR9 := Lib.hid hz9; clear hz9 HR d0 d1 d2; have HR := HR9; clear HR9; obtain ⟨d0, d1, d2, -, -, -⟩ := obj_three HR.out.o))
                go_roundw
                case rel =>
                  refine ⟨k + 1, _, rfl, by go_num, by omega, HR.out.end ?_, HL.out⟩
                  rw [tx_snoc HX.out, HMK.out]
                  simp [insT, argT, HTK.out, labT, Cd.wordB, ByteArray.data_append]
                case measure => simp [intOf]; omega
              · rw [htk] at hT
                have HTK := Lib.hid htk
                clear htk
                have hIn := fun w h => itoa_any x.n hn0 hn1 w h
                have HSa := Lib.hid (aim_small hn0 hn1)
                have n3 : ¬ 9223372036854775807 < 2 + (Lib.itoa x.n).length := by have := Lib.itoa_length_le x.n hn0 hn1; omega
                clear v1
                go_wp2_with (first
                  | (go_at_call 34; refine (hW _).mono ?_; rintro e w9 ⟨rfl, hb9⟩; have HR9 := Lib.hid (HR.out.low hb9); clear hb9 HR d0 d1 d2; have HR := HR9; clear HR9; obtain ⟨d0, d1, d2, -, -, -⟩ := obj_three HR.out.o)
                  | (go_at_call 16; refine (hT _).mono ?_; rintro e w9 ⟨rfl, hb9⟩; have HR9 := Lib.hid (HR.out.low hb9); clear hb9 HR d0 d1 d2; have HR := HR9; clear HR9; obtain ⟨d0, d1, d2, -, -, -⟩ := obj_three HR.out.o)
                  | (go_at_call 30; (first | with_reducible refine (hIk _ (HR.out.env HE.out)).mono ?_ | with_reducible refine (hIn _ (HR.out.env HE.out)).mono ?_); rintro e w9 ⟨rfl, hb9⟩; have HR9 := Lib.hid (HR.out.low hb9); clear hb9 HR d0 d1 d2; have HR := HR9; clear HR9; obtain ⟨d0, d1, d2, -, -, -⟩ := obj_three HR.out.o)
                  | (at_builtin; refine EZ.app HR.out _ (by first | exact HSl.out | exact HSw.out | exact HSa.out) (by decide) rfl _ _ rfl rfl rfl ?_; intro v9 w9 hz9; have HR9 := Lib.hid hz9; clear hz9 HR d0 d1 d2; have HR := HR9; clear HR9; obtain ⟨d0, d1, d2, -, -, -⟩ := obj_three HR.out.o)
                  | (at_builtin; refine EZ.nl HR.out (by decide) rfl _ _ rfl rfl rfl ?_; intro v9 w9 hz9; have HR9 := Lib.hid hz9; clear hz9 HR d0 d1 d2; have HR := HR9; clear HR9; obtain ⟨d0, d1, d2, -, -, -⟩ := obj_three HR.out.o))
                go_roundw
                case rel =>
                  refine ⟨k + 1, _, rfl, by go_num, by omega, HR.out.end ?_, HL.out⟩
                  rw [tx_snoc HX.out, HMK.out]
                  simp [insT, argT, HTK.out, labT, Cd.wordB, ByteArray.data_append]
                case measure => simp [intOf]; omega
            | false =>
              have HMK := Lib.hid hmk
              clear hmk
              have HSl := HSw
              rcases Cd.takes_5 x.op with htk | htk | htk | htk | htk
              · rw [htk] at hT
                have HTK := Lib.hid htk
                clear htk
                have HSa := HSw
                clear v1
                go_wp2_with (first
                  | (go_at_call 34; refine (hW _).mono ?_; rintro e w9 ⟨rfl, hb9⟩; have HR9 := Lib.hid (HR.out.low hb9); clear hb9 HR d0 d1 d2; have HR := HR9; clear HR9; obtain ⟨d0, d1, d2, -, -, -⟩ := obj_three HR.out.o)
                  | (go_at_call 16; refine (hT _).mono ?_; rintro e w9 ⟨rfl, hb9⟩; have HR9 := Lib.hid (HR.out.low hb9); clear hb9 HR d0 d1 d2; have HR := HR9; clear HR9; obtain ⟨d0, d1, d2, -, -, -⟩ := obj_three HR.out.o)
                  | (at_builtin; refine EZ.app HR.out _ (by first | exact HSl.out | exact HSw.out | exact HSa.out) (by decide) rfl _ _ rfl rfl rfl ?_; intro v9 w9 hz9; have HR9 := Lib.hid hz9; clear hz9 HR d0 d1 d2; have HR := HR9; clear HR9; obtain ⟨d0, d1, d2, -, -, -⟩ := obj_three HR.out.o)
                  | (at_builtin; refine EZ.nl HR.out (by decide) rfl _ _ rfl rfl rfl ?_; intro v9 w9 hz9; have HR9 := Lib.hid hz9; clear hz9 HR d0 d1 d2; have HR := HR9; clear HR9; obtain ⟨d0, d1, d2, -, -, -⟩ := obj_three HR.out.o))
                go_roundw
                case rel =>
                  refine ⟨k + 1, _, rfl, by go_num, by omega, HR.out.end ?_, HL.out⟩
                  rw [tx_snoc HX.out, HMK.out]
                  simp [insT, argT, HTK.out, Cd.wordB]
                case measure => simp [intOf]; omega
              · rw [htk] at hT
                have HTK := Lib.hid htk
                clear htk
                have hIn := fun w h => itoa_any x.n hn0 hn1 w h
                have HSa := Lib.hid (num_small hn0 hn1)
                have n3 : ¬ 9223372036854775807 < 1 + (Lib.itoa x.n).length := by have := Lib.itoa_length_le x.n hn0 hn1; omega
                clear v1
                go_wp2_with (first
                  | (go_at_call 34; refine (hW _).mono ?_; rintro e w9 ⟨rfl, hb9⟩; have HR9 := Lib.hid (HR.out.low hb9); clear hb9 HR d0 d1 d2; have HR := HR9; clear HR9; obtain ⟨d0, d1, d2, -, -, -⟩ := obj_three HR.out.o)
                  | (go_at_call 16; refine (hT _).mono ?_; rintro e w9 ⟨rfl, hb9⟩; have HR9 := Lib.hid (HR.out.low hb9); clear hb9 HR d0 d1 d2; have HR := HR9; clear HR9; obtain ⟨d0, d1, d2, -, -, -⟩ := obj_three HR.out.o)
                  | (go_at_call 30; refine (hIn _ (HR.out.env HE.out)).mono ?_; rintro e w9 ⟨rfl, hb9⟩; have HR9 := Lib.hid (HR.out.low hb9); clear hb9 HR d0 d1 d2; have HR := HR9; clear HR9; obtain ⟨d0, d1, d2, -, -, -⟩ := obj_three HR.out.o)
                  | (at_builtin; refine EZ.app HR.out _ (by first | exact HSl.out | exact HSw.out | exact HSa.out) (by decide) rfl _ _ rfl rfl rfl ?_; intro v9 w9 hz9; have HR9 := Lib.hid hz9; clear hz9 HR d0 d1 d2; have HR := HR9; clear HR9; obtain ⟨d0, d1, d2, -, -, -⟩ := obj_three HR.out.o)
                  | (at_builtin; refine EZ.nl HR.out (by decide) rfl _ _ rfl rfl rfl ?_; intro v9 w9 hz9; have HR9 := Lib.hid hz9; clear hz9 HR d0 d1 d2; have HR := HR9; clear HR9; obtain ⟨d0, d1, d2, -, -, -⟩ := obj_three HR.out.o))
                go_roundw
                case rel =>
                  refine ⟨k + 1, _, rfl, by go_num, by omega, HR.out.end ?_, HL.out⟩
                  rw [tx_snoc HX.out, HMK.out]
                  simp [insT, argT, HTK.out, Cd.wordB, ByteArray.data_append]
                case measure => simp [intOf]; omega
              · rw [htk] at hT
                have HTK := Lib.hid htk
                clear htk
                have hQ := fun w => rquote_any x.s w (by omega)
                have HSa := Lib.hid (quote_small v1)
                have n3 := quote_ov v1
                clear v1
                go_wp2_with (first
                  | (go_at_call 34; refine (hW _).mono ?_; rintro e w9 ⟨rfl, hb9⟩; have HR9 := Lib.hid (HR.out.low hb9); clear hb9 HR d0 d1 d2; have HR := HR9; clear HR9; obtain ⟨d0, d1, d2, -, -, -⟩ := obj_three HR.out.o)
                  | (go_at_call 16; refine (hT _).mono ?_; rintro e w9 ⟨rfl, hb9⟩; have HR9 := Lib.hid (HR.out.low hb9); clear hb9 HR d0 d1 d2; have HR := HR9; clear HR9; obtain ⟨d0, d1, d2, -, -, -⟩ := obj_three HR.out.o)
                  | (go_at_call 35; refine (hQ _).mono ?_; rintro e w9 ⟨rfl, hb9⟩; have HR9 := Lib.hid (HR.out.low hb9); clear hb9 HR d0 d1 d2; have HR := HR9; clear HR9; obtain ⟨d0, d1, d2, -, -, -⟩ := obj_three HR.out.o)
                  | (at_builtin; refine EZ.app HR.out _ (by first | exact HSl.out | exact HSw.out | exact HSa.out) (by decide) rfl _ _ rfl rfl rfl ?_; intro v9 w9 hz9; have HR9 := Lib.hid hz9; clear hz9 HR d0 d1 d2; have HR := HR9; clear HR9; obtain ⟨d0, d1, d2, -, -, -⟩ := obj_three HR.out.o)
                  | (at_builtin; refine EZ.nl HR.out (by decide) rfl _ _ rfl rfl rfl ?_; intro v9 w9 hz9; have HR9 := Lib.hid hz9; clear hz9 HR d0 d1 d2; have HR := HR9; clear HR9; obtain ⟨d0, d1, d2, -, -, -⟩ := obj_three HR.out.o))
                go_roundw
                case rel =>
                  refine ⟨k + 1, _, rfl, by go_num, by omega, HR.out.end ?_, HL.out⟩
                  rw [tx_snoc HX.out, HMK.out]
                  simp [insT, argT, HTK.out, Cd.wordB, ByteArray.data_append]
                case measure => simp [intOf]; omega
              · rw [htk] at hT
                have HTK := Lib.hid htk
                clear htk
                have hIn := fun w h => itoa_any x.n hn0 hn1 w h
                have HSa := Lib.hid (num_small hn0 hn1)
                have n3 : ¬ 9223372036854775807 < 1 + (Lib.itoa x.n).length := by have := Lib.itoa_length_le x.n hn0 hn1; omega
                clear v1
                go_wp2_with (first
                  | (go_at_call 34; refine (hW _).mono ?_; rintro e w9 ⟨rfl, hb9⟩; have HR9 := Lib.hid (HR.out.low hb9); clear hb9 HR d0 d1 d2; have HR := HR9; clear HR9; obtain ⟨d0, d1, d2, -, -, -⟩ := obj_three HR.out.o)
                  | (go_at_call 16; refine (hT _).mono ?_; rintro e w9 ⟨rfl, hb9⟩; have HR9 := Lib.hid (HR.out.low hb9); clear hb9 HR d0 d1 d2; have HR := HR9; clear HR9; obtain ⟨d0, d1, d2, -, -, -⟩ := obj_three HR.out.o)
                  | (go_at_call 30; refine (hIn _ (HR.out.env HE.out)).mono ?_; rintro e w9 ⟨rfl, hb9⟩; have HR9 := Lib.hid (HR.out.low hb9); clear hb9 HR d0 d1 d2; have HR := HR9; clear HR9; obtain ⟨d0, d1, d2, -, -, -⟩ := obj_three HR.out.o)
                  | (at_builtin; refine EZ.app HR.out _ (by first | exact HSl.out | exact HSw.out | exact HSa.out) (by decide) rfl _ _ rfl rfl rfl ?_; intro v9 w9 hz9; have HR9 := Lib.hid hz9; clear hz9 HR d0 d1 d2; have HR := HR9; clear HR9; obtain ⟨d0, d1, d2, -, -, -⟩ := obj_three HR.out.o)
                  | (at_builtin; refine EZ.nl HR.out (by decide) rfl _ _ rfl rfl rfl ?_; intro v9 w9 hz9; have HR9 := Lib.hid hz9; clear hz9 HR d0 d1 d2; have HR := HR9; clear HR9; obtain ⟨d0, d1, d2, -, -, -⟩ := obj_three HR.out.o))
                go_roundw
                case rel =>
                  refine ⟨k + 1, _, rfl, by go_num, by omega, HR.out.end ?_, HL.out⟩
                  rw [tx_snoc HX.out, HMK.out]
                  simp [insT, argT, HTK.out, Cd.wordB, ByteArray.data_append]
                case measure => simp [intOf]; omega
              · rw [htk] at hT
                have HTK := Lib.hid htk
                clear htk
                have hIn := fun w h => itoa_any x.n hn0 hn1 w h
                have HSa := Lib.hid (aim_small hn0 hn1)
                have n3 : ¬ 9223372036854775807 < 2 + (Lib.itoa x.n).length := by have := Lib.itoa_length_le x.n hn0 hn1; omega
                clear v1
                go_wp2_with (first
                  | (go_at_call 34; refine (hW _).mono ?_; rintro e w9 ⟨rfl, hb9⟩; have HR9 := Lib.hid (HR.out.low hb9); clear hb9 HR d0 d1 d2; have HR := HR9; clear HR9; obtain ⟨d0, d1, d2, -, -, -⟩ := obj_three HR.out.o)
                  | (go_at_call 16; refine (hT _).mono ?_; rintro e w9 ⟨rfl, hb9⟩; have HR9 := Lib.hid (HR.out.low hb9); clear hb9 HR d0 d1 d2; have HR := HR9; clear HR9; obtain ⟨d0, d1, d2, -, -, -⟩ := obj_three HR.out.o)
                  | (go_at_call 30; refine (hIn _ (HR.out.env HE.out)).mono ?_; rintro e w9 ⟨rfl, hb9⟩; have HR9 := Lib.hid (HR.out.low hb9); clear hb9 HR d0 d1 d2; have HR := HR9; clear HR9; obtain ⟨d0, d1, d2, -, -, -⟩ := obj_three HR.out.o)
                  | (at_builtin; refine EZ.app HR.out _ (by first | exact HSl.out | exact HSw.out | exact HSa.out) (by decide) rfl _ _ rfl rfl rfl ?_; intro v9 w9 hz9; have HR9 := Lib.hid hz9; clear hz9 HR d0 d1 d2; have HR := HR9; clear HR9; obtain ⟨d0, d1, d2, -, -, -⟩ := obj_three HR.out.o)
                  | (at_builtin; refine EZ.nl HR.out (by decide) rfl _ _ rfl rfl rfl ?_; intro v9 w9 hz9; have HR9 := Lib.hid hz9; clear hz9 HR d0 d1 d2; have HR := HR9; clear HR9; obtain ⟨d0, d1, d2, -, -, -⟩ := obj_three HR.out.o))
                go_roundw
                case rel =>
                  refine ⟨k + 1, _, rfl, by go_num, by omega, HR.out.end ?_, HL.out⟩
                  rw [tx_snoc HX.out, HMK.out]
                  simp [insT, argT, HTK.out, Cd.wordB, ByteArray.data_append]
                case measure => simp [intOf]; omega
      · obtain rfl : k = p.length := by omega
        have hcv : (convert 34 9 v).run Tryz.prog wr = .ok (.string ⟨(txL p p.length).toArray⟩) wr := conv_any hZ.own
        have HC := Lib.hid hc
        clear hZ hc
        go_wp2_with fail
        go_ret2
        refine ⟨?_, hbW⟩
        rw [HC.out, if_pos rfl, ← tx_all]
        rfl
  · have HC := Lib.hid hc
    obtain ⟨ce, hce⟩ : ∃ ce, ce = (Cd.check p).2 := ⟨_, rfl⟩
    have hne : ce ≠ 0 := by rw [hce]; exact hc
    have HR := Lib.hid (show (⟨(if (Cd.check p).2 = 0 then disL p else []).toArray⟩ : ByteArray) = ⟨#[]⟩ by rw [if_neg hc])
    unfold Cd.CKV at hch
    unfold DQ
    rw [HR.out]
    rw [← hce] at hch ⊢
    obtain ⟨sl, cap, rfl, -⟩ := hP.form
    clear hc hce hP
    go_enter Tryz.func14, Tryz.ntmps14
    go_wp2_with (first
      | (go_at_call 24; refine hch.mono ?_; rintro e w1 ⟨rfl, hb1⟩; clear hch))
    go_ret2
    exact ⟨rfl, hb1⟩
end Aw
end Go.Proofs.YtipcockcndnipaaGreatDoor
