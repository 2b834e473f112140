/-
  Walk: Disassemble.
-/
import Derived.Test.YtipcockcndnipaaDoorMAwY
import Derived.Test.YtipcockcndnipaaDoorMAwF
import Derived.Test.YtipcockcndnipaaDoorMAwQ
import Derived.Test.YtipcockcndnipaaDoorMAwB
import Derived.Test.YtipcockcndnipaaDoorShGI
namespace Go.Proofs.YtipcockcndnipaaDoor
open Go.RowKit
namespace Aw
open As

/-- one of the program takes a label and aims at n -/
def aimI (p : List Cd.I) (n : Int) : Bool := p.any fun y => decide (Cd.takes y.op = 4) && decide (y.n = n)
/-- the marks of the first k instructions -/
structure Mk (p : List Cd.I) (k : Nat) (ll : List ShI.KV) : Prop where
  srt : Shf.Srt Shf.ltI ll
  look : ∀ n, Shf.look ll n = if aimI (p.take k) n = true then some true else none
  len : ll.length ≤ k
theorem Mk.start (p : List Cd.I) : Mk p 0 [] := ⟨List.Pairwise.nil, fun _ => rfl, Nat.le_refl _⟩
theorem aim_snoc {p : List Cd.I} {k : Nat} {x : Cd.I} (h : p[k]? = some x) (n : Int) : aimI (p.take (k + 1)) n = (aimI (p.take k) n || (decide (Cd.takes x.op = 4) && decide (x.n = n))) := by
  rw [takek_snoc h]
  unfold aimI
  rw [List.any_append]
  simp
theorem Mk.skip {p : List Cd.I} {k : Nat} {ll : List ShI.KV} {x : Cd.I} (h : Mk p k ll) (hx : p[k]? = some x) (ht : Cd.takes x.op ≠ 4) : Mk p (k + 1) ll :=
  ⟨h.srt, fun n => by rw [h.look, aim_snoc hx, decide_eq_false ht, Bool.false_and, Bool.or_false], Nat.le_succ_of_le h.len⟩
theorem Mk.put {p : List Cd.I} {k : Nat} {ll : List ShI.KV} {x : Cd.I} (h : Mk p k ll) (hx : p[k]? = some x) (ht : Cd.takes x.op = 4) : Mk p (k + 1) (Shf.put Shf.ltI ll x.n true) :=
  ⟨Shf.put_srt Shf.ordI h.srt _ _, fun n => by
    rw [Shf.put_look Shf.ordI h.srt, h.look, aim_snoc hx, decide_eq_true ht, Bool.true_and]
    by_cases hn : n = x.n
    · subst hn
      rw [if_pos rfl]
      simp
    · rw [if_neg hn, decide_eq_false (fun e => hn e.symm), Bool.or_false], by
    have := Shf.put_len (lt := Shf.ltI) ll x.n true
    have := h.len
    omega⟩
theorem BS.marks {W W' : World} {B b b' : Nat} {l : List UInt8} (h : BS W B b l) (g : ShI.Fs W W' B b') (hb : b ≠ b') (hs : ∃ v, W.heap[b']? = some (.cells #[v] 68 (0, 0))) : BS W' B b l := by
  obtain ⟨p, v, h1, h2, h3⟩ := h
  obtain ⟨vs, hvs⟩ := hs
  refine ⟨p, v, h1, (g.block b (Array.getElem?_eq_some_iff.1 h2).1 hb (.inr fun cs e => by rw [h2] at e; cases e)).trans h2, own_block h3 fun k hk => ?_⟩
  obtain ⟨cs, hcs⟩ := own_type h3 hk
  exact g.block k (h3.lt k hk).2 (fun e => by rw [e, hvs] at hcs; cases hcs) (.inr fun cs' e => by rw [hcs] at e; cases e)
/-- the marks and the text so far -/
structure DZ (W1 wr : World) (ll : List ShI.KV) (l : List UInt8) : Prop where
  sh : ShI.SH wr (W1.heap.size + 2) (W1.heap.size + 1) ll
  bs : BS wr (W1.heap.size + 2) W1.heap.size l
  below : Below W1.heap.size W1 wr
  size : W1.heap.size + 2 ≤ wr.heap.size
theorem DZ.low {W1 w w' : World} {ll : List ShI.KV} {l : List UInt8} (h : DZ W1 w ll l) (hb : Below w.heap.size w w') : DZ W1 w' ll l :=
  ⟨h.sh.below hb, h.bs.below hb, h.below.trans (hb.mono (by have := h.size; omega)), Nat.le_trans h.size hb.size⟩
theorem DZ.write {W1 w : World} {ll : List ShI.KV} {l : List UInt8} (h : DZ W1 w ll l) (s : ByteArray) (hl : l.length + s.size ≤ 100000000) :
    Calls Tryd.prog 12 #[.pointer (some ⟨W1.heap.size, 0, none⟩), .string s] w fun e w' => e = .returned (.tuple #[.int .i64 (s.size : Int), .nilIface]) ∧ DZ W1 w' ll (l ++ s.data.toList) ∧ Fb w w' (W1.heap.size + 2) W1.heap.size :=
  (ws_any s _ _ l w h.bs hl h.size).mono fun e w' ⟨he, hB, hF⟩ => by
    have hz := h.size
    refine ⟨he, ⟨?_, hB, h.below.trans (hF.below (Nat.le_refl _) (by omega) (by omega)), Nat.le_trans h.size hF.size⟩, hF⟩
    obtain ⟨v, hb, hO⟩ := h.sh
    refine ⟨v, (hF.block _ (by omega) (by omega) (.inl (by omega))).trans hb, own_block hO fun k hk => ?_⟩
    obtain ⟨cs, hcs⟩ := own_type hO hk
    have := (hO.lt k hk).1
    exact hF.block k (hO.lt k hk).2 (by omega) (.inr fun cs' e => by rw [hcs] at e; cases e)
/-- a round's state: the instruction's block, too -/
structure DR (W1 : World) (h : Nat) (x : Cd.I) (ll : List ShI.KV) (l : List UInt8) (N : Nat) (w : World) : Prop where
  z : DZ W1 w ll l
  o : w.heap[h]? = some (.cells #[.int .i64 x.op, .int .i64 x.n, .string x.s] 23 (0, 0))
  hi : W1.heap.size + 2 ≤ h
  len : l.length ≤ N
section
variable {W1 w w' : World} {h N : Nat} {x : Cd.I} {ll : List ShI.KV} {l : List UInt8}
theorem DR.low (g : DR W1 h x ll l N w) (hb : Below w.heap.size w w') : DR W1 h x ll l N w' := ⟨g.z.low hb, (hb.block _ (Array.getElem?_eq_some_iff.1 g.o).1).trans g.o, g.hi, g.len⟩
theorem DR.env (g : DR W1 h x ll l N w) (hE : Env W1) : Env w := hE.below g.z.below
theorem DR.start (hZ : DZ W1 w ll l) (hl : l.length ≤ N) (x : Cd.I) : DR W1 w.heap.size x ll l N (w.alloc (.cells #[.int .i64 x.op, .int .i64 x.n, .string x.s] 23)) :=
  ⟨hZ.low ((Below.refl _ _).alloc (Nat.le_refl _) _), heap_alloc_new w _, hZ.size, hl⟩
theorem DR.write (g : DR W1 h x ll l N w) (s : ByteArray) (hs : s.size ≤ 1000) (hN : decide (N + 1000 ≤ 100000000) = true) :
    Calls Tryd.prog 12 #[.pointer (some ⟨W1.heap.size, 0, none⟩), .string s] w fun e w' => e = .returned (.tuple #[.int .i64 (s.size : Int), .nilIface]) ∧ DR W1 h x ll (l ++ s.data.toList) (N + 1000) w' := by
  have hN' := of_decide_eq_true hN
  have hl := g.len
  refine (g.z.write s (by omega)).mono fun e w' ⟨he, hz, hF⟩ => ⟨he, hz, (hF.block h (Array.getElem?_eq_some_iff.1 g.o).1 (by have := g.hi; omega) (.inr fun cs e => ?_)).trans g.o, g.hi, ?_⟩
  · rw [g.o] at e
    injection e with e
    injection e with _ e _
    exact absurd e (by decide)
  · have hs2 : s.size = s.data.toList.length := Lib.size_eq s
    rw [List.length_append]
    omega
theorem DR.end (g : DR W1 h x ll l N w) {l' : List UInt8} (e : l = l') : DZ W1 w ll l' := e ▸ g.z
end
theorem ok_in {p : List Cd.I} {v : Value} {W : World} {k : Nat} {x : Cd.I} (hc : (Cd.check p).2 = 0) (hP : Cd.PS W v p) (hx : p[k]? = some x) : x.s.size ≤ 256 ∧ -9223372036854775808 ≤ x.n ∧ x.n ≤ 9223372036854775807 :=
  ⟨right_small (ok_right hc x (List.mem_of_getElem? hx)), hP.nb x (List.mem_of_getElem? hx)⟩
/-- what disassembling does -/
def DQ (W : World) (p : List Cd.I) (e : Ending) (W' : World) : Prop := e = .returned (.tuple #[.string ⟨(if (Cd.check p).2 = 0 then disL p else []).toArray⟩, .int .i64 (Cd.check p).2]) ∧ Below W.heap.size W W'
set_option maxHeartbeats 8000000 in
set_option maxRecDepth 100000 in
theorem disassemble_any (p : List Cd.I) (v : Value) (W : World) (hP : Cd.PS W v p) (hE : Env W) :
    Calls Tryd.prog 5 #[v] W fun e W' => DQ W p e W' := by
  have hch := Cd.check_any p v W hP hE.tab
  by_cases hc : (Cd.check p).2 = 0
  · have hsm : p.length ≤ 256 := by
      have h9 := hc
      unfold Cd.check at h9
      split at h9
      · cases h9
      · omega
    obtain ⟨sl, cap, rfl, hf⟩ := hP.form
    have HP := Lib.hid hP
    unfold Cd.CKV at hch
    rw [hc] at hch
    have HF := Lib.hid hf
    clear hf hP
    go_enter Tryd.func5, Tryd.ntmps5
    go_wp2_with (first
      | (go_at_call 7; refine hch.mono ?_; rintro e w1 ⟨rfl, hb1⟩; clear hch)
      | (go_at_call 8; refine (ShI.new_any _).mono ?_; rintro e w2 ⟨rfl, rfl⟩))
    have hW1 : W.heap.size ≤ w1.heap.size := hb1.size
    go_loopw [25] (fun v wr => ∃ (k : Nat) (ll : List ShI.KV), v = .int .i64 (k : Int) ∧ k ≤ p.length ∧ Mk p k ll ∧ ShI.SH wr (w1.heap.size + 2) (w1.heap.size + 1) ll ∧ BS wr (w1.heap.size + 2) w1.heap.size [] ∧ Below w1.heap.size w1 wr ∧ w1.heap.size + 2 ≤ wr.heap.size) (fun v _ => p.length - (intOf v).toNat)
    case atStart =>
      refine ⟨0, [], rfl, Nat.zero_le _, Mk.start p, ⟨_, lk_new (by rw [World.size_alloc]), World.ownsRow_nil _ _ _ _⟩, ⟨_, _, .inl rfl, lk_old (by rw [World.size_alloc]; omega) (lk_new rfl), World.ownsRow_nil _ _ _ _⟩, ((Below.refl _ _).alloc (by omega) _).alloc (by rw [World.size_alloc]; omega) _, by rw [World.size_alloc, World.size_alloc]; omega⟩
    case round =>
      obtain ⟨k, ll, rfl, hk, hM, hS, hB, hb, hz⟩ := hrel
      have hbW : Below W.heap.size W wr := hb1.trans (hb.mono hW1)
      by_cases hlt : k < p.length
      · obtain ⟨x, hx⟩ : ∃ x, p[k]? = some x := ⟨p[k], List.getElem?_eq_getElem hlt⟩
        obtain ⟨b, o, rfl, ha, h3⟩ := HF.out k x hx
        obtain ⟨c0, c1, c2⟩ := h3.below ha hbW
        have HH := Lib.hid (And.intro hM (And.intro hS (And.intro hB (And.intro hb hz))))
        have HX := Lib.hid hx
        clear hM hS hB hb hz hx h3
        have hT := fun w => Cd.takes_any x.op w
        by_cases h4 : Cd.takes x.op = 4
        · rw [h4] at hT
          have H4 := Lib.hid h4
          clear h4
          go_wp2_with (first
            | (go_at_call 9; refine (hT _).mono ?_; rintro e w3 ⟨rfl, hb3⟩; obtain ⟨d0, d1, d2, -, -, -⟩ := obj_three ((hb3.block wr.heap.size (by simp)).trans (heap_alloc_new wr _)); have hbr : Below wr.heap.size wr w3 := ((Below.refl _ _).alloc (Nat.le_refl _) _).trans (hb3.mono (by simp)); clear hb3)
            | (go_at_call 10; obtain ⟨hM, hS, hB, hb, hz⟩ := HH.out; refine (ShI.put_any x.n true (w1.heap.size + 2) (w1.heap.size + 1) ll w3 (hS.below hbr) hM.srt (by have := hM.len; omega) (Nat.le_trans hz hbr.size)).mono ?_; rintro e w4 ⟨rfl, hS4, hF4⟩; have HH2 := Lib.hid (And.intro hbr (And.intro hS4 hF4)); clear hM hS hB hb hz hbr hS4 hF4))
          go_roundw
          case rel =>
            obtain ⟨hM, hS, hB, hb, hz⟩ := HH.out
            obtain ⟨hbr, hS4, hF4⟩ := HH2.out
            obtain ⟨vs, hvs, -⟩ := hS.below hbr
            refine ⟨k + 1, _, by go_num, by omega, hM.put HX.out H4.out, hS4, (hB.below hbr).marks hF4 (by omega) ⟨_, hvs⟩, hb.trans ((hbr.mono (by omega)).trans (hF4.below (by omega) (by omega) (by have := hbr.size; omega))), by have := hbr.size; have := hF4.size; omega⟩
          case measure => simp [intOf]; omega
        · have H4 := Lib.hid h4
          obtain ⟨tk, htk⟩ : ∃ tk, tk = Cd.takes x.op := ⟨_, rfl⟩
          rw [← htk] at h4 hT
          clear htk
          go_wp2_with (first
            | (go_at_call 9; refine (hT _).mono ?_; rintro e w3 ⟨rfl, hb3⟩; have hbr : Below wr.heap.size wr w3 := ((Below.refl _ _).alloc (Nat.le_refl _) _).trans (hb3.mono (by simp)); clear hb3))
          go_roundw
          case rel =>
            obtain ⟨hM, hS, hB, hb, hz⟩ := HH.out
            exact ⟨k + 1, ll, by go_num, by omega, hM.skip HX.out H4.out, hS.below hbr, hB.below hbr, hb.trans (hbr.mono (by omega)), by have := hbr.size; omega⟩
          case measure => simp [intOf]; omega
      · obtain rfl : k = p.length := by omega
        have HH := Lib.hid (And.intro hM (And.intro hS (And.intro hB (And.intro hb hz))))
        clear hM hS hB hb hz
        go_wp2_with fail
        go_loopw [40] (fun v wr => ∃ k : Nat, v = .int .i64 (k : Int) ∧ k ≤ p.length ∧ DZ w1 wr ll (txL p k) ∧ (txL p k).length ≤ k * 1000) (fun v _ => p.length - (intOf v).toNat)
        case atStart =>
          obtain ⟨hM, hS, hB, hb, hz⟩ := HH.out
          exact ⟨0, rfl, Nat.zero_le _, ⟨hS, by rw [tx_zero]; exact hB, hb, hz⟩, by rw [tx_zero]; exact Nat.le_refl _⟩
        case round =>
          obtain ⟨k, rfl, hk, hZ, hL⟩ := hrel
          have hbW : Below W.heap.size W wr := hb1.trans (hZ.below.mono hW1)
          by_cases hlt2 : k < p.length
          · obtain ⟨x, hx⟩ : ∃ x, p[k]? = some x := ⟨p[k], List.getElem?_eq_getElem hlt2⟩
            obtain ⟨b, o, rfl, ha, h3⟩ := HF.out k x hx
            obtain ⟨c0, c1, c2⟩ := h3.below ha hbW
            obtain ⟨hM, -⟩ := HH.out
            have hm2 := hM.look (k : Int)
            rw [List.take_length] at hm2
            obtain ⟨v1, hn0, hn1⟩ := ok_in hc HP.out hx
            have hR0 := DR.start hZ (N := 1000000) (by omega) x
            have HE := Lib.hid (hE.below hb1)
            have hG := ShI.get_any (k : Int) (w1.heap.size + 2) (w1.heap.size + 1) ll _ hR0.z.sh hM.srt (by have := hM.len; omega)
            have HR0 := Lib.hid hR0
            have hT := fun w => Cd.takes_any x.op w
            have hW := fun w h => Cd.word_any x.op w h
            have HSw := Lib.hid (show (Cd.wordB x.op).size ≤ 1000 from word_small x.op)
            have HSn := Lib.hid (show (⟨#[10]⟩ : ByteArray).size ≤ 1000 by decide)
            have HX := Lib.hid hx
            have HL := Lib.hid (tx_len hx (by omega) v1 hn0 hn1 hL)
            clear hM hR0 hZ hL hx h3
            cases hmk : aim p k with
            | true =>
              rw [show aimI p (k : Int) = aim p k from rfl, hmk, if_pos rfl] at hm2
              rw [hm2] at hG
              have HMK := Lib.hid hmk
              clear hm2 hmk
              unfold ShI.GV at hG
              have hIk := fun w h => itoa_any (k : Int) (by omega) (by omega) w h
              have HSl := Lib.hid (lab_small (k := k) (by omega))
              have n1 : ¬ 9223372036854775807 < 1 + (Lib.itoa (k : Int)).length := by have := Lib.itoa_length_le (k : Int) (by omega) (by omega); omega
              have n2 : ¬ 9223372036854775807 < 1 + (Lib.itoa (k : Int)).length + 2 := by have := Lib.itoa_length_le (k : Int) (by omega) (by omega); omega
              rcases Cd.takes_5 x.op with htk | htk | htk | htk | htk
              · rw [htk] at hT
                have HTK := Lib.hid htk
                clear htk
                have HSa := HSn
                clear v1
                go_wp2_with (first
                  | (go_at_call 11; refine hG.mono ?_; rintro e w9 ⟨rfl, hb9⟩; have HR := Lib.hid (HR0.out.low hb9); clear hb9 hG; obtain ⟨d0, d1, d2, -, -, -⟩ := obj_three HR.out.o)
                  | (go_at_call 14; refine (hW _ (HR.out.env HE.out).tab).mono ?_; rintro e w9 ⟨rfl, hb9⟩; have HR9 := Lib.hid (HR.out.low hb9); clear hb9 HR d0 d1 d2; have HR := HR9; clear HR9; obtain ⟨d0, d1, d2, -, -, -⟩ := obj_three HR.out.o)
                  | (go_at_call 9; refine (hT _).mono ?_; rintro e w9 ⟨rfl, hb9⟩; have HR9 := Lib.hid (HR.out.low hb9); clear hb9 HR d0 d1 d2; have HR := HR9; clear HR9; obtain ⟨d0, d1, d2, -, -, -⟩ := obj_three HR.out.o)
                  | (go_at_call 13; refine (hIk _ (HR.out.env HE.out)).mono ?_; rintro e w9 ⟨rfl, hb9⟩; have HR9 := Lib.hid (HR.out.low hb9); clear hb9 HR d0 d1 d2; have HR := HR9; clear HR9; obtain ⟨d0, d1, d2, -, -, -⟩ := obj_three HR.out.o)
                  | (go_at_call 12; refine (HR.out.write _ (by first | exact HSl.out | exact HSw.out | exact HSa.out | exact HSn.out) (by decide)).mono ?_; rintro e w9 ⟨rfl, hz9⟩; have HR9 := Lib.hid hz9; clear hz9 HR d0 d1 d2; have HR := HR9; clear HR9; obtain ⟨d0, d1, d2, -, -, -⟩ := obj_three HR.out.o))
                go_roundw
                case rel =>
                  refine ⟨k + 1, by go_num, by omega, HR.out.end ?_, HL.out⟩
                  rw [tx_snoc HX.out, HMK.out]
                  simp [insT, argT, HTK.out, labT, Cd.wordB, ByteArray.data_append]
                case measure => simp [intOf]; omega
              · rw [htk] at hT
                have HTK := Lib.hid htk
                clear htk
                have hIn := fun w h => itoa_any x.n hn0 hn1 w h
                have HSa := Lib.hid (num_small hn0 hn1)
                have n3 : ¬ 9223372036854775807 < 1 + (Lib.itoa x.n).length := by have := Lib.itoa_length_le x.n hn0 hn1; omega
                clear v1
                go_wp2_with (first
                  | (go_at_call 11; refine hG.mono ?_; rintro e w9 ⟨rfl, hb9⟩; have HR := Lib.hid (HR0.out.low hb9); clear hb9 hG; obtain ⟨d0, d1, d2, -, -, -⟩ := obj_three HR.out.o)
                  | (go_at_call 14; refine (hW _ (HR.out.env HE.out).tab).mono ?_; rintro e w9 ⟨rfl, hb9⟩; have HR9 := Lib.hid (HR.out.low hb9); clear hb9 HR d0 d1 d2; have HR := HR9; clear HR9; obtain ⟨d0, d1, d2, -, -, -⟩ := obj_three HR.out.o)
                  | (go_at_call 9; refine (hT _).mono ?_; rintro e w9 ⟨rfl, hb9⟩; have HR9 := Lib.hid (HR.out.low hb9); clear hb9 HR d0 d1 d2; have HR := HR9; clear HR9; obtain ⟨d0, d1, d2, -, -, -⟩ := obj_three HR.out.o)
                  | (go_at_call 13; (first | with_reducible refine (hIk _ (HR.out.env HE.out)).mono ?_ | with_reducible refine (hIn _ (HR.out.env HE.out)).mono ?_); rintro e w9 ⟨rfl, hb9⟩; have HR9 := Lib.hid (HR.out.low hb9); clear hb9 HR d0 d1 d2; have HR := HR9; clear HR9; obtain ⟨d0, d1, d2, -, -, -⟩ := obj_three HR.out.o)
                  | (go_at_call 12; refine (HR.out.write _ (by first | exact HSl.out | exact HSw.out | exact HSa.out | exact HSn.out) (by decide)).mono ?_; rintro e w9 ⟨rfl, hz9⟩; have HR9 := Lib.hid hz9; clear hz9 HR d0 d1 d2; have HR := HR9; clear HR9; obtain ⟨d0, d1, d2, -, -, -⟩ := obj_three HR.out.o))
                go_roundw
                case rel =>
                  refine ⟨k + 1, by go_num, by omega, HR.out.end ?_, HL.out⟩
                  rw [tx_snoc HX.out, HMK.out]
                  simp [insT, argT, HTK.out, labT, Cd.wordB, ByteArray.data_append]
                case measure => simp [intOf]; omega
              · rw [htk] at hT
                have HTK := Lib.hid htk
                clear htk
                have hQ := fun w => quote_any x.s w (by omega)
                have HSa := Lib.hid (quote_small v1)
                have n3 := quote_ov v1
                clear v1
                go_wp2_with (first
                  | (go_at_call 11; refine hG.mono ?_; rintro e w9 ⟨rfl, hb9⟩; have HR := Lib.hid (HR0.out.low hb9); clear hb9 hG; obtain ⟨d0, d1, d2, -, -, -⟩ := obj_three HR.out.o)
                  | (go_at_call 14; refine (hW _ (HR.out.env HE.out).tab).mono ?_; rintro e w9 ⟨rfl, hb9⟩; have HR9 := Lib.hid (HR.out.low hb9); clear hb9 HR d0 d1 d2; have HR := HR9; clear HR9; obtain ⟨d0, d1, d2, -, -, -⟩ := obj_three HR.out.o)
                  | (go_at_call 9; refine (hT _).mono ?_; rintro e w9 ⟨rfl, hb9⟩; have HR9 := Lib.hid (HR.out.low hb9); clear hb9 HR d0 d1 d2; have HR := HR9; clear HR9; obtain ⟨d0, d1, d2, -, -, -⟩ := obj_three HR.out.o)
                  | (go_at_call 13; refine (hIk _ (HR.out.env HE.out)).mono ?_; rintro e w9 ⟨rfl, hb9⟩; have HR9 := Lib.hid (HR.out.low hb9); clear hb9 HR d0 d1 d2; have HR := HR9; clear HR9; obtain ⟨d0, d1, d2, -, -, -⟩ := obj_three HR.out.o)
                  | (go_at_call 15; refine (hQ _).mono ?_; rintro e w9 ⟨rfl, hb9⟩; have HR9 := Lib.hid (HR.out.low hb9); clear hb9 HR d0 d1 d2; have HR := HR9; clear HR9; obtain ⟨d0, d1, d2, -, -, -⟩ := obj_three HR.out.o)
                  | (go_at_call 12; refine (HR.out.write _ (by first | exact HSl.out | exact HSw.out | exact HSa.out | exact HSn.out) (by decide)).mono ?_; rintro e w9 ⟨rfl, hz9⟩; have HR9 := Lib.hid hz9; clear hz9 HR d0 d1 d2; have HR := HR9; clear HR9; obtain ⟨d0, d1, d2, -, -, -⟩ := obj_three HR.out.o))
                go_roundw
                case rel =>
                  refine ⟨k + 1, by go_num, by omega, HR.out.end ?_, HL.out⟩
                  rw [tx_snoc HX.out, HMK.out]
                  simp [insT, argT, HTK.out, labT, Cd.wordB, ByteArray.data_append]
                case measure => simp [intOf]; omega
              · rw [htk] at hT
                have HTK := Lib.hid htk
                clear htk
                have hIn := fun w h => itoa_any x.n hn0 hn1 w h
                have HSa := Lib.hid (num_small hn0 hn1)
                have n3 : ¬ 9223372036854775807 < 1 + (Lib.itoa x.n).length := by have := Lib.itoa_length_le x.n hn0 hn1; omega
                clear v1
                go_wp2_with (first
                  | (go_at_call 11; refine hG.mono ?_; rintro e w9 ⟨rfl, hb9⟩; have HR := Lib.hid (HR0.out.low hb9); clear hb9 hG; obtain ⟨d0, d1, d2, -, -, -⟩ := obj_three HR.out.o)
                  | (go_at_call 14; refine (hW _ (HR.out.env HE.out).tab).mono ?_; rintro e w9 ⟨rfl, hb9⟩; have HR9 := Lib.hid (HR.out.low hb9); clear hb9 HR d0 d1 d2; have HR := HR9; clear HR9; obtain ⟨d0, d1, d2, -, -, -⟩ := obj_three HR.out.o)
                  | (go_at_call 9; refine (hT _).mono ?_; rintro e w9 ⟨rfl, hb9⟩; have HR9 := Lib.hid (HR.out.low hb9); clear hb9 HR d0 d1 d2; have HR := HR9; clear HR9; obtain ⟨d0, d1, d2, -, -, -⟩ := obj_three HR.out.o)
                  | (go_at_call 13; (first | with_reducible refine (hIk _ (HR.out.env HE.out)).mono ?_ | with_reducible refine (hIn _ (HR.out.env HE.out)).mono ?_); rintro e w9 ⟨rfl, hb9⟩; have HR9 := Lib.hid (HR.out.low hb9); clear hb9 HR d0 d1 d2; have HR := HR9; clear HR9; obtain ⟨d0, d1, d2, -, -, -⟩ := obj_three HR.out.o)
                  | (go_at_call 12; refine (HR.out.write _ (by first | exact HSl.out | exact HSw.out | exact HSa.out | exact HSn.out) (by decide)).mono ?_; rintro e w9 ⟨rfl, hz9⟩; have HR9 := Lib.hid hz9; clear hz9 HR d0 d1 d2; have HR := HR9; clear HR9; obtain ⟨d0, d1, d2, -, -, -⟩ := obj_three HR.out.o))
                go_roundw
                case rel =>
                  refine ⟨k + 1, by go_num, by omega, HR.out.end ?_, HL.out⟩
                  rw [tx_snoc HX.out, HMK.out]
                  simp [insT, argT, HTK.out, labT, Cd.wordB, ByteArray.data_append]
                case measure => simp [intOf]; omega
              · rw [htk] at hT
                have HTK := Lib.hid htk
                clear htk
                have hIn := fun w h => itoa_any x.n hn0 hn1 w h
                have HSa := Lib.hid (aim_small hn0 hn1)
                have n3 : ¬ 9223372036854775807 < 2 + (Lib.itoa x.n).length := by have := Lib.itoa_length_le x.n hn0 hn1; omega
                clear v1
                go_wp2_with (first
                  | (go_at_call 11; refine hG.mono ?_; rintro e w9 ⟨rfl, hb9⟩; have HR := Lib.hid (HR0.out.low hb9); clear hb9 hG; obtain ⟨d0, d1, d2, -, -, -⟩ := obj_three HR.out.o)
                  | (go_at_call 14; refine (hW _ (HR.out.env HE.out).tab).mono ?_; rintro e w9 ⟨rfl, hb9⟩; have HR9 := Lib.hid (HR.out.low hb9); clear hb9 HR d0 d1 d2; have HR := HR9; clear HR9; obtain ⟨d0, d1, d2, -, -, -⟩ := obj_three HR.out.o)
                  | (go_at_call 9; refine (hT _).mono ?_; rintro e w9 ⟨rfl, hb9⟩; have HR9 := Lib.hid (HR.out.low hb9); clear hb9 HR d0 d1 d2; have HR := HR9; clear HR9; obtain ⟨d0, d1, d2, -, -, -⟩ := obj_three HR.out.o)
                  | (go_at_call 13; (first | with_reducible refine (hIk _ (HR.out.env HE.out)).mono ?_ | with_reducible refine (hIn _ (HR.out.env HE.out)).mono ?_); rintro e w9 ⟨rfl, hb9⟩; have HR9 := Lib.hid (HR.out.low hb9); clear hb9 HR d0 d1 d2; have HR := HR9; clear HR9; obtain ⟨d0, d1, d2, -, -, -⟩ := obj_three HR.out.o)
                  | (go_at_call 12; refine (HR.out.write _ (by first | exact HSl.out | exact HSw.out | exact HSa.out | exact HSn.out) (by decide)).mono ?_; rintro e w9 ⟨rfl, hz9⟩; have HR9 := Lib.hid hz9; clear hz9 HR d0 d1 d2; have HR := HR9; clear HR9; obtain ⟨d0, d1, d2, -, -, -⟩ := obj_three HR.out.o))
                go_roundw
                case rel =>
                  refine ⟨k + 1, by go_num, by omega, HR.out.end ?_, HL.out⟩
                  rw [tx_snoc HX.out, HMK.out]
                  simp [insT, argT, HTK.out, labT, Cd.wordB, ByteArray.data_append]
                case measure => simp [intOf]; omega
            | false =>
              rw [show aimI p (k : Int) = aim p k from rfl, hmk, if_neg (by decide)] at hm2
              rw [hm2] at hG
              have HMK := Lib.hid hmk
              clear hm2 hmk
              unfold ShI.GV at hG
              have HSl := HSn
              rcases Cd.takes_5 x.op with htk | htk | htk | htk | htk
              · rw [htk] at hT
                have HTK := Lib.hid htk
                clear htk
                have HSa := HSn
                clear v1
                go_wp2_with (first
                  | (go_at_call 11; refine hG.mono ?_; rintro e w9 ⟨rfl, hb9⟩; have HR := Lib.hid (HR0.out.low hb9); clear hb9 hG; obtain ⟨d0, d1, d2, -, -, -⟩ := obj_three HR.out.o)
                  | (go_at_call 14; refine (hW _ (HR.out.env HE.out).tab).mono ?_; rintro e w9 ⟨rfl, hb9⟩; have HR9 := Lib.hid (HR.out.low hb9); clear hb9 HR d0 d1 d2; have HR := HR9; clear HR9; obtain ⟨d0, d1, d2, -, -, -⟩ := obj_three HR.out.o)
                  | (go_at_call 9; refine (hT _).mono ?_; rintro e w9 ⟨rfl, hb9⟩; have HR9 := Lib.hid (HR.out.low hb9); clear hb9 HR d0 d1 d2; have HR := HR9; clear HR9; obtain ⟨d0, d1, d2, -, -, -⟩ := obj_three HR.out.o)
                  | (go_at_call 12; refine (HR.out.write _ (by first | exact HSl.out | exact HSw.out | exact HSa.out | exact HSn.out) (by decide)).mono ?_; rintro e w9 ⟨rfl, hz9⟩; have HR9 := Lib.hid hz9; clear hz9 HR d0 d1 d2; have HR := HR9; clear HR9; obtain ⟨d0, d1, d2, -, -, -⟩ := obj_three HR.out.o))
                go_roundw
                case rel =>
                  refine ⟨k + 1, by go_num, by omega, HR.out.end ?_, HL.out⟩
                  rw [tx_snoc HX.out, HMK.out]
                  simp [insT, argT, HTK.out, Cd.wordB]
                case measure => simp [intOf]; omega
              · rw [htk] at hT
                have HTK := Lib.hid htk
                clear htk
                have hIn := fun w h => itoa_any x.n hn0 hn1 w h
                have HSa := Lib.hid (num_small hn0 hn1)
                have n3 : ¬ 9223372036854775807 < 1 + (Lib.itoa x.n).length := by have := Lib.itoa_length_le x.n hn0 hn1; omega
                clear v1
                go_wp2_with (first
                  | (go_at_call 11; refine hG.mono ?_; rintro e w9 ⟨rfl, hb9⟩; have HR := Lib.hid (HR0.out.low hb9); clear hb9 hG; obtain ⟨d0, d1, d2, -, -, -⟩ := obj_three HR.out.o)
                  | (go_at_call 14; refine (hW _ (HR.out.env HE.out).tab).mono ?_; rintro e w9 ⟨rfl, hb9⟩; have HR9 := Lib.hid (HR.out.low hb9); clear hb9 HR d0 d1 d2; have HR := HR9; clear HR9; obtain ⟨d0, d1, d2, -, -, -⟩ := obj_three HR.out.o)
                  | (go_at_call 9; refine (hT _).mono ?_; rintro e w9 ⟨rfl, hb9⟩; have HR9 := Lib.hid (HR.out.low hb9); clear hb9 HR d0 d1 d2; have HR := HR9; clear HR9; obtain ⟨d0, d1, d2, -, -, -⟩ := obj_three HR.out.o)
                  | (go_at_call 13; refine (hIn _ (HR.out.env HE.out)).mono ?_; rintro e w9 ⟨rfl, hb9⟩; have HR9 := Lib.hid (HR.out.low hb9); clear hb9 HR d0 d1 d2; have HR := HR9; clear HR9; obtain ⟨d0, d1, d2, -, -, -⟩ := obj_three HR.out.o)
                  | (go_at_call 12; refine (HR.out.write _ (by first | exact HSl.out | exact HSw.out | exact HSa.out | exact HSn.out) (by decide)).mono ?_; rintro e w9 ⟨rfl, hz9⟩; have HR9 := Lib.hid hz9; clear hz9 HR d0 d1 d2; have HR := HR9; clear HR9; obtain ⟨d0, d1, d2, -, -, -⟩ := obj_three HR.out.o))
                go_roundw
                case rel =>
                  refine ⟨k + 1, by go_num, by omega, HR.out.end ?_, HL.out⟩
                  rw [tx_snoc HX.out, HMK.out]
                  simp [insT, argT, HTK.out, Cd.wordB, ByteArray.data_append]
                case measure => simp [intOf]; omega
              · rw [htk] at hT
                have HTK := Lib.hid htk
                clear htk
                have hQ := fun w => quote_any x.s w (by omega)
                have HSa := Lib.hid (quote_small v1)
                have n3 := quote_ov v1
                clear v1
                go_wp2_with (first
                  | (go_at_call 11; refine hG.mono ?_; rintro e w9 ⟨rfl, hb9⟩; have HR := Lib.hid (HR0.out.low hb9); clear hb9 hG; obtain ⟨d0, d1, d2, -, -, -⟩ := obj_three HR.out.o)
                  | (go_at_call 14; refine (hW _ (HR.out.env HE.out).tab).mono ?_; rintro e w9 ⟨rfl, hb9⟩; have HR9 := Lib.hid (HR.out.low hb9); clear hb9 HR d0 d1 d2; have HR := HR9; clear HR9; obtain ⟨d0, d1, d2, -, -, -⟩ := obj_three HR.out.o)
                  | (go_at_call 9; refine (hT _).mono ?_; rintro e w9 ⟨rfl, hb9⟩; have HR9 := Lib.hid (HR.out.low hb9); clear hb9 HR d0 d1 d2; have HR := HR9; clear HR9; obtain ⟨d0, d1, d2, -, -, -⟩ := obj_three HR.out.o)
                  | (go_at_call 15; refine (hQ _).mono ?_; rintro e w9 ⟨rfl, hb9⟩; have HR9 := Lib.hid (HR.out.low hb9); clear hb9 HR d0 d1 d2; have HR := HR9; clear HR9; obtain ⟨d0, d1, d2, -, -, -⟩ := obj_three HR.out.o)
                  | (go_at_call 12; refine (HR.out.write _ (by first | exact HSl.out | exact HSw.out | exact HSa.out | exact HSn.out) (by decide)).mono ?_; rintro e w9 ⟨rfl, hz9⟩; have HR9 := Lib.hid hz9; clear hz9 HR d0 d1 d2; have HR := HR9; clear HR9; obtain ⟨d0, d1, d2, -, -, -⟩ := obj_three HR.out.o))
                go_roundw
                case rel =>
                  refine ⟨k + 1, by go_num, by omega, HR.out.end ?_, HL.out⟩
                  rw [tx_snoc HX.out, HMK.out]
                  simp [insT, argT, HTK.out, Cd.wordB, ByteArray.data_append]
                case measure => simp [intOf]; omega
              · rw [htk] at hT
                have HTK := Lib.hid htk
                clear htk
                have hIn := fun w h => itoa_any x.n hn0 hn1 w h
                have HSa := Lib.hid (num_small hn0 hn1)
                have n3 : ¬ 9223372036854775807 < 1 + (Lib.itoa x.n).length := by have := Lib.itoa_length_le x.n hn0 hn1; omega
                clear v1
                go_wp2_with (first
                  | (go_at_call 11; refine hG.mono ?_; rintro e w9 ⟨rfl, hb9⟩; have HR := Lib.hid (HR0.out.low hb9); clear hb9 hG; obtain ⟨d0, d1, d2, -, -, -⟩ := obj_three HR.out.o)
                  | (go_at_call 14; refine (hW _ (HR.out.env HE.out).tab).mono ?_; rintro e w9 ⟨rfl, hb9⟩; have HR9 := Lib.hid (HR.out.low hb9); clear hb9 HR d0 d1 d2; have HR := HR9; clear HR9; obtain ⟨d0, d1, d2, -, -, -⟩ := obj_three HR.out.o)
                  | (go_at_call 9; refine (hT _).mono ?_; rintro e w9 ⟨rfl, hb9⟩; have HR9 := Lib.hid (HR.out.low hb9); clear hb9 HR d0 d1 d2; have HR := HR9; clear HR9; obtain ⟨d0, d1, d2, -, -, -⟩ := obj_three HR.out.o)
                  | (go_at_call 13; refine (hIn _ (HR.out.env HE.out)).mono ?_; rintro e w9 ⟨rfl, hb9⟩; have HR9 := Lib.hid (HR.out.low hb9); clear hb9 HR d0 d1 d2; have HR := HR9; clear HR9; obtain ⟨d0, d1, d2, -, -, -⟩ := obj_three HR.out.o)
                  | (go_at_call 12; refine (HR.out.write _ (by first | exact HSl.out | exact HSw.out | exact HSa.out | exact HSn.out) (by decide)).mono ?_; rintro e w9 ⟨rfl, hz9⟩; have HR9 := Lib.hid hz9; clear hz9 HR d0 d1 d2; have HR := HR9; clear HR9; obtain ⟨d0, d1, d2, -, -, -⟩ := obj_three HR.out.o))
                go_roundw
                case rel =>
                  refine ⟨k + 1, by go_num, by omega, HR.out.end ?_, HL.out⟩
                  rw [tx_snoc HX.out, HMK.out]
                  simp [insT, argT, HTK.out, Cd.wordB, ByteArray.data_append]
                case measure => simp [intOf]; omega
              · rw [htk] at hT
                have HTK := Lib.hid htk
                clear htk
                have hIn := fun w h => itoa_any x.n hn0 hn1 w h
                have HSa := Lib.hid (aim_small hn0 hn1)
                have n3 : ¬ 9223372036854775807 < 2 + (Lib.itoa x.n).length := by have := Lib.itoa_length_le x.n hn0 hn1; omega
                clear v1
                go_wp2_with (first
                  | (go_at_call 11; refine hG.mono ?_; rintro e w9 ⟨rfl, hb9⟩; have HR := Lib.hid (HR0.out.low hb9); clear hb9 hG; obtain ⟨d0, d1, d2, -, -, -⟩ := obj_three HR.out.o)
                  | (go_at_call 14; refine (hW _ (HR.out.env HE.out).tab).mono ?_; rintro e w9 ⟨rfl, hb9⟩; have HR9 := Lib.hid (HR.out.low hb9); clear hb9 HR d0 d1 d2; have HR := HR9; clear HR9; obtain ⟨d0, d1, d2, -, -, -⟩ := obj_three HR.out.o)
                  | (go_at_call 9; refine (hT _).mono ?_; rintro e w9 ⟨rfl, hb9⟩; have HR9 := Lib.hid (HR.out.low hb9); clear hb9 HR d0 d1 d2; have HR := HR9; clear HR9; obtain ⟨d0, d1, d2, -, -, -⟩ := obj_three HR.out.o)
                  | (go_at_call 13; refine (hIn _ (HR.out.env HE.out)).mono ?_; rintro e w9 ⟨rfl, hb9⟩; have HR9 := Lib.hid (HR.out.low hb9); clear hb9 HR d0 d1 d2; have HR := HR9; clear HR9; obtain ⟨d0, d1, d2, -, -, -⟩ := obj_three HR.out.o)
                  | (go_at_call 12; refine (HR.out.write _ (by first | exact HSl.out | exact HSw.out | exact HSa.out | exact HSn.out) (by decide)).mono ?_; rintro e w9 ⟨rfl, hz9⟩; have HR9 := Lib.hid hz9; clear hz9 HR d0 d1 d2; have HR := HR9; clear HR9; obtain ⟨d0, d1, d2, -, -, -⟩ := obj_three HR.out.o))
                go_roundw
                case rel =>
                  refine ⟨k + 1, by go_num, by omega, HR.out.end ?_, HL.out⟩
                  rw [tx_snoc HX.out, HMK.out]
                  simp [insT, argT, HTK.out, Cd.wordB, ByteArray.data_append]
                case measure => simp [intOf]; omega
          · obtain rfl : k = p.length := by omega
            have hIs : Lib.IsBuilder 37 5 w1.heap.size w1.heap.size (Lib.byteCells (txL p p.length)) wr := by
              obtain ⟨q, u, g1, g2, g3⟩ := hZ.bs
              have g4 : wr.ownsRow w1.heap.size 5 1 u (Lib.byteCells (txL p p.length)).length (Lib.byteCells (txL p p.length)) := by
                rw [Lib.byteCells_length]
                exact own_mono (by omega) g3
              have g5 : u.ownBlock ≠ some w1.heap.size := fun e => by have := (g3.lt _ e).1; omega
              rcases g1 with rfl | rfl
              · exact .inl ⟨Nat.le_refl _, u, g2, g4, g5⟩
              · exact .inr ⟨Nat.le_refl _, u, g2, g4, g5⟩
            have hStr := Tryd.Builder_String_any w1.heap.size w1.heap.size (txL p p.length) wr hIs (by have := hZ.size; omega)
            have HZ := Lib.hid hZ
            have HC := Lib.hid hc
            clear hZ hIs hc
            go_wp2_with (first
              | (go_at_call 16; refine hStr.mono ?_; rintro e w9 ⟨rfl, hb9⟩))
            go_ret2
            refine ⟨?_, hbW.trans (hb9.mono hW1)⟩
            rw [HC.out, if_pos rfl, ← tx_all]
            rfl
  · have HC := Lib.hid hc
    obtain ⟨ce, hce⟩ : ∃ ce, ce = (Cd.check p).2 := ⟨_, rfl⟩
    have hne : ce ≠ 0 := by rw [hce]; exact hc
    have HR := Lib.hid (show (⟨(if (Cd.check p).2 = 0 then disL p else []).toArray⟩ : ByteArray) = ⟨#[]⟩ by rw [if_neg hc])
    unfold Cd.CKV at hch
    unfold DQ
    rw [HR.out]
    rw [← hce] at hch ⊢
    obtain ⟨sl, cap, rfl, -⟩ := hP.form
    clear hc hce hP
    go_enter Tryd.func5, Tryd.ntmps5
    go_wp2_with (first
      | (go_at_call 7; refine hch.mono ?_; rintro e w1 ⟨rfl, hb1⟩; clear hch))
    go_ret2
    exact ⟨rfl, hb1⟩
end Aw
end Go.Proofs.YtipcockcndnipaaDoor
