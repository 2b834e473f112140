/-
  Walk: the reader's quoted. (printed by gen_RcQ.py)
-/
import Derived.Test.YtcigggffaofkhaaRcM
import Derived.Test.YtcigggffaofkhaaMix
import Derived.Laws.BitsAllLaws
namespace Go.Proofs.Ytcigggffaofkhaa
open Go.RowKit
namespace Rc

def hexD : ByteArray := ⟨#[48, 49, 50, 51, 52, 53, 54, 55, 56, 57, 97, 98, 99, 100, 101, 102]⟩
def hx (c : UInt8) : Int := if hexv c = 16 then -1 else (hexv c : Int)
theorem hx_all : ∀ n : Fin 256, Lib.indexByte hexD.data.toList (UInt8.ofNat n.1) = hx (UInt8.ofNat n.1) := by decide +kernel
theorem hx_eq (c : UInt8) : Lib.indexByte hexD.data.toList c = hx c := by
  have h := hx_all ⟨c.toNat, c.toNat_lt⟩
  simpa using h
theorem hexv_le (c : UInt8) : hexv c ≤ 16 := by unfold hexv; split <;> (try split) <;> omega
theorem hexi_any (c : UInt8) (w : World) : Calls Try.prog 55 #[.string ⟨#[48, 49, 50, 51, 52, 53, 54, 55, 56, 57, 97, 98, 99, 100, 101, 102]⟩, .int .u8 (c.toNat : Int)] w fun e w' => e = .returned (.int .i64 (hx c)) ∧ w' = w := by
  refine (Try.strings_IndexByte hexD (c.toNat : Int) w).mono ?_
  rintro e w' ⟨rfl, rfl⟩
  have e1 : ((c.toNat : Int)).toNat.toUInt8 = c := by simp
  rw [e1, hx_eq]
  exact ⟨rfl, rfl⟩
theorem or_hex : ∀ a b : Fin 16, bits BinOp.or IntKind.i64 ((a.val : Int) * 16) (b.val : Int) % 256 = ((16 * a.val + b.val : Nat) : Int) := by decide +kernel
theorem or_hexv {a b : Nat} (ha : a ≤ 15) (hb : b ≤ 15) : bits BinOp.or IntKind.i64 ((a : Int) * 16) (b : Int) % 256 = ((UInt8.ofNat (16 * a + b)).toNat : Int) := by
  rw [UInt8.toNat_ofNat_of_lt' (by show 16 * a + b < 256; omega)]
  exact or_hex ⟨a, by omega⟩ ⟨b, by omega⟩
theorem drop_at {s : ByteArray} {m : Nat} (h : m < s.size) : s.data.toList.drop m = s[m] :: s.data.toList.drop (m + 1) := by
  have hz := Lib.size_eq s
  rw [List.drop_eq_getElem_cons (by omega)]
  rfl
theorem drop_end {s : ByteArray} {m : Nat} (h : s.size ≤ m) : s.data.toList.drop m = [] := by
  have hz := Lib.size_eq s
  exact List.drop_of_length_le (by omega)
theorem u8_eq {c : UInt8} {n : Nat} (h : c.toNat = n) (hn : n < 256) : c = UInt8.ofNat n := by
  apply UInt8.toNat_inj.1
  rw [h, UInt8.toNat_ofNat_of_lt' (by exact hn)]
/-- the reading so far: acc was read, so many bytes are gone -/
def QI (s : ByteArray) (p m : Nat) (acc : List UInt8) : Prop := ∃ f, (s.data.toList.drop m).length < f ∧ strL (s.data.toList.drop (p + 1)) = (strF f (s.data.toList.drop m)).map fun x => (acc ++ x.1, m - (p + 1) + x.2)
theorem QI.start (s : ByteArray) (p : Nat) : QI s p (p + 1) [] := ⟨_, Nat.lt_succ_self _, by simp [strL, Option.map_id']⟩
theorem QI.stop {s : ByteArray} {p m : Nat} {acc : List UInt8} (h : QI s p m acc) (hm : m < s.size) (hc : s[m] = 34) : strL (s.data.toList.drop (p + 1)) = some (acc, m - (p + 1) + 1) := by
  obtain ⟨f, hf, he⟩ := h
  rw [he, drop_at hm, hc]
  cases f with
  | zero => omega
  | succ f => simp [strF]
theorem QI.bad {s : ByteArray} {p m : Nat} {acc : List UInt8} (h : QI s p m acc) (hb : ∀ f, strF f (s.data.toList.drop m) = none) : strL (s.data.toList.drop (p + 1)) = none := by
  obtain ⟨f, hf, he⟩ := h
  rw [he, hb]
  rfl
theorem bad_end {s : ByteArray} {m : Nat} (h : s.size ≤ m) : ∀ f, strF f (s.data.toList.drop m) = none := fun f => by
  rw [drop_end h]
  cases f <;> rfl
theorem bad_ctl {s : ByteArray} {m : Nat} (h : m < s.size) (hc : s[m].toNat < 32 ∨ 126 < s[m].toNat) : ∀ f, strF f (s.data.toList.drop m) = none := fun f => by
  rw [drop_at h]
  cases f with
  | zero => rfl
  | succ f =>
    have h34 : s[m] ≠ 34 := fun e => by rw [e] at hc; revert hc; decide
    simp only [strF]
    rw [if_neg h34, if_pos hc]
theorem bad_hex {s : ByteArray} {m : Nat} (h : m < s.size) (hc : s[m] = 92) (hb : s.size ≤ m + 2 ∨ ∃ (h2 : m + 2 < s.size), hexv s[m + 1] = 16 ∨ hexv s[m + 2] = 16) : ∀ f, strF f (s.data.toList.drop m) = none := fun f => by
  rw [drop_at h, hc]
  cases f with
  | zero => rfl
  | succ f =>
    simp only [strF]
    rw [if_neg (by decide), if_neg (by decide), if_neg (by decide)]
    rcases hb with hb | ⟨h2, hb⟩
    · by_cases h1 : m + 1 < s.size
      · rw [drop_at h1, drop_end (show s.size ≤ m + 1 + 1 by omega)]
      · rw [drop_end (show s.size ≤ m + 1 by omega)]
    · rw [drop_at (show m + 1 < s.size by omega), drop_at (show m + 1 + 1 < s.size by omega)]
      simp only
      rw [if_pos hb]
theorem QI.plain {s : ByteArray} {p m : Nat} {acc : List UInt8} (h : QI s p m acc) (hp : p + 1 ≤ m) (hm : m < s.size) (h1 : s[m] ≠ 34) (h2 : ¬ (s[m].toNat < 32 ∨ 126 < s[m].toNat)) (h3 : s[m] ≠ 92) : QI s p (m + 1) (acc ++ [s[m]]) := by
  obtain ⟨f, hf, he⟩ := h
  rw [drop_at hm] at hf he
  cases f with
  | zero => omega
  | succ f =>
    refine ⟨f, by simp only [List.length_cons] at hf; omega, ?_⟩
    rw [he]
    simp only [strF]
    rw [if_neg h1, if_neg h2, if_pos h3, Option.map_map]
    congr 1
    funext x
    simp
    omega
theorem QI.hex {s : ByteArray} {p m : Nat} {acc : List UInt8} (h : QI s p m acc) (hp : p + 1 ≤ m) (h2 : m + 2 < s.size) (hc : s[m] = 92) (ha : hexv s[m + 1] ≠ 16) (hb : hexv s[m + 2] ≠ 16) : QI s p (m + 3) (acc ++ [UInt8.ofNat (16 * hexv s[m + 1] + hexv s[m + 2])]) := by
  obtain ⟨f, hf, he⟩ := h
  rw [drop_at (show m < s.size by omega), drop_at (show m + 1 < s.size by omega), drop_at (show m + 1 + 1 < s.size by omega), hc, show m + 1 + 1 + 1 = m + 3 from rfl] at hf he
  cases f with
  | zero => omega
  | succ f =>
    refine ⟨f, by simp only [List.length_cons] at hf; omega, ?_⟩
    rw [he]
    simp only [strF]
    rw [if_neg (by decide), if_neg (by decide), if_neg (by decide), if_neg (by intro e; rcases e with e | e; exact ha e; exact hb e), Option.map_map]
    congr 1
    funext x
    simp
    omega
/-- the bytes that are gathered -/
theorem u8_snoc (acc : List UInt8) (c : UInt8) : u8s acc ++ [.int .u8 (c.toNat : Int)] = u8s (acc ++ [c]) := by simp [u8s]
theorem conv_any {W : World} {B : Nat} {v : Value} {l : List UInt8} (h : W.ownsRow B 5 1 v l.length (u8s l)) : (convert 72 9 v).run Try.prog W = .ok (.string ⟨l.toArray⟩) W := by
  by_cases hl : 0 < l.length
  · exact own_conv h hl
  · have h0 : l = [] := List.length_eq_zero_iff.1 (by omega)
    subst h0
    rcases h.2 with ⟨rfl, -⟩ | ⟨g, cap, cur, rfl, -⟩
    · rw [run_convert_bytes_string W 72 9 5 none 0 0 Try.underlying72 Try.underlying5 Try.underlying9]
      rfl
    · exact run_convert_bytes_back W 72 9 5 ⟨g, 0, none⟩ cap [] Try.underlying72 Try.underlying5 Try.underlying9 (fun j hj => by simp at hj)
theorem Fq.grown {W X w' : World} {b : Nat} {row : Option Nat} (h : Fq W X b) (hb : b < W.heap.size) (hg : X.grownBy w' row) (hr : ∀ g, row = some g → W.heap.size ≤ g) : Fq W w' b :=
  ⟨h.below.grown hg (by have := h.below.size; omega) (fun g e => by have := hr g e; omega), fun k hk hkb => (hg.block k (Nat.lt_of_lt_of_le hk h.below.size) (fun e => by have := hr k e.symm; omega)).trans (h.block k hk hkb)⟩
theorem quiet_at {P : Program} {f : FuncId} {args : Array Value} {v : Value} (h : ∀ w, Calls P f args w fun e w' => e = .returned v ∧ w' = w) (w : World) (a : Nat) : Calls P f args (w.drewN a) fun e w'' => e = .returned v ∧ ∃ n, w'' = w.drewN n :=
  (h _).mono fun _ _ ⟨he, hw⟩ => ⟨he, a, hw⟩
/-- what quoted does -/
def QP (W : World) (b : Nat) (s : ByteArray) (p : Nat) (tx : Bool) (ts : ByteArray) (tp : Nat) (dp : Int) (o : Option (List UInt8 × Nat)) (e : Ending) (W' : World) : Prop := match o with
  | some (x, n) => e = .returned (.string ⟨x.toArray⟩) ∧ RD W' b s (p + 1 + n) tx ts tp dp ∧ Fq W W' b
  | none => PB W W' b s p 50 e

set_option maxHeartbeats 4000000 in
set_option maxRecDepth 100000 in
theorem quoted_any (W : World) (b : Nat) (s : ByteArray) (p : Nat) (tx : Bool) (ts : ByteArray) (tp : Nat) (dp : Int) (h : RD W b s p tx ts tp dp) (hp : p < s.size) (hs : s.size ≤ 4096) :
    Calls Try.prog 56 #[.pointer (some ⟨b, 0, none⟩)] W fun e W' => QP W b s p tx ts tp dp (strL (s.data.toList.drop (p + 1))) e W' := by
  obtain ⟨i0, hi0, hz0, hz1, hz2⟩ := info_parts info_u8
  have c1 := h.c1
  have fz := h.fz
  have k1 : IntKind.i64.wrap ((p : Int) + 1) = (p : Int) + 1 := IntWalk.i64_in _ (by omega)
  have hR0 := h.move (p + 1) (z := (p : Int) + 1) (by omega)
  have hF0 := (Fq.refl W b).set 1 (.int .i64 ((p : Int) + 1))
  go_enter Try.func56, Try.ntmps56
  go_wp2_with fail
  clear c1 fz
  generalize W.setCell ⟨b, 1, none⟩ (.int .i64 ((p : Int) + 1)) = W1 at *
  have hO0 : W1.ownsRow W.heap.size 5 1 (.slice none 0 0) 0 (u8s []) := World.ownsRow_nil _ _ _ _
  have hblt := h.lt
  go_loopw [4, 5, 6, 81, 118, 138] (fun kv _ _ _ _ _ wr => ∃ (m : Nat) (acc : List UInt8) (v : Value), v = kv ∧ p + 1 ≤ m ∧ m ≤ s.size + 3 ∧ acc.length ≤ m ∧ QI s p m acc ∧ wr.ownsRow W.heap.size 5 1 v acc.length (u8s acc) ∧ RD wr b s m tx ts tp dp ∧ Fq W wr b) (fun _ _ _ _ _ _ wr => mz s b wr)
  case atStart => exact ⟨p + 1, [], _, rfl, Nat.le_refl _, by omega, Nat.zero_le _, QI.start s p, hO0, hR0, hF0⟩
  case round =>
    obtain ⟨m, acc, v, rfl, hm1, hm2, hal, hq, hown, hR, hF⟩ := hrel
    have HQ := Lib.hid hq
    have HO := Lib.hid hown
    have HR0 := Lib.hid hR
    clear hO0 hR0 hF0 hq hown
    have c0 := hR.c0
    have c1 := hR.c1
    have fz := hR.fz
    by_cases hm : m < s.size
    rotate_left
    · have k2 : decide ((s.size : Int) ≤ m) = true := by simp; omega
      have k3 : s.size ≤ m := by omega
      have HB := Lib.hid (HQ.out.bad (bad_end (by omega)))
      clear hm
      go_wp2_with fail
      go_quiet (fail)
      go_wp2_with fail
      refine (fail_any p 50 _).mono ?_
      rintro e w9 ⟨rfl, rfl⟩
      refine ⟨rfl, ?_⟩
      rw [HB.out]
      exact ⟨rfl, ⟨m, tx, ts, tp, dp, hR.drewN _⟩, hF.drew _⟩
    · have k2 : decide ((s.size : Int) ≤ m) = false := by simp; omega
      have k3 : ¬ s.size ≤ m := by omega
      by_cases g1 : s[m].toNat < 32
      · have j1 : decide ((s[m].toNat : Int) < 32) = true := by simp; omega
        have HB := Lib.hid (HQ.out.bad (bad_ctl hm (.inl g1)))
        clear k2
        go_wp2_with fail
        go_quiet (fail)
        go_wp2_with fail
        refine (fail_any p 50 _).mono ?_
        rintro e w9 ⟨rfl, rfl⟩
        refine ⟨rfl, ?_⟩
        rw [HB.out]
        exact ⟨rfl, ⟨m, tx, ts, tp, dp, hR.drewN _⟩, hF.drew _⟩
      · have j1 : decide ((s[m].toNat : Int) < 32) = false := by simp; omega
        by_cases g2 : 126 < s[m].toNat
        · have j2 : decide ((126 : Int) < (s[m].toNat : Int)) = true := by simp; omega
          have HB := Lib.hid (HQ.out.bad (bad_ctl hm (.inr g2)))
          clear k2
          go_wp2_with fail
          go_quiet (fail)
          go_wp2_with fail
          refine (fail_any p 50 _).mono ?_
          rintro e w9 ⟨rfl, rfl⟩
          refine ⟨rfl, ?_⟩
          rw [HB.out]
          exact ⟨rfl, ⟨m, tx, ts, tp, dp, hR.drewN _⟩, hF.drew _⟩
        · have j2 : decide ((126 : Int) < (s[m].toNat : Int)) = false := by simp; omega
          have hkm : IntKind.i64.wrap ((m : Int) + 1) = (m : Int) + 1 := IntWalk.i64_in _ (by omega)
          by_cases g3 : s[m] = 34
          · have j3 : ((s[m].toNat : Int) == 34) = true := by rw [g3]; rfl
            have HS := Lib.hid (HQ.out.stop hm g3)
            clear g3
            go_wp2_with fail
            go_quiet (fail)
            replace hR := hR.drewN nq
            replace hF := hF.drew nq
            replace HO := Lib.hid (own_block HO.out (w' := wr.drewN nq) (fun _ _ => rfl))
            clear c0 c1 fz
            generalize wr.drewN nq = wr at *
            have c0 := hR.c0
            have c1 := hR.c1
            have fz := hR.fz
            go_wp2_with fail
            go_quiet (fail)
            replace hR := hR.drewN nq
            replace hF := hF.drew nq
            replace HO := Lib.hid (own_block HO.out (w' := wr.drewN nq) (fun _ _ => rfl))
            clear c0 c1 fz
            generalize wr.drewN nq = wr at *
            have c0 := hR.c0
            have c1 := hR.c1
            have fz := hR.fz
            have hcv : ∀ z, (convert 72 9 v).run Try.prog (wr.setCell ⟨b, 1, none⟩ z) = .ok (.string ⟨acc.toArray⟩) (wr.setCell ⟨b, 1, none⟩ z) := fun z => conv_any (own_block HO.out (fun j hj => Below.heap_setCell _ _ _ _ (by have := (HO.out.lt j hj).1; show j ≠ b; omega)))
            go_wp2_with fail
            go_ret
            rw [HS.out]
            exact ⟨rfl, by rw [show p + 1 + (m - (p + 1) + 1) = m + 1 by omega]; exact hR.move (m + 1) (by omega), hF.set _ _⟩
          · have j3 : ((s[m].toNat : Int) == 34) = false := by
              rw [beq_eq_false_iff_ne]
              intro e
              exact g3 (u8_eq (n := 34) (by omega) (by decide))
            by_cases g4 : s[m] = 92
            rotate_left
            · have j4 : ((s[m].toNat : Int) == 92) = false := by
                rw [beq_eq_false_iff_ne]
                intro e
                exact g4 (u8_eq (n := 92) (by omega) (by decide))
              have j5 : ((s[m].toNat : Int) != 92) = true := by rw [bne, j4]; rfl
              have HN := Lib.hid (HQ.out.plain hm1 hm g3 (by omega) g4)
              have HU := Lib.hid (u8_snoc acc s[m])
              clear g3 g4
              go_wp2_with fail
              go_quiet (fail)
              replace hR := hR.drewN nq
              replace hF := hF.drew nq
              replace HO := Lib.hid (own_block HO.out (w' := wr.drewN nq) (fun _ _ => rfl))
              clear c0 c1 fz
              generalize wr.drewN nq = wr at *
              have c0 := hR.c0
              have c1 := hR.c1
              have fz := hR.fz
              go_wp2_with fail
              go_quiet (fail)
              replace hR := hR.drewN nq
              replace hF := hF.drew nq
              replace HO := Lib.hid (own_block HO.out (w' := wr.drewN nq) (fun _ _ => rfl))
              clear c0 c1 fz
              generalize wr.drewN nq = wr at *
              have c0 := hR.c0
              have c1 := hR.c1
              have fz := hR.fz
              go_wp2_with fail
              go_quiet (fail)
              replace hR := hR.drewN nq
              replace hF := hF.drew nq
              replace HO := Lib.hid (own_block HO.out (w' := wr.drewN nq) (fun _ _ => rfl))
              clear c0 c1 fz
              generalize wr.drewN nq = wr at *
              have c0 := hR.c0
              have c1 := hR.c1
              have fz := hR.fz
              have e0 := Sx.ext_cell c0
              have e1 := Sx.ext_cell c1
              go_wp2_with fail
              refine Mix.region (fun w' => ∃ Y, w' = Sx.ext wr Y) 11 [0, 0, 0, 0, 0, 0, 0, 0, 0, 0, 1, 9, 9] [true, false] (by kernel_rfl) (fun _ _ d _ _ h => by cases d <;> exact h) (by rfl) (by kernel_rfl) ⟨wr.drew, Sx.ext_of (Below.refl _ _).drew⟩ ?_
              simp only [Mix.selP_cons, Mix.selP_nil, Mix.sel_cons, Mix.sel_nil, Nat.reduceBEq, Nat.reduceAdd, cond_true, cond_false, List.drop_succ_cons, List.drop_zero]
              refine Mix.parts_q ?_
              repeat (go_big_quiet_step (fail))
              refine wpQuiet_nil ?_
              refine Mix.parts_e ?_
              clear e0 e1
              refine Mix.eff_step (fun K hK => ?_)
              go_simp
              have hB7 := (Below.refl wr.heap.size wr).drew.alloc (Nat.le_refl _) (.cells #[.int .u8 (s[m].toNat : Int)] 5)
              refine hK _ _ ⟨_, Sx.ext_of hB7⟩ ?_
              clear hK K
              refine Mix.eff_nil (Mix.parts_n ?_)
              replace hR := hR.keep hB7
              replace hF := hF.step hblt hB7
              replace HO := Lib.hid (own_block HO.out (fun j hj => hB7.block j (HO.out.lt j hj).2))
              clear c0 c1 fz hB7
              go_wp2_with (first
                | (at_builtin; refine wpList_append_own _ rfl _ _ 72 rfl W.heap.size 5 i0 _ 1 1 Try.underlying72 hi0 hz0 hz1 hz2 rfl (by decide) v acc.length _ rfl HO.out ⟨wr.heap.size, 0, none⟩ 1 1 [.int .u8 (s[m].toNat : Int)] rfl rfl ?d1 ?d2 ?d3 ?d4 ?d5 ?_))
              case d1 =>
                intro j q hj
                match j, hj with
                | 0, hj => simp at hj; subst hj; simp [Addr.add]
              case d2 => intro q hq; simp at hq; subst hq; rfl
              case d3 => unfold maxLen; omega
              case d4 => omega
              case d5 => simp; have := hF.below.size; simp at this; omega
              intro v' w9 hown9 hg9 _
              rw [HU.out] at hown9
              have hne : some b ≠ v.ownBlock := fun e => by have := (HO.out.lt b e.symm).1; omega
              have hR9 := hR.block hg9.size (hg9.block b hR.lt hne)
              have hF9 := hF.grown hblt hg9 (fun g hg => (HO.out.lt g hg).1)
              have HO9 := Lib.hid (show w9.ownsRow W.heap.size 5 1 v' (acc ++ [s[m]]).length (u8s (acc ++ [s[m]])) by rw [List.length_append]; exact hown9)
              have c1 := hR9.c1
              have fz := hR9.fz
              clear hown9 hg9 hR hF hne
              go_wp2_with fail
              go_roundw
              case rel => exact ⟨m + 1, acc ++ [s[m]], _, rfl, by omega, by omega, by simp; omega, HN.out, own_block HO9.out (fun j hj => Below.heap_setCell _ _ _ _ (by have := (HO9.out.lt j hj).1; show j ≠ b; omega)), hR9.move (m + 1) (by omega), hF9.set _ _⟩
              case measure =>
                show mz s b _ < mz s b _
                rw [mz_of HR0.out, mz_of (hR9.move (m + 1) (z := (m : Int) + 1) (by omega))]
                omega
            · have j4 : ((s[m].toNat : Int) == 92) = true := by rw [g4]; rfl
              have j5 : ((s[m].toNat : Int) != 92) = false := by rw [bne, j4]; rfl
              have k5 : IntKind.i64.wrap ((m : Int) + 2) = (m : Int) + 2 := IntWalk.i64_in _ (by omega)
              by_cases h2 : m + 2 < s.size
              rotate_left
              · have j6 : decide ((m : Int) + 2 < s.size) = false := by simp; omega
                have j7 : ¬ (m : Int) + 2 < s.size := by omega
                have HB := Lib.hid (HQ.out.bad (bad_hex hm g4 (.inl (by omega))))
                clear g3 g4 h2
                go_wp2_with fail
                go_quiet (fail)
                replace hR := hR.drewN nq
                replace hF := hF.drew nq
                replace HO := Lib.hid (own_block HO.out (w' := wr.drewN nq) (fun _ _ => rfl))
                clear c0 c1 fz
                generalize wr.drewN nq = wr at *
                have c0 := hR.c0
                have c1 := hR.c1
                have fz := hR.fz
                go_wp2_with fail
                go_quiet (fail)
                replace hR := hR.drewN nq
                replace hF := hF.drew nq
                replace HO := Lib.hid (own_block HO.out (w' := wr.drewN nq) (fun _ _ => rfl))
                clear c0 c1 fz
                generalize wr.drewN nq = wr at *
                have c0 := hR.c0
                have c1 := hR.c1
                have fz := hR.fz
                go_wp2_with fail
                go_quiet (fail)
                replace hR := hR.drewN nq
                replace hF := hF.drew nq
                replace HO := Lib.hid (own_block HO.out (w' := wr.drewN nq) (fun _ _ => rfl))
                clear c0 c1 fz
                generalize wr.drewN nq = wr at *
                have c0 := hR.c0
                have c1 := hR.c1
                have fz := hR.fz
                go_wp2_with fail
                go_quiet (fail)
                replace hR := hR.drewN nq
                replace hF := hF.drew nq
                replace HO := Lib.hid (own_block HO.out (w' := wr.drewN nq) (fun _ _ => rfl))
                clear c0 c1 fz
                generalize wr.drewN nq = wr at *
                have c0 := hR.c0
                have c1 := hR.c1
                have fz := hR.fz
                go_wp2_with fail
                refine (fail_any p 50 _).mono ?_
                rintro e w9 ⟨rfl, rfl⟩
                refine ⟨rfl, ?_⟩
                rw [HB.out]
                exact ⟨rfl, ⟨m, tx, ts, tp, dp, hR⟩, hF⟩
              · have j6 : decide ((m : Int) + 2 < s.size) = true := by simp; omega
                have j7 : (m : Int) + 2 < s.size := by omega
                have j8 : (m : Int) + 1 < s.size := by omega
                have ha := hexv_le s[m + 1]
                have hb := hexv_le s[m + 2]
                have i1 := fun w => hexi_any s[m + 1] w
                have i2 := fun w => hexi_any s[m + 2] w
                by_cases gh : hexv s[m + 1] = 16 ∨ hexv s[m + 2] = 16
                · have HB := Lib.hid (HQ.out.bad (bad_hex hm g4 (.inr ⟨h2, gh⟩)))
                  by_cases ga : hexv s[m + 1] = 16
                  · have e1 : hx s[m + 1] = -1 := if_pos ga
                    rw [e1] at i1
                    clear g3 g4 e1 ga gh
                    go_wp2_with fail
                    go_quiet (fail)
                    replace hR := hR.drewN nq
                    replace hF := hF.drew nq
                    replace HO := Lib.hid (own_block HO.out (w' := wr.drewN nq) (fun _ _ => rfl))
                    clear c0 c1 fz
                    generalize wr.drewN nq = wr at *
                    have c0 := hR.c0
                    have c1 := hR.c1
                    have fz := hR.fz
                    go_wp2_with fail
                    go_quiet (fail)
                    replace hR := hR.drewN nq
                    replace hF := hF.drew nq
                    replace HO := Lib.hid (own_block HO.out (w' := wr.drewN nq) (fun _ _ => rfl))
                    clear c0 c1 fz
                    generalize wr.drewN nq = wr at *
                    have c0 := hR.c0
                    have c1 := hR.c1
                    have fz := hR.fz
                    go_wp2_with fail
                    go_quiet (fail)
                    replace hR := hR.drewN nq
                    replace hF := hF.drew nq
                    replace HO := Lib.hid (own_block HO.out (w' := wr.drewN nq) (fun _ _ => rfl))
                    clear c0 c1 fz
                    generalize wr.drewN nq = wr at *
                    have c0 := hR.c0
                    have c1 := hR.c1
                    have fz := hR.fz
                    go_wp2_with fail
                    go_quiet (fail)
                    replace hR := hR.drewN nq
                    replace hF := hF.drew nq
                    replace HO := Lib.hid (own_block HO.out (w' := wr.drewN nq) (fun _ _ => rfl))
                    clear c0 c1 fz
                    generalize wr.drewN nq = wr at *
                    have c0 := hR.c0
                    have c1 := hR.c1
                    have fz := hR.fz
                    have n1 : (0 : Int) ≤ (m : Int) + 1 := by omega
                    have n2 : (0 : Int) ≤ (m : Int) + 2 := by omega
                    have t1 : ((m : Int) + 1).toNat = m + 1 := by omega
                    have t2 : ((m : Int) + 2).toNat = m + 2 := by omega
                    have b1 : m + 1 < s.size := by omega
                    have i1' := quiet_at i1
                    have i2' := quiet_at i2
                    go_wp2_with fail
                    go_quiet (first | (go_at_call 55; exact i1' _ _) | (go_at_call 55; exact i2' _ _))
                    replace hR := hR.drewN nq
                    replace hF := hF.drew nq
                    replace HO := Lib.hid (own_block HO.out (w' := wr.drewN nq) (fun _ _ => rfl))
                    clear c0 c1 fz
                    generalize wr.drewN nq = wr at *
                    have c0 := hR.c0
                    have c1 := hR.c1
                    have fz := hR.fz
                    go_wp2_with fail
                    refine (fail_any p 50 _).mono ?_
                    rintro e w9 ⟨rfl, rfl⟩
                    refine ⟨rfl, ?_⟩
                    rw [HB.out]
                    exact ⟨rfl, ⟨m, tx, ts, tp, dp, hR⟩, hF⟩
                  · have e1 : hx s[m + 1] = (hexv s[m + 1] : Int) := if_neg ga
                    have e2 : hx s[m + 2] = -1 := if_pos (gh.resolve_left ga)
                    rw [e1] at i1
                    rw [e2] at i2
                    have l1 : ¬ (hexv s[m + 1] : Int) < 0 := by omega
                    clear g3 g4 e1 e2 ga gh
                    go_wp2_with fail
                    go_quiet (fail)
                    replace hR := hR.drewN nq
                    replace hF := hF.drew nq
                    replace HO := Lib.hid (own_block HO.out (w' := wr.drewN nq) (fun _ _ => rfl))
                    clear c0 c1 fz
                    generalize wr.drewN nq = wr at *
                    have c0 := hR.c0
                    have c1 := hR.c1
                    have fz := hR.fz
                    go_wp2_with fail
                    go_quiet (fail)
                    replace hR := hR.drewN nq
                    replace hF := hF.drew nq
                    replace HO := Lib.hid (own_block HO.out (w' := wr.drewN nq) (fun _ _ => rfl))
                    clear c0 c1 fz
                    generalize wr.drewN nq = wr at *
                    have c0 := hR.c0
                    have c1 := hR.c1
                    have fz := hR.fz
                    go_wp2_with fail
                    go_quiet (fail)
                    replace hR := hR.drewN nq
                    replace hF := hF.drew nq
                    replace HO := Lib.hid (own_block HO.out (w' := wr.drewN nq) (fun _ _ => rfl))
                    clear c0 c1 fz
                    generalize wr.drewN nq = wr at *
                    have c0 := hR.c0
                    have c1 := hR.c1
                    have fz := hR.fz
                    go_wp2_with fail
                    go_quiet (fail)
                    replace hR := hR.drewN nq
                    replace hF := hF.drew nq
                    replace HO := Lib.hid (own_block HO.out (w' := wr.drewN nq) (fun _ _ => rfl))
                    clear c0 c1 fz
                    generalize wr.drewN nq = wr at *
                    have c0 := hR.c0
                    have c1 := hR.c1
                    have fz := hR.fz
                    have n1 : (0 : Int) ≤ (m : Int) + 1 := by omega
                    have n2 : (0 : Int) ≤ (m : Int) + 2 := by omega
                    have t1 : ((m : Int) + 1).toNat = m + 1 := by omega
                    have t2 : ((m : Int) + 2).toNat = m + 2 := by omega
                    have b1 : m + 1 < s.size := by omega
                    have i1' := quiet_at i1
                    have i2' := quiet_at i2
                    go_wp2_with fail
                    go_quiet (first | (go_at_call 55; exact i1' _ _) | (go_at_call 55; exact i2' _ _))
                    replace hR := hR.drewN nq
                    replace hF := hF.drew nq
                    replace HO := Lib.hid (own_block HO.out (w' := wr.drewN nq) (fun _ _ => rfl))
                    clear c0 c1 fz
                    generalize wr.drewN nq = wr at *
                    have c0 := hR.c0
                    have c1 := hR.c1
                    have fz := hR.fz
                    go_wp2_with fail
                    refine (fail_any p 50 _).mono ?_
                    rintro e w9 ⟨rfl, rfl⟩
                    refine ⟨rfl, ?_⟩
                    rw [HB.out]
                    exact ⟨rfl, ⟨m, tx, ts, tp, dp, hR⟩, hF⟩
                · have HN := Lib.hid (HQ.out.hex hm1 h2 g4 (fun e => gh (.inl e)) (fun e => gh (.inr e)))
                  have e1 : hx s[m + 1] = (hexv s[m + 1] : Int) := if_neg (fun e => gh (.inl e))
                  have e2 : hx s[m + 2] = (hexv s[m + 2] : Int) := if_neg (fun e => gh (.inr e))
                  rw [e1] at i1
                  rw [e2] at i2
                  have l1 : ¬ (hexv s[m + 1] : Int) < 0 := by omega
                  have l2 : ¬ (hexv s[m + 2] : Int) < 0 := by omega
                  clear g3 g4 e1 e2
                  go_wp2_with fail
                  go_quiet (fail)
                  replace hR := hR.drewN nq
                  replace hF := hF.drew nq
                  replace HO := Lib.hid (own_block HO.out (w' := wr.drewN nq) (fun _ _ => rfl))
                  clear c0 c1 fz
                  generalize wr.drewN nq = wr at *
                  have c0 := hR.c0
                  have c1 := hR.c1
                  have fz := hR.fz
                  go_wp2_with fail
                  go_quiet (fail)
                  replace hR := hR.drewN nq
                  replace hF := hF.drew nq
                  replace HO := Lib.hid (own_block HO.out (w' := wr.drewN nq) (fun _ _ => rfl))
                  clear c0 c1 fz
                  generalize wr.drewN nq = wr at *
                  have c0 := hR.c0
                  have c1 := hR.c1
                  have fz := hR.fz
                  go_wp2_with fail
                  go_quiet (fail)
                  replace hR := hR.drewN nq
                  replace hF := hF.drew nq
                  replace HO := Lib.hid (own_block HO.out (w' := wr.drewN nq) (fun _ _ => rfl))
                  clear c0 c1 fz
                  generalize wr.drewN nq = wr at *
                  have c0 := hR.c0
                  have c1 := hR.c1
                  have fz := hR.fz
                  go_wp2_with fail
                  go_quiet (fail)
                  replace hR := hR.drewN nq
                  replace hF := hF.drew nq
                  replace HO := Lib.hid (own_block HO.out (w' := wr.drewN nq) (fun _ _ => rfl))
                  clear c0 c1 fz
                  generalize wr.drewN nq = wr at *
                  have c0 := hR.c0
                  have c1 := hR.c1
                  have fz := hR.fz
                  go_wp2_with fail
                  have n1 : (0 : Int) ≤ (m : Int) + 1 := by omega
                  have n2 : (0 : Int) ≤ (m : Int) + 2 := by omega
                  have t1 : ((m : Int) + 1).toNat = m + 1 := by omega
                  have t2 : ((m : Int) + 2).toNat = m + 2 := by omega
                  have b1 : m + 1 < s.size := by omega
                  have i1' := quiet_at i1
                  have i2' := quiet_at i2
                  go_quiet (first | (go_at_call 55; exact i1' _ _) | (go_at_call 55; exact i2' _ _))
                  replace hR := hR.drewN nq
                  replace hF := hF.drew nq
                  replace HO := Lib.hid (own_block HO.out (w' := wr.drewN nq) (fun _ _ => rfl))
                  clear c0 c1 fz i1 i2 i1' i2'
                  generalize wr.drewN nq = wr at *
                  have c0 := hR.c0
                  have c1 := hR.c1
                  have fz := hR.fz
                  have qv := or_hexv (a := hexv s[m + 1]) (b := hexv s[m + 2]) (by omega) (by omega)
                  obtain ⟨c, hc⟩ : ∃ c, c = UInt8.ofNat (16 * hexv s[m + 1] + hexv s[m + 2]) := ⟨_, rfl⟩
                  rw [← hc] at qv HN
                  have HU := Lib.hid (u8_snoc acc c)
                  have k6 : IntKind.i64.wrap ((m : Int) + 2 + 1) = (m : Int) + 3 := by rw [IntWalk.i64_in _ (by omega)]; omega
                  have k7 : IntKind.i64.wrap ((m : Int) + 3) = (m : Int) + 3 := IntWalk.i64_in _ (by omega)
                  clear hc gh
                  have hB7 := (Below.refl wr.heap.size wr).alloc (Nat.le_refl _) (.cells #[.int .u8 (c.toNat : Int)] 5)
                  have HO7 := Lib.hid (own_block HO.out (fun j hj => hB7.block j (HO.out.lt j hj).2))
                  have hR7 := hR.keep hB7
                  have hF7 := hF.step hblt hB7
                  clear hB7 c0 c1 fz
                  go_wp2_with (first
                    | (at_builtin; refine wpList_append_own _ rfl _ _ 72 rfl W.heap.size 5 i0 _ 1 1 Try.underlying72 hi0 hz0 hz1 hz2 rfl (by decide) v acc.length _ rfl HO7.out ⟨wr.heap.size, 0, none⟩ 1 1 [.int .u8 (c.toNat : Int)] rfl rfl ?d1 ?d2 ?d3 ?d4 ?d5 ?_))
                  case d1 =>
                    intro j q hj
                    match j, hj with
                    | 0, hj => simp at hj; subst hj; simp [Addr.add]
                  case d2 => intro q hq; simp at hq; subst hq; rfl
                  case d3 => unfold maxLen; omega
                  case d4 => omega
                  case d5 => exact hF7.below.size
                  intro v' w9 hown9 hg9 _
                  rw [HU.out] at hown9
                  have hne : some b ≠ v.ownBlock := fun e => by have := (HO7.out.lt b e.symm).1; omega
                  have hR9 := hR7.block hg9.size (hg9.block b hR7.lt hne)
                  have hF9 := hF7.grown hblt hg9 (fun g hg => (HO7.out.lt g hg).1)
                  have HO9 := Lib.hid (show w9.ownsRow W.heap.size 5 1 v' (acc ++ [c]).length (u8s (acc ++ [c])) by rw [List.length_append]; exact hown9)
                  have c1 := hR9.c1
                  have fz := hR9.fz
                  have lt9 := hR9.lt
                  clear hown9 hg9 hR hF hne hR7 hF7 HO7 qv
                  go_wp2_with fail
                  go_roundw
                  case rel => exact ⟨m + 3, acc ++ [c], _, rfl, by omega, by omega, by simp; omega, HN.out, own_block HO9.out (fun j hj => (Below.heap_setCell _ _ _ _ (by have := (HO9.out.lt j hj).1; show j ≠ b; omega)).trans (Below.heap_setCell _ _ _ _ (by have := (HO9.out.lt j hj).1; show j ≠ b; omega))), (hR9.move (m + 2) (by omega)).move (m + 3) (by omega), (hF9.set _ _).set _ _⟩
                  case measure =>
                    show mz s b _ < mz s b _
                    rw [mz_of HR0.out, mz_of ((hR9.move (m + 2) (z := (m : Int) + 2) (by omega)).move (m + 3) (z := (m : Int) + 3) (by omega))]
                    omega
end Rc
end Go.Proofs.Ytcigggffaofkhaa
