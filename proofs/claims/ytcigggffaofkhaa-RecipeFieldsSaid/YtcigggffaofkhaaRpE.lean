/-
  Walks: the printer's put and quote. (printed by gen_RpE.py)
-/
import Derived.Test.YtcigggffaofkhaaRpP
import Derived.Test.YtcigggffaofkhaaRcQ
namespace Go.Proofs.Ytcigggffaofkhaa
open Go.RowKit
namespace Rc

theorem own_u8 {W : World} {B e size n : Nat} {v : Value} {xs : List Value} (h : W.ownsRow B e size v n xs) {k : Nat} (hk : v.ownBlock = some k) : ∃ cur, W.heap[k]? = some (.cells cur e (0, 0)) := by
  rcases h.2 with ⟨rfl, _⟩ | ⟨g, cap, cur, rfl, hg, hgg, rest⟩
  · simp [Value.ownBlock] at hk
  · simp [Value.ownBlock] at hk
    subst hk
    exact ⟨cur, hgg⟩
/-- the printer in block b: what is printed so far -/
structure PR (W : World) (b : Nat) (out : List UInt8) (v : Value) : Prop where
  lt : b < W.heap.size
  c0 : W.cell? ⟨b, 0, none⟩ = some v
  fz : ∀ j, W.frozen? ⟨b, j, none⟩ = false
  own : W.ownsRow (b + 1) 5 1 v out.length (u8s out)
/-- from W to W' nothing is written but the printer in block b, and rows of bytes above it -/
structure Fr (W W' : World) (b : Nat) : Prop where
  below : Below b W W'
  block : ∀ k, k < W.heap.size → k ≠ b → (∀ cur, W.heap[k]? ≠ some (.cells cur 5 (0, 0))) → W'.heap[k]? = W.heap[k]?
theorem Fr.refl (W : World) (b : Nat) : Fr W W b := ⟨Below.refl _ _, fun _ _ _ _ => rfl⟩
theorem Fr.trans {W W' W'' : World} {b : Nat} (h : Fr W W' b) (g : Fr W' W'' b) : Fr W W'' b := by
  refine ⟨h.below.trans g.below, fun k hk h1 h2 => ?_⟩
  have e := h.block k hk h1 h2
  refine (g.block k (Nat.lt_of_lt_of_le hk h.below.size) h1 ?_).trans e
  rw [e]
  exact h2
theorem Fr.of_below {W W' : World} {b : Nat} (h : Below W.heap.size W W') (hlt : b ≤ W.heap.size) : Fr W W' b := ⟨h.mono hlt, fun k hk _ _ => h.block k hk⟩
theorem PR.keep {W W' : World} {b : Nat} {out : List UInt8} {v : Value} (h : PR W b out v) (hb : Below W.heap.size W W') : PR W' b out v := by
  obtain ⟨hc, hf⟩ := Sx.bcell hb
  refine ⟨Nat.lt_of_lt_of_le h.lt hb.size, (hc _ _ h.lt).trans h.c0, fun j => (hf _ _ h.lt).trans (h.fz j), ?_⟩
  exact own_block h.own (fun k hk => hb.block k ((h.own.lt k hk).2))
/-- a cell of a block that is no row of bytes stands -/
theorem Fr.cell {W W' : World} {b : Nat} (h : Fr W W' b) {k o : Nat} {u : Value} (hc : W.cell? ⟨k, o, none⟩ = some u) (hk : k ≠ b) (hn : ∀ cur, W.heap[k]? ≠ some (.cells cur 5 (0, 0))) : W'.cell? ⟨k, o, none⟩ = some u :=
  (World.cell?_of_block (h.block k (World.block_lt_of_cell? W _ hc) hk hn)).trans hc
theorem put_world {W W1 : World} {b : Nat} {out : List UInt8} {s : ByteArray} {v v' : Value} (h : PR W b out v) (hown : W1.ownsRow (b + 1) 5 1 v' (out.length + s.size) (u8s out ++ Lib.strCells s)) (hg : W.grownBy W1 v.ownBlock) :
    PR (W1.setCell ⟨b, 0, none⟩ v') b (out ++ s.data.toList) v' ∧ Fr W (W1.setCell ⟨b, 0, none⟩ v') b := by
  have hne : some b ≠ v.ownBlock := fun e => by have := (h.own.lt b e.symm).1; omega
  have hblk := hg.block b h.lt hne
  have hc : ∀ o, W1.cell? ⟨b, o, none⟩ = W.cell? ⟨b, o, none⟩ := fun o => World.cell?_of_block hblk
  have hlen : out.length + s.size = (out ++ s.data.toList).length := by rw [List.length_append, Lib.size_eq]
  rw [hlen] at hown
  have hne' : ∀ k, v'.ownBlock = some k → b + 1 ≤ k := fun k hk => (hown.lt k hk).1
  refine ⟨⟨by have := h.lt; have := hg.size; simp [World.setCell]; omega, World.cell?_setCell_same _ _ _ ((hc 0).trans h.c0), fun j => ?_, ?_⟩, ⟨?_, fun k hk h1 h2 => ?_⟩⟩
  · rw [World.frozen?_setCell]; exact (World.frozen?_of_block hblk).trans (h.fz j)
  · have e : u8s (out ++ s.data.toList) = u8s out ++ Lib.strCells s := u8s_app _ _
    rw [e]
    exact own_block hown (fun k hk => Below.heap_setCell _ _ _ _ (by have := hne' k hk; show k ≠ b; omega))
  · exact ((Below.refl b W).grown hg (Nat.le_of_lt h.lt) (fun k hk => by have := (h.own.lt k hk).1; omega)).setCell (Nat.le_refl _) _
  · refine (Below.heap_setCell _ _ _ _ h1).trans (hg.block k hk (fun e => ?_))
    obtain ⟨cur, hcur⟩ := own_u8 h.own e.symm
    exact h2 cur hcur
/-- what printing l does -/
def PP (W : World) (b : Nat) (out l : List UInt8) (e : Ending) (W' : World) : Prop :=
  (out.length + l.length ≤ 4096 ∧ e = .returned (.tuple #[]) ∧ (∃ v, PR W' b (out ++ l) v) ∧ Fr W W' b) ∨ (4096 < out.length + l.length ∧ e = .panicked (stopC 0 3) ∧ (∃ o v, PR W' b o v) ∧ Fr W W' b)
/-- printing a piece gave up: so the whole does -/
theorem PP.up {W W1 W' : World} {b : Nat} {out l l1 l' : List UInt8} {e : Ending} (h : 4096 < out.length + (l1 ++ l').length) (he : e = .panicked (stopC 0 3)) (hp : ∃ o v, PR W' b o v) (hF : Fr W W1 b) (hF1 : Fr W1 W' b) (hl : (l1 ++ l').length ≤ l.length) : PP W b out l e W' :=
  .inr ⟨by omega, he, hp, hF.trans hF1⟩
set_option maxHeartbeats 1000000 in
set_option maxRecDepth 100000 in
theorem put_any (W : World) (b : Nat) (out : List UInt8) (s : ByteArray) (v : Value) (h : PR W b out v) (hl : out.length ≤ 4096) (hs : s.size ≤ 1000000) :
    Calls Try.prog 39 #[.pointer (some ⟨b, 0, none⟩), .string s] W fun e W' => PP W b out s.data.toList e W' := by
  obtain ⟨i0, hi0, hz0, hz1, hz2⟩ := info_parts info_u8
  have hc0 := h.c0
  have hz := Lib.hid (Lib.size_eq s)
  go_enter Try.func39, Try.ntmps39
  go_wp2_with (first
    | (at_builtin; refine Lib.wpList_append_own_string _ rfl _ _ 72 9 rfl (b + 1) 5 i0 Try.underlying72 Try.underlying9 hi0 hz0 hz1 hz2 v out.length (u8s out) rfl h.own s rfl ?c1 ?c2 ?c3 ?_))
  case c1 => unfold maxLen; omega
  case c2 => omega
  case c3 => have := h.lt; omega
  intro v' W1 hown hg _
  obtain ⟨hws, hfr⟩ := put_world h hown hg
  clear hc0
  have hne : some b ≠ v.ownBlock := fun e => by have := (h.own.lt b e.symm).1; omega
  have hblk := hg.block b h.lt hne
  have hd0 : W1.cell? ⟨b, 0, none⟩ = some v := (World.cell?_of_block hblk).trans h.c0
  have hfz : ∀ o, W1.frozen? ⟨b, o, none⟩ = false := fun o => (World.frozen?_of_block hblk).trans (h.fz o)
  have hlt1 : b < W1.heap.size := Nat.lt_of_lt_of_le h.lt hg.size
  obtain ⟨sl, cap, rfl⟩ := own_form hown
  have HW := Lib.hid hws
  have HF := Lib.hid hfr
  clear hws hfr hown hg h hne hblk
  by_cases hL : 4096 < out.length + s.size
  · have hq : decide ((4096 : Int) < (out.length : Int) + s.size) = true := by simp; omega
    go_wp2_with fail
    refine (fail_any 0 3 _).mono ?_
    rintro e w9 ⟨rfl, rfl⟩
    exact ⟨rfl, .inr ⟨by rw [← hz.out]; exact hL, rfl, ⟨_, _, HW.out⟩, HF.out⟩⟩
  · have hq : decide ((4096 : Int) < (out.length : Int) + s.size) = false := by simp; omega
    go_wp2_with fail
    go_end0
    exact .inl ⟨by rw [← hz.out]; omega, rfl, ⟨_, HW.out⟩, HF.out⟩

/-! quote -/
theorem esc_size (c : UInt8) : (escB c).length ≤ 3 := by unfold escB; split <;> simp
def hexE (c : UInt8) : ByteArray := ⟨#[92, hexDig (c.toNat / 16), hexDig (c.toNat % 16)]⟩
theorem hexD_at : ∀ i : Fin 16, hexD.data[i.val]? = some (hexDig i.val) := by decide +kernel
theorem hexD_get {i : Nat} (h : i < hexD.size) (hi : i < 16) : hexD[i] = hexDig i := by
  have := hexD_at ⟨i, hi⟩
  have e : hexD.data[i]? = some (hexD[i]) := Array.getElem?_eq_getElem (by exact h)
  rw [e] at this
  exact Option.some.inj this
theorem hexD_div (c : UInt8) : ∀ h, (⟨#[48, 49, 50, 51, 52, 53, 54, 55, 56, 57, 97, 98, 99, 100, 101, 102]⟩ : ByteArray)[((c.toNat : Int) / 16).toNat]'h = hexDig (c.toNat / 16) := fun h => by
  have e : ((c.toNat : Int) / 16).toNat = c.toNat / 16 := by omega
  exact (hexD_get (i := ((c.toNat : Int) / 16).toNat) h (by have := c.toNat_lt; omega)).trans (by rw [e])
theorem hexD_and (c : UInt8) : ∀ h, (⟨#[48, 49, 50, 51, 52, 53, 54, 55, 56, 57, 97, 98, 99, 100, 101, 102]⟩ : ByteArray)[((c.toNat : Int) % 16).toNat]'h = hexDig (c.toNat % 16) := fun h => by
  have e : ((c.toNat : Int) % 16).toNat = c.toNat % 16 := by omega
  exact (hexD_get (i := ((c.toNat : Int) % 16).toNat) h (by omega)).trans (by rw [e])
theorem hex_conv (c : UInt8) (w : World) (g : Nat) (h0 : w.cell? ⟨g, 0, none⟩ = some (.int .u8 92)) (h1 : w.cell? ⟨g, 1, none⟩ = some (.int .u8 ((hexDig (c.toNat / 16)).toNat : Int))) (h2 : w.cell? ⟨g, 2, none⟩ = some (.int .u8 ((hexDig (c.toNat % 16)).toNat : Int))) :
    (convert 72 9 (.slice (some ⟨g, 0, none⟩) 3 3)).run Try.prog w = .ok (.string (hexE c)) w :=
  run_convert_bytes_back w 72 9 5 ⟨g, 0, none⟩ 3 [92, hexDig (c.toNat / 16), hexDig (c.toNat % 16)] Try.underlying72 Try.underlying5 Try.underlying9 (fun j hj => by
    match j, hj with
    | 0, _ => exact h0
    | 1, _ => exact h1
    | 2, _ => exact h2)
theorem quote_up {out s : List UInt8} {l : List UInt8} (h : l.length ≤ (s.flatMap escB).length) (hg : 4096 < (out ++ (34 :: l)).length) : 4096 < out.length + (quoteL s).length := by
  rw [List.length_append, List.length_cons] at hg
  simp only [quoteL, List.length_cons, List.length_append, List.length_nil]
  omega
theorem extp_one {s : ByteArray} {k : Nat} (h : k < s.size) : (s.extract k (k + 1)).data.toList = [s[k]] := by
  have hz := Lib.size_eq s
  rw [ByteArray.data_extract, Array.toList_extract, List.extract_eq_take_drop, show k + 1 - k = 1 by omega, List.drop_eq_getElem_cons (by omega)]
  rfl
theorem esc_hex {c : UInt8} (h : c.toNat < 32 ∨ 126 < c.toNat ∨ c = 34 ∨ c = 92) : escB c = (hexE c).data.toList := by unfold escB; rw [if_pos h]; rfl
theorem take_esc {s : ByteArray} {k : Nat} (h : k < s.size) : (s.data.toList.take (k + 1)).flatMap escB = (s.data.toList.take k).flatMap escB ++ escB s[k] := by
  have hz := Lib.size_eq s
  rw [List.take_succ_eq_append_getElem (by omega), List.flatMap_append]
  simp
  rfl
theorem take_esc_le (s : ByteArray) (k : Nat) : ((s.data.toList.take k).flatMap escB).length ≤ (s.data.toList.flatMap escB).length := by
  conv => rhs; rw [← List.take_append_drop k s.data.toList]
  rw [List.flatMap_append, List.length_append]
  omega
theorem esc_one {c : UInt8} (h : ¬ (c.toNat < 32 ∨ 126 < c.toNat ∨ c = 34 ∨ c = 92)) : escB c = [c] := by unfold escB; rw [if_neg h]
set_option maxHeartbeats 4000000 in
set_option maxRecDepth 100000 in
theorem quote_any (W : World) (b : Nat) (out : List UInt8) (s : ByteArray) (v : Value) (h : PR W b out v) (hl : out.length ≤ 4096) (hs : s.size ≤ 1000000) :
    Calls Try.prog 52 #[.pointer (some ⟨b, 0, none⟩), .string s] W fun e W' => PP W b out (quoteL s.data.toList) e W' := by
  have h0 := put_any W b out ⟨#[34]⟩ v h hl (by decide)
  have HZ := Lib.hid (Lib.size_eq s)
  go_enter Try.func52, Try.ntmps52
  go_wp2_with fail
  refine h0.mono ?_
  rintro e w1 hx
  clear h0
  rcases hx with ⟨hle, rfl, ⟨v1, h1⟩, hF1⟩ | ⟨hgt, rfl, h1, hF1⟩
  rotate_left
  · exact ⟨rfl, .inr ⟨by unfold quoteL; simp at hgt ⊢; omega, rfl, h1, hF1⟩⟩
  go_wp2_with fail
  go_loopw [4, 5, 10] (fun _ _ i wr => ∃ (k : Nat) (v' : Value), k ≤ s.size ∧ i = .int .i64 k ∧ (out ++ (34 :: (s.data.toList.take k).flatMap escB)).length ≤ 4096 ∧ PR wr b (out ++ (34 :: (s.data.toList.take k).flatMap escB)) v' ∧ Fr W wr b) (fun _ _ i _ => s.size - (intOf i).toNat)
  case atStart => exact ⟨0, v1, Nat.zero_le _, rfl, by simpa using hle, by simpa using h1, hF1⟩
  case round =>
    obtain ⟨k, v', hk, rfl, hle, hP, hF⟩ := hrel
    clear h1 hF1
    by_cases hlt : k < s.size
    · have HT := Lib.hid (take_esc (s := s) hlt)
      have HB := Lib.hid (take_esc_le s (k + 1))
      have HLE := Lib.hid hle
      clear hle
      by_cases g1 : s[k].toNat < 32
      · have j1 : decide ((s[k].toNat : Int) < 32) = true := by simp; omega
        have x1 := hexD_div s[k]
        have x2 := hexD_and s[k]
        have y1 : (s[k].toNat : Int) / 16 < 16 := by have := s[k].toNat_lt; omega
        have HS1 := Lib.hid (esc_hex (c := s[k]) (.inl g1))
        clear g1
        go_wp2_with fail
        refine Mix.region (fun w' => ∃ Y, w' = Sx.ext wr Y) 9 [0, 0, 0, 0, 0, 0, 0, 1, 1, 9] [true, false] (by kernel_rfl) (fun _ _ d _ _ h => by cases d <;> exact h) (by rfl) (by kernel_rfl) ⟨wr.drew, Sx.ext_of (Below.refl _ _).drew⟩ ?_
        simp only [Mix.selP_cons, Mix.selP_nil, Mix.sel_cons, Mix.sel_nil, Nat.reduceBEq, Nat.reduceAdd, cond_true, cond_false, List.drop_succ_cons, List.drop_zero]
        refine Mix.parts_q ?_
        repeat (go_big_quiet_step (fail))
        refine wpQuiet_nil ?_
        refine Mix.parts_e ?_
        refine Mix.eff_step (fun K hK => ?_)
        go_simp
        have hB7 := (Below.refl wr.heap.size wr).drew.alloc (Nat.le_refl _) (.cells #[.int .u8 92, .int .u8 ((hexDig (s[k].toNat / 16)).toNat : Int), .int .u8 ((hexDig (s[k].toNat % 16)).toNat : Int)] 5)
        refine hK _ _ ⟨_, Sx.ext_of hB7⟩ ?_
        clear hK K
        refine Mix.eff_step (fun K hK => ?_)
        go_simp
        rw [hex_conv s[k] _ _ (by go_simp) (by go_simp) (by go_simp)]
        go_simp
        refine hK _ _ ⟨_, Sx.ext_of hB7⟩ ?_
        clear hK K x1 x2 y1
        refine Mix.eff_nil (Mix.parts_n ?_)
        have hp9 := put_any _ b _ (hexE s[k]) v' (hP.keep hB7) HLE.out (by show 3 ≤ 1000000; omega)
        replace hF := hF.trans (Fr.of_below hB7 (Nat.le_of_lt hP.lt))
        go_wp2_with fail
        refine hp9.mono ?_
        rintro e w9 hx
        clear hp9
        rw [← HS1.out] at hx
        have HG := Lib.hid (show (out ++ (34 :: (s.data.toList.take k).flatMap escB)) ++ escB s[k] = out ++ (34 :: (s.data.toList.take (k + 1)).flatMap escB) by rw [HT.out]; simp)
        have HL9 := Lib.hid (congrArg List.length HG.out)
        rcases hx with ⟨hle9, rfl, ⟨v9, h9⟩, hF9⟩ | ⟨hgt, rfl, h9, hF9⟩
        rotate_left
        · exact ⟨rfl, .inr ⟨quote_up HB.out (by rw [← List.length_append, HG.out] at hgt; exact hgt), rfl, h9, hF.trans hF9⟩⟩
        · rw [← List.length_append, HG.out] at hle9
          rw [HG.out] at h9
          go_wp2_with fail
          go_roundw
          case rel => exact ⟨k + 1, v9, hlt, by go_num, hle9, h9, hF.trans hF9⟩
          case measure => simp [intOf]; omega
      · have j1 : decide ((s[k].toNat : Int) < 32) = false := by simp; omega
        by_cases g2 : 126 < s[k].toNat
        · have j2 : decide ((126 : Int) < (s[k].toNat : Int)) = true := by simp; omega
          have x1 := hexD_div s[k]
          have x2 := hexD_and s[k]
          have y1 : (s[k].toNat : Int) / 16 < 16 := by have := s[k].toNat_lt; omega
          have HS1 := Lib.hid (esc_hex (c := s[k]) (.inr (.inl g2)))
          clear g1 g2
          go_wp2_with fail
          refine Mix.region (fun w' => ∃ Y, w' = Sx.ext wr Y) 9 [0, 0, 0, 0, 0, 0, 0, 1, 1, 9] [true, false] (by kernel_rfl) (fun _ _ d _ _ h => by cases d <;> exact h) (by rfl) (by kernel_rfl) ⟨wr.drew, Sx.ext_of (Below.refl _ _).drew⟩ ?_
          simp only [Mix.selP_cons, Mix.selP_nil, Mix.sel_cons, Mix.sel_nil, Nat.reduceBEq, Nat.reduceAdd, cond_true, cond_false, List.drop_succ_cons, List.drop_zero]
          refine Mix.parts_q ?_
          repeat (go_big_quiet_step (fail))
          refine wpQuiet_nil ?_
          refine Mix.parts_e ?_
          refine Mix.eff_step (fun K hK => ?_)
          go_simp
          have hB7 := (Below.refl wr.heap.size wr).drew.alloc (Nat.le_refl _) (.cells #[.int .u8 92, .int .u8 ((hexDig (s[k].toNat / 16)).toNat : Int), .int .u8 ((hexDig (s[k].toNat % 16)).toNat : Int)] 5)
          refine hK _ _ ⟨_, Sx.ext_of hB7⟩ ?_
          clear hK K
          refine Mix.eff_step (fun K hK => ?_)
          go_simp
          rw [hex_conv s[k] _ _ (by go_simp) (by go_simp) (by go_simp)]
          go_simp
          refine hK _ _ ⟨_, Sx.ext_of hB7⟩ ?_
          clear hK K x1 x2 y1
          refine Mix.eff_nil (Mix.parts_n ?_)
          have hp9 := put_any _ b _ (hexE s[k]) v' (hP.keep hB7) HLE.out (by show 3 ≤ 1000000; omega)
          replace hF := hF.trans (Fr.of_below hB7 (Nat.le_of_lt hP.lt))
          go_wp2_with fail
          refine hp9.mono ?_
          rintro e w9 hx
          clear hp9
          rw [← HS1.out] at hx
          have HG := Lib.hid (show (out ++ (34 :: (s.data.toList.take k).flatMap escB)) ++ escB s[k] = out ++ (34 :: (s.data.toList.take (k + 1)).flatMap escB) by rw [HT.out]; simp)
          have HL9 := Lib.hid (congrArg List.length HG.out)
          rcases hx with ⟨hle9, rfl, ⟨v9, h9⟩, hF9⟩ | ⟨hgt, rfl, h9, hF9⟩
          rotate_left
          · exact ⟨rfl, .inr ⟨quote_up HB.out (by rw [← List.length_append, HG.out] at hgt; exact hgt), rfl, h9, hF.trans hF9⟩⟩
          · rw [← List.length_append, HG.out] at hle9
            rw [HG.out] at h9
            go_wp2_with fail
            go_roundw
            case rel => exact ⟨k + 1, v9, hlt, by go_num, hle9, h9, hF.trans hF9⟩
            case measure => simp [intOf]; omega
        · have j2 : decide ((126 : Int) < (s[k].toNat : Int)) = false := by simp; omega
          by_cases g3 : s[k] = 34
          · have j3 : ((s[k].toNat : Int) == 34) = true := by rw [g3]; rfl
            have x1 := hexD_div s[k]
            have x2 := hexD_and s[k]
            have y1 : (s[k].toNat : Int) / 16 < 16 := by have := s[k].toNat_lt; omega
            have HS1 := Lib.hid (esc_hex (c := s[k]) (.inr (.inr (.inl g3))))
            clear g1 g2 g3
            go_wp2_with fail
            refine Mix.region (fun w' => ∃ Y, w' = Sx.ext wr Y) 9 [0, 0, 0, 0, 0, 0, 0, 1, 1, 9] [true, false] (by kernel_rfl) (fun _ _ d _ _ h => by cases d <;> exact h) (by rfl) (by kernel_rfl) ⟨wr.drew, Sx.ext_of (Below.refl _ _).drew⟩ ?_
            simp only [Mix.selP_cons, Mix.selP_nil, Mix.sel_cons, Mix.sel_nil, Nat.reduceBEq, Nat.reduceAdd, cond_true, cond_false, List.drop_succ_cons, List.drop_zero]
            refine Mix.parts_q ?_
            repeat (go_big_quiet_step (fail))
            refine wpQuiet_nil ?_
            refine Mix.parts_e ?_
            refine Mix.eff_step (fun K hK => ?_)
            go_simp
            have hB7 := (Below.refl wr.heap.size wr).drew.alloc (Nat.le_refl _) (.cells #[.int .u8 92, .int .u8 ((hexDig (s[k].toNat / 16)).toNat : Int), .int .u8 ((hexDig (s[k].toNat % 16)).toNat : Int)] 5)
            refine hK _ _ ⟨_, Sx.ext_of hB7⟩ ?_
            clear hK K
            refine Mix.eff_step (fun K hK => ?_)
            go_simp
            rw [hex_conv s[k] _ _ (by go_simp) (by go_simp) (by go_simp)]
            go_simp
            refine hK _ _ ⟨_, Sx.ext_of hB7⟩ ?_
            clear hK K x1 x2 y1
            refine Mix.eff_nil (Mix.parts_n ?_)
            have hp9 := put_any _ b _ (hexE s[k]) v' (hP.keep hB7) HLE.out (by show 3 ≤ 1000000; omega)
            replace hF := hF.trans (Fr.of_below hB7 (Nat.le_of_lt hP.lt))
            go_wp2_with fail
            refine hp9.mono ?_
            rintro e w9 hx
            clear hp9
            rw [← HS1.out] at hx
            have HG := Lib.hid (show (out ++ (34 :: (s.data.toList.take k).flatMap escB)) ++ escB s[k] = out ++ (34 :: (s.data.toList.take (k + 1)).flatMap escB) by rw [HT.out]; simp)
            have HL9 := Lib.hid (congrArg List.length HG.out)
            rcases hx with ⟨hle9, rfl, ⟨v9, h9⟩, hF9⟩ | ⟨hgt, rfl, h9, hF9⟩
            rotate_left
            · exact ⟨rfl, .inr ⟨quote_up HB.out (by rw [← List.length_append, HG.out] at hgt; exact hgt), rfl, h9, hF.trans hF9⟩⟩
            · rw [← List.length_append, HG.out] at hle9
              rw [HG.out] at h9
              go_wp2_with fail
              go_roundw
              case rel => exact ⟨k + 1, v9, hlt, by go_num, hle9, h9, hF.trans hF9⟩
              case measure => simp [intOf]; omega
          · have j3 : ((s[k].toNat : Int) == 34) = false := by
              rw [beq_eq_false_iff_ne]
              intro e
              exact g3 (u8_eq (n := 34) (by omega) (by decide))
            by_cases g4 : s[k] = 92
            · have j4 : ((s[k].toNat : Int) == 92) = true := by rw [g4]; rfl
              have x1 := hexD_div s[k]
              have x2 := hexD_and s[k]
              have y1 : (s[k].toNat : Int) / 16 < 16 := by have := s[k].toNat_lt; omega
              have HS1 := Lib.hid (esc_hex (c := s[k]) (.inr (.inr (.inr g4))))
              clear g1 g2 g3 g4
              go_wp2_with fail
              refine Mix.region (fun w' => ∃ Y, w' = Sx.ext wr Y) 9 [0, 0, 0, 0, 0, 0, 0, 1, 1, 9] [true, false] (by kernel_rfl) (fun _ _ d _ _ h => by cases d <;> exact h) (by rfl) (by kernel_rfl) ⟨wr.drew, Sx.ext_of (Below.refl _ _).drew⟩ ?_
              simp only [Mix.selP_cons, Mix.selP_nil, Mix.sel_cons, Mix.sel_nil, Nat.reduceBEq, Nat.reduceAdd, cond_true, cond_false, List.drop_succ_cons, List.drop_zero]
              refine Mix.parts_q ?_
              repeat (go_big_quiet_step (fail))
              refine wpQuiet_nil ?_
              refine Mix.parts_e ?_
              refine Mix.eff_step (fun K hK => ?_)
              go_simp
              have hB7 := (Below.refl wr.heap.size wr).drew.alloc (Nat.le_refl _) (.cells #[.int .u8 92, .int .u8 ((hexDig (s[k].toNat / 16)).toNat : Int), .int .u8 ((hexDig (s[k].toNat % 16)).toNat : Int)] 5)
              refine hK _ _ ⟨_, Sx.ext_of hB7⟩ ?_
              clear hK K
              refine Mix.eff_step (fun K hK => ?_)
              go_simp
              rw [hex_conv s[k] _ _ (by go_simp) (by go_simp) (by go_simp)]
              go_simp
              refine hK _ _ ⟨_, Sx.ext_of hB7⟩ ?_
              clear hK K x1 x2 y1
              refine Mix.eff_nil (Mix.parts_n ?_)
              have hp9 := put_any _ b _ (hexE s[k]) v' (hP.keep hB7) HLE.out (by show 3 ≤ 1000000; omega)
              replace hF := hF.trans (Fr.of_below hB7 (Nat.le_of_lt hP.lt))
              go_wp2_with fail
              refine hp9.mono ?_
              rintro e w9 hx
              clear hp9
              rw [← HS1.out] at hx
              have HG := Lib.hid (show (out ++ (34 :: (s.data.toList.take k).flatMap escB)) ++ escB s[k] = out ++ (34 :: (s.data.toList.take (k + 1)).flatMap escB) by rw [HT.out]; simp)
              have HL9 := Lib.hid (congrArg List.length HG.out)
              rcases hx with ⟨hle9, rfl, ⟨v9, h9⟩, hF9⟩ | ⟨hgt, rfl, h9, hF9⟩
              rotate_left
              · exact ⟨rfl, .inr ⟨quote_up HB.out (by rw [← List.length_append, HG.out] at hgt; exact hgt), rfl, h9, hF.trans hF9⟩⟩
              · rw [← List.length_append, HG.out] at hle9
                rw [HG.out] at h9
                go_wp2_with fail
                go_roundw
                case rel => exact ⟨k + 1, v9, hlt, by go_num, hle9, h9, hF.trans hF9⟩
                case measure => simp [intOf]; omega
            · have j4 : ((s[k].toNat : Int) == 92) = false := by
                rw [beq_eq_false_iff_ne]
                intro e
                exact g4 (u8_eq (n := 92) (by omega) (by decide))
              have HS1 := Lib.hid (esc_one (c := s[k]) (fun e => e.elim g1 fun e => e.elim g2 fun e => e.elim g3 g4))
              have HX := Lib.hid (extp_one hlt)
              have hk1 : IntKind.i64.wrap ((k : Int) + 1) = (k : Int) + 1 := IntWalk.i64_in _ (by omega)
              clear g1 g2 g3 g4
              have hp9 := put_any wr b _ (s.extract k (k + 1)) v' hP HLE.out (by rw [Lib.size_eq, HX.out]; show 1 ≤ 1000000; omega)
              go_wp2_with fail
              refine hp9.mono ?_
              rintro e w9 hx
              clear hp9
              rw [HX.out, ← HS1.out] at hx
              have HG := Lib.hid (show (out ++ (34 :: (s.data.toList.take k).flatMap escB)) ++ escB s[k] = out ++ (34 :: (s.data.toList.take (k + 1)).flatMap escB) by rw [HT.out]; simp)
              have HL9 := Lib.hid (congrArg List.length HG.out)
              rcases hx with ⟨hle9, rfl, ⟨v9, h9⟩, hF9⟩ | ⟨hgt, rfl, h9, hF9⟩
              rotate_left
              · exact ⟨rfl, .inr ⟨quote_up HB.out (by rw [← List.length_append, HG.out] at hgt; exact hgt), rfl, h9, hF.trans hF9⟩⟩
              · rw [← List.length_append, HG.out] at hle9
                rw [HG.out] at h9
                go_wp2_with fail
                go_roundw
                case rel => exact ⟨k + 1, v9, hlt, by go_num, hle9, h9, hF.trans hF9⟩
                case measure => simp [intOf]; omega
    · obtain rfl : k = s.size := by omega
      have HD := Lib.hid (show (out ++ (34 :: (s.data.toList.take s.size).flatMap escB)) ++ [34] = out ++ quoteL s.data.toList by rw [List.take_of_length_le (by rw [← HZ.out]; omega)]; simp [quoteL])
      have h9 := put_any wr b _ ⟨#[34]⟩ v' hP hle (by decide)
      go_wp2_with fail
      refine h9.mono ?_
      rintro e w9 hx
      clear h9
      rcases hx with ⟨hle9, rfl, ⟨v9, h9⟩, hF9⟩ | ⟨hgt, rfl, h9, hF9⟩
      · rw [← List.length_append, HD.out, List.length_append] at hle9
        rw [HD.out] at h9
        go_wp2_with fail
        go_end0
        exact .inl ⟨hle9, rfl, ⟨v9, h9⟩, hF.trans hF9⟩
      · rw [← List.length_append, HD.out, List.length_append] at hgt
        exact ⟨rfl, .inr ⟨hgt, rfl, h9, hF.trans hF9⟩⟩
end Rc
end Go.Proofs.Ytcigggffaofkhaa
