/-
  saplinglaw06.alive answers true in every world in which the library's variables lie; VersionNumbers answers true.
-/
import Derived.Test.YtflhmoelenmomaaGreatDoorMVersionA
import Derived.ChangeKeysEq
import Derived.Deep.RegionHeld3
namespace Go.Proofs.YtflhmoelenmomaaGreatDoor
open Go.RowKit
namespace Vs

theorem info_int : (Tryz.prog.info? 3).map (fun i => (i.zero, i.size, i.bytes)) = some (some (.int .i64 0), 1, 8) := by kernel_rfl
theorem size_int : Tryz.prog.cellsOf 3 = 1 := by kernel_rfl
theorem eqV (a b c x y z : Int) (w : World) : (Op.equalIn 10000 37 (V a b c) (V x y z)).run Tryz.prog w = .ok (a == x && (b == y && c == z)) w := by
  obtain ⟨i, hi, -⟩ := info_parts info_int
  rw [show (10000 : Nat) = 9999 + 1 from rfl, run_equalIn_array w 9999 _ _ Tryz.underlying37 hi, size_int]
  simp only [List.range, List.range.loop, Op.eqItems]
  by_cases h1 : a = x <;> by_cases h2 : b = y <;> by_cases h3 : c = z <;> simp [go_sem, part, Tryz.isAgg3, h1, h2, h3]

attribute [local go_sem] eqV

theorem parse_a : parseL [49, 46, 50, 48, 46, 51] = some (1, 20, 3) := by decide +kernel
theorem parse_b : parseL [48, 49, 46, 50, 46, 51] = none := by decide +kernel

theorem of_num_tt {a b c : Int} (h : goodB a b c = true) : OfV (num a b c) = .tuple #[V a b c, .bool true] := by
  obtain ⟨a0, a1, b0, b1, c0, c1⟩ := of_good h
  have e : num a b c = (a * 1000 + b) * 1000 + c := by simp [num, h]
  rw [e, of_tt (by omega) (by omega), show ((a * 1000 + b) * 1000 + c) / 1000000 = a by omega, show ((a * 1000 + b) * 1000 + c) / 1000 % 1000 = b by omega, show ((a * 1000 + b) * 1000 + c) % 1000 = c by omega]
theorem of_num_ff {a b c : Int} (h : goodB a b c = false) : OfV (num a b c) = .tuple #[V 0 0 0, .bool false] := by
  have e : num a b c = -1 := by simp [num, h]
  rw [e, of_ff (by omega)]
theorem num_of {n : Int} (h0 : 0 ≤ n) (h1 : n < 1000000000) : num (n / 1000000) (n / 1000 % 1000) (n % 1000) = n := by
  have h : goodB (n / 1000000) (n / 1000 % 1000) (n % 1000) = true := good_tt (by omega) (by omega) (by omega)
  simp only [num, h, if_true]; omega

end Vs
end Go.Proofs.YtflhmoelenmomaaGreatDoor

/-
  version.Compare and its reference, for every two versions.
-/
namespace Go.Proofs.YtflhmoelenmomaaGreatDoor
open Go.RowKit
namespace Vs
attribute [local go_sem] eqV

def cmpI (x y : Int) : Int := if x < y then -1 else if y < x then 1 else 0
def cmp3 (a b c x y z : Int) : Int := if a = x then (if b = y then cmpI c z else cmpI b y) else cmpI a x
theorem cmp_lib (x y : Int) : Lib.compareInt x y = cmpI x y := by
  rfl
theorem quiet_more {P : Program} {f : FuncId} {args : Array Value} {w : World} {a n : Nat} {v : Value}
    (h : Calls P f args (w.drewN (a + n)) fun e w' => e = .returned v ∧ w' = w.drewN (a + n)) : Calls P f args (w.drewN (a + n)) fun e w'' => e = .returned v ∧ ∃ m, w'' = w.drewN (a + m) :=
  h.mono fun _ _ ⟨he, hm⟩ => ⟨he, n, hm⟩

theorem cmpI_lt {x y : Int} (h : x < y) : cmpI x y = -1 := by simp [cmpI, h]
theorem cmpI_gt {x y : Int} (h : y < x) : cmpI x y = 1 := by simp [cmpI, h]; omega
theorem cmpI_eq (x : Int) : cmpI x x = 0 := by simp [cmpI]

theorem cmpI_neg (a x : Int) : cmpI x a = -(cmpI a x) := by unfold cmpI; split <;> split <;> (try split) <;> omega
theorem cmpI_zero (a x : Int) : cmpI a x = 0 ↔ a = x := by unfold cmpI; split <;> (try split) <;> constructor <;> omega
theorem cmpI_bd (a x : Int) : -1 ≤ cmpI a x ∧ cmpI a x ≤ 1 := by unfold cmpI; split <;> (try split) <;> omega
theorem cmp3_neg (a b c x y z : Int) : cmp3 x y z a b c = -(cmp3 a b c x y z) := by
  unfold cmp3
  by_cases h1 : a = x
  · rw [if_pos h1, if_pos h1.symm]
    by_cases h2 : b = y
    · rw [if_pos h2, if_pos h2.symm]; exact cmpI_neg _ _
    · rw [if_neg h2, if_neg (fun e => h2 e.symm)]; exact cmpI_neg _ _
  · rw [if_neg h1, if_neg (fun e => h1 e.symm)]; exact cmpI_neg _ _
theorem cmp3_bd (a b c x y z : Int) : -1 ≤ cmp3 a b c x y z ∧ cmp3 a b c x y z ≤ 1 := by
  unfold cmp3; split <;> (try split) <;> exact cmpI_bd _ _
theorem cmp3_zero (a b c x y z : Int) : (cmp3 a b c x y z == 0) = (a == x && (b == y && c == z)) := by
  rw [Bool.eq_iff_iff]
  simp only [beq_iff_eq, Bool.and_eq_true]
  unfold cmp3
  by_cases h1 : a = x
  · rw [if_pos h1]
    by_cases h2 : b = y
    · rw [if_pos h2, cmpI_zero]; simp [h1, h2]
    · rw [if_neg h2, cmpI_zero]; simp [h2]
  · rw [if_neg h1, cmpI_zero]; simp [h1]
theorem cmp3_num {a b c x y z : Int} (h : goodB a b c = true) (k : goodB x y z = true) : cmp3 a b c x y z = cmpI (num a b c) (num x y z) := by
  obtain ⟨a0, a1, b0, b1, c0, c1⟩ := of_good h
  obtain ⟨x0, x1, y0, y1, z0, z1⟩ := of_good k
  simp only [num, h, k, if_true]
  unfold cmp3 cmpI
  split
  · split
    · split <;> split <;> (try split) <;> (try split) <;> omega
    · split <;> split <;> (try split) <;> (try split) <;> omega
  · split <;> split <;> (try split) <;> (try split) <;> omega

theorem keep_cell {W W' : World} {p : Addr} {v : Value} (hb : Below W.heap.size W W') (h : W.cell? p = some v) : W'.cell? p = some v :=
  (hb.cell (World.block_lt_of_cell? W p h)).trans h
theorem keep_below {W0 W W' : World} (h : Below W0.heap.size W0 W) (hb : Below W.heap.size W W') : Below W0.heap.size W0 W' := h.trans (hb.mono h.size)

theorem size_alloc (w : World) (o : Obj) : (w.alloc o).heap.size = w.heap.size + 1 := by simp

end Vs
end Go.Proofs.YtflhmoelenmomaaGreatDoor

/-
  version.Text and its reference, for every version.
-/
namespace Go.Proofs.YtflhmoelenmomaaGreatDoor
open Go.RowKit
namespace Vs
attribute [local go_sem] eqV

def textL (a b c : Int) : List UInt8 := if goodB a b c = true then Lib.itoa a ++ ([46] ++ (Lib.itoa b ++ ([46] ++ Lib.itoa c))) else []
abbrev T (a b c : Int) : Value := .string ⟨(textL a b c).toArray⟩

/-- block b holds three texts -/
structure S3 (W : World) (b : Nat) (x y z : ByteArray) : Prop where
  lt : b < W.heap.size
  c0 : W.cell? ⟨b, 0, none⟩ = some (.string x)
  c1 : W.cell? ⟨b, 1, none⟩ = some (.string y)
  c2 : W.cell? ⟨b, 2, none⟩ = some (.string z)
  fz : ∀ j, W.frozen? ⟨b, j, none⟩ = false
theorem S3.below {W W' : World} {b : Nat} {x y z : ByteArray} (h : S3 W b x y z) (hb : Below W.heap.size W W') : S3 W' b x y z := by
  obtain ⟨hc, hf⟩ := bcell hb
  exact ⟨Nat.lt_of_lt_of_le h.lt hb.size, (hc _ _ h.lt).trans h.c0, (hc _ _ h.lt).trans h.c1, (hc _ _ h.lt).trans h.c2, fun j => (hf _ _ h.lt).trans (h.fz j)⟩
theorem S3.set0 {W : World} {b : Nat} {x y z : ByteArray} (h : S3 W b x y z) (s : ByteArray) : S3 (W.setCell ⟨b, 0, none⟩ (.string s)) b s y z := by
  obtain ⟨h1, h2, h3, h4, h5⟩ := h
  refine ⟨by simpa [World.setCell] using h1, ?_, ?_, ?_, fun j => by simp only [World.frozen?_setCell]; exact h5 j⟩
  all_goals first | (rw [World.cell?_setCell_other _ _ _ _ (by simp)]; assumption) | (exact World.cell?_setCell_same _ _ _ h2)
theorem S3.set1 {W : World} {b : Nat} {x y z : ByteArray} (h : S3 W b x y z) (s : ByteArray) : S3 (W.setCell ⟨b, 1, none⟩ (.string s)) b x s z := by
  obtain ⟨h1, h2, h3, h4, h5⟩ := h
  refine ⟨by simpa [World.setCell] using h1, ?_, ?_, ?_, fun j => by simp only [World.frozen?_setCell]; exact h5 j⟩
  all_goals first | (rw [World.cell?_setCell_other _ _ _ _ (by simp)]; assumption) | (exact World.cell?_setCell_same _ _ _ h3)
theorem S3.set2 {W : World} {b : Nat} {x y z : ByteArray} (h : S3 W b x y z) (s : ByteArray) : S3 (W.setCell ⟨b, 2, none⟩ (.string s)) b x y s := by
  obtain ⟨h1, h2, h3, h4, h5⟩ := h
  refine ⟨by simpa [World.setCell] using h1, ?_, ?_, ?_, fun j => by simp only [World.frozen?_setCell]; exact h5 j⟩
  all_goals first | (rw [World.cell?_setCell_other _ _ _ _ (by simp)]; assumption) | (exact World.cell?_setCell_same _ _ _ h4)

theorem ret_str {a b : ByteArray} (h : a = b) : Ending.returned (.string a) = .returned (.string b) := by rw [h]
theorem size_le_of {l : List UInt8} {n : Nat} (h : l.length ≤ n) : (ByteArray.mk l.toArray).size ≤ n := by simpa [ByteArray.size] using h

end Vs
end Go.Proofs.YtflhmoelenmomaaGreatDoor

/-
  Plain laws on versions' texts: a text is read back, what is read is written as it was, and the reference's part is Atoi's and Itoa's.
-/
namespace Go.Proofs.YtflhmoelenmomaaGreatDoor
namespace Vs
open Go.Lib

theorem itoa_small : ∀ n : Fin 1000, partV (itoa ((n.val : Nat) : Int)) = some ((n.val : Nat) : Int) ∧ (46 : UInt8) ∉ itoa ((n.val : Nat) : Int) := by decide +kernel
theorem part_small {n : Int} (h0 : 0 ≤ n) (h1 : n ≤ 999) : partV (itoa n) = some n ∧ (46 : UInt8) ∉ itoa n := by
  have h := itoa_small ⟨n.toNat, by omega⟩
  rw [show ((n.toNat : Nat) : Int) = n by omega] at h
  exact h
theorem pieces_no (c : UInt8) : ∀ l : List UInt8, c ∉ l → pieces c l = [l]
  | [], _ => rfl
  | b :: l, h => by
    rw [List.mem_cons, not_or] at h
    rw [pieces, if_neg (fun e => h.1 e.symm), pieces_no c l h.2]
theorem pieces_app (c : UInt8) (m : List UInt8) : ∀ l : List UInt8, c ∉ l → pieces c (l ++ c :: m) = l :: pieces c m
  | [], _ => by simp [pieces]
  | b :: l, h => by
    rw [List.mem_cons, not_or] at h
    rw [List.cons_append, pieces, if_neg (fun e => h.1 e.symm), pieces_app c m l h.2]
theorem parse_text {a b c : Int} (h : goodB a b c = true) : parseL (textL a b c) = some (a, b, c) := by
  obtain ⟨a0, a1, b0, b1, c0, c1⟩ := of_good h
  obtain ⟨pa, na⟩ := part_small a0 a1
  obtain ⟨pb, nb⟩ := part_small b0 b1
  obtain ⟨pc, nc⟩ := part_small c0 c1
  rw [parseL, textL, if_pos h]
  have e : itoa a ++ ([46] ++ (itoa b ++ ([46] ++ itoa c))) = itoa a ++ 46 :: (itoa b ++ 46 :: itoa c) := by simp
  rw [e, pieces_app 46 _ _ na, pieces_app 46 _ _ nb, pieces_no 46 _ nc]
  simp [parseP, parse3, pa, pb, pc, h]
theorem join_pieces (c : UInt8) : ∀ l : List UInt8, [c].intercalate (pieces c l) = l
  | [] => by simp [pieces, List.intercalate]
  | b :: l => by
    have ih := join_pieces c l
    obtain ⟨p, ps, hp⟩ := pieces_ne c l
    rw [hp] at ih
    rw [pieces]
    split
    · rename_i h
      subst h
      rw [hp]
      cases ps with
      | nil => simpa [List.intercalate, List.intersperse] using ih
      | cons q qs => simpa [List.intercalate, List.intersperse] using ih
    · rw [hp]
      cases ps with
      | nil => simpa [List.intercalate, List.intersperse] using ih
      | cons q qs => simpa [List.intercalate, List.intersperse] using ih
theorem text_parse {s : List UInt8} {a b c : Int} (h : parseL s = some (a, b, c)) : textL a b c = s ∧ goodB a b c = true := by
  have hj := join_pieces 46 s
  unfold parseL parseP at h
  split at h
  · rename_i p q r hp
    unfold parse3 at h
    simp only [Option.bind_eq_some_iff] at h
    obtain ⟨x, hx, y, hy, z, hz, h⟩ := h
    split at h
    · rename_i hg
      simp only [Option.some.injEq, Prod.mk.injEq] at h
      obtain ⟨rfl, rfl, rfl⟩ := h
      refine ⟨?_, hg⟩
      rw [textL, if_pos hg, (partV_some hx).2, (partV_some hy).2, (partV_some hz).2, ← hj, hp]
      simp [List.intercalate, List.intersperse]
    · cases h
  · cases h

/-- the reference's part of a text -/
def digits (l : List UInt8) : Bool := l.all fun c => decide (48 ≤ c.toNat) && decide (c.toNat ≤ 57)
def value (l : List UInt8) : Int := l.foldl (fun n c => n * 10 + ((c.toNat : Int) - 48)) 0
def partR (l : List UInt8) : Int :=
  if l = [] ∨ 3 < l.length ∨ (l.head? = some 48 ∧ 1 < l.length) then -1 else if digits l = true then value l else -1
theorem partR_small : ∀ n : Fin 1000, partR (itoa ((n.val : Nat) : Int)) = ((n.val : Nat) : Int) := by decide +kernel
theorem one_small : ∀ x : Fin 10, itoa (value [UInt8.ofNat (48 + x.val)]) = [UInt8.ofNat (48 + x.val)] := by decide +kernel
theorem two_small : ∀ x y : Fin 10, x.val ≠ 0 → itoa (value [UInt8.ofNat (48 + x.val), UInt8.ofNat (48 + y.val)]) = [UInt8.ofNat (48 + x.val), UInt8.ofNat (48 + y.val)] := by decide +kernel
theorem three_small : ∀ x y z : Fin 10, x.val ≠ 0 → itoa (value [UInt8.ofNat (48 + x.val), UInt8.ofNat (48 + y.val), UInt8.ofNat (48 + z.val)]) = [UInt8.ofNat (48 + x.val), UInt8.ofNat (48 + y.val), UInt8.ofNat (48 + z.val)] := by decide +kernel
theorem digit_of {c : UInt8} (h0 : 48 ≤ c.toNat) (h1 : c.toNat ≤ 57) : ∃ x : Fin 10, c = UInt8.ofNat (48 + x.val) := by
  refine ⟨⟨c.toNat - 48, by omega⟩, ?_⟩
  have : 48 + (c.toNat - 48) = c.toNat := by omega
  simp [this]
theorem head_zero (x : Fin 10) : UInt8.ofNat (48 + x.val) = 48 → x.val = 0 := by
  revert x; decide
theorem partR_itoa {l : List UInt8} (h : partR l ≠ -1) : itoa (partR l) = l ∧ 0 ≤ partR l ∧ partR l ≤ 999 := by
  unfold partR at h ⊢
  split at h
  · exact absurd rfl h
  · rename_i hc
    rw [if_neg hc]
    split at h
    · rename_i hd
      rw [if_pos hd]
      clear h
      simp only [not_or, not_and] at hc
      obtain ⟨c1, c2, c3⟩ := hc
      match l, c1, c2, c3, hd with
      | [x], _, _, _, hd =>
        simp [digits] at hd
        obtain ⟨x, rfl⟩ := digit_of hd.1 hd.2
        refine ⟨one_small x, ?_⟩
        revert x; decide +kernel
      | [x, y], _, _, c3, hd =>
        simp [digits] at hd
        obtain ⟨x, rfl⟩ := digit_of hd.1.1 hd.1.2
        obtain ⟨y, rfl⟩ := digit_of hd.2.1 hd.2.2
        have hx : x.val ≠ 0 := fun e => by have := c3 (by simp [e]); simp at this
        refine ⟨two_small x y hx, ?_⟩
        clear hx c3 hd
        revert x y; decide +kernel
      | [x, y, z], _, _, c3, hd =>
        simp [digits] at hd
        obtain ⟨x, rfl⟩ := digit_of hd.1.1 hd.1.2
        obtain ⟨y, rfl⟩ := digit_of hd.2.1.1 hd.2.1.2
        obtain ⟨z, rfl⟩ := digit_of hd.2.2.1 hd.2.2.2
        have hx : x.val ≠ 0 := fun e => by have := c3 (by simp [e]); simp at this
        refine ⟨three_small x y z hx, ?_⟩
        clear hx c3 hd
        revert x y z; decide +kernel
      | _ :: _ :: _ :: _ :: _, _, c2, _, _ => simp at c2
    · exact absurd rfl h
theorem partV_partR (l : List UInt8) : (partV l).bind (fun n => if 0 ≤ n ∧ n ≤ 999 then some n else none) = if partR l = -1 then none else some (partR l) := by
  by_cases h : partR l = -1
  · rw [if_pos h]
    cases hv : partV l with
    | none => rfl
    | some n =>
      show (if 0 ≤ n ∧ n ≤ 999 then some n else none) = none
      rw [if_neg]
      rintro ⟨h0, h1⟩
      have e := (partV_some hv).2
      have h2 := partR_small ⟨n.toNat, by omega⟩
      rw [show ((n.toNat : Nat) : Int) = n by omega, e, h] at h2
      omega
  · rw [if_neg h]
    obtain ⟨e, h0, h1⟩ := partR_itoa h
    have hp := (part_small h0 h1).1
    rw [e] at hp
    rw [hp]
    show (if 0 ≤ partR l ∧ partR l ≤ 999 then some (partR l) else none) = _
    rw [if_pos ⟨h0, h1⟩]
theorem partR_bd (l : List UInt8) : partR l = -1 ∨ (0 ≤ partR l ∧ partR l ≤ 999) := by
  by_cases h : partR l = -1
  · exact Or.inl h
  · exact Or.inr (partR_itoa h).2
theorem parse3_R (p q r : List UInt8) : parse3 p q r = if goodB (partR p) (partR q) (partR r) = true then some (partR p, partR q, partR r) else none := by
  have hp := partV_partR p
  have hq := partV_partR q
  have hr := partV_partR r
  have key : parse3 p q r = ((partV p).bind fun n => if 0 ≤ n ∧ n ≤ 999 then some n else none).bind fun a => ((partV q).bind fun n => if 0 ≤ n ∧ n ≤ 999 then some n else none).bind fun b => ((partV r).bind fun n => if 0 ≤ n ∧ n ≤ 999 then some n else none).bind fun c => some (a, b, c) := by
    unfold parse3
    cases partV p with
    | none => rfl
    | some a =>
      cases partV q with
      | none => simp only [Option.bind_some, Option.bind_none]; split <;> rfl
      | some b =>
        cases partV r with
        | none => simp only [Option.bind_some, Option.bind_none]; split <;> simp
        | some c =>
          simp only [Option.bind_some]
          by_cases ha : 0 ≤ a ∧ a ≤ 999
          · by_cases hb : 0 ≤ b ∧ b ≤ 999
            · by_cases hc : 0 ≤ c ∧ c ≤ 999
              · simp [ha, hb, hc, good_tt ha hb hc]
              · simp [ha, hb, hc, good_ff (a := a) (b := b) (c := c) (by omega)]
            · simp [ha, hb, good_ff (a := a) (b := b) (c := c) (by omega)]
          · simp [ha, good_ff (a := a) (b := b) (c := c) (by omega)]
  rw [key, hp, hq, hr]
  by_cases h1 : partR p = -1
  · rw [if_pos h1, good_ff (by rw [h1]; omega)]; simp
  · by_cases h2 : partR q = -1
    · rw [if_neg h1, if_pos h2, good_ff (by rw [h2]; omega)]; simp
    · by_cases h3 : partR r = -1
      · rw [if_neg h1, if_neg h2, if_pos h3, good_ff (by rw [h3]; omega)]; simp
      · rw [if_neg h1, if_neg h2, if_neg h3, good_tt (partR_itoa h1).2 (partR_itoa h2).2 (partR_itoa h3).2]; simp

end Vs
end Go.Proofs.YtflhmoelenmomaaGreatDoor
