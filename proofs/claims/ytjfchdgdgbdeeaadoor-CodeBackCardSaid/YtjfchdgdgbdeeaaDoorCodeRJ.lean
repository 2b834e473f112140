/-
  Plain law of an instruction's tree; strconv.Atoi and the sentinels that it hands on.
-/
import Derived.Test.YtjfchdgdgbdeeaaDoorCodeRI
import Derived.Test.YtjfchdgdgbdeeaaDoorCodeEnv
import Derived.Lib.AtoiAllCases
namespace Go.Proofs.YtjfchdgdgbdeeaaDoor
open Go.RowKit
namespace Cd

/-! numerals -/
theorem vl_ge : ∀ (l : List UInt8) (acc : Nat), acc ≤ l.foldl (fun n c => n * 10 + (c.toNat - 48)) acc
  | [], acc => Nat.le_refl _
  | c :: l, acc => by
    have := vl_ge l (acc * 10 + (c.toNat - 48))
    simp only [List.foldl_cons]
    omega
theorem parse_digits : ∀ (l : List UInt8) (acc : Nat), (∀ c ∈ l, isD c = true) → l.foldl (fun n c => n * 10 + (c.toNat - 48)) acc < 18446744073709551616 → Lib.parseUint10 acc l = .ok (l.foldl (fun n c => n * 10 + (c.toNat - 48)) acc)
  | [], acc, _, _ => rfl
  | c :: l, acc, hd, hv => by
    have hc := (isD_iff c).1 (hd c (by simp))
    simp only [List.foldl_cons] at hv ⊢
    have hg := vl_ge l (acc * 10 + (c.toNat - 48))
    rw [Lib.parseUint10, if_pos hc, if_neg (by omega), if_neg (by omega)]
    exact parse_digits l _ (fun d hd' => hd d (by simp [hd'])) hv
theorem mag_dec (u : Nat) (h : u < 18446744073709551616) : Lib.parseMag (Lib.decDigits u) = .ok u := by
  unfold Lib.parseMag
  rw [if_neg (dec_ne u)]
  have hv : (Lib.decDigits u).foldl (fun n c => n * 10 + (c.toNat - 48)) 0 = u := dec_val u
  rw [parse_digits _ _ (dec_digits u) (by rw [hv]; exact h), hv]
theorem atoi_itoa (n : Int) (h0 : -9223372036854775808 ≤ n) (h1 : n ≤ 9223372036854775807) : Lib.atoiAll (Lib.itoa n) = .ok n := by
  by_cases hn : n < 0
  · obtain ⟨u, rfl⟩ : ∃ u : Nat, n = -(u : Int) := ⟨n.natAbs, by omega⟩
    rw [Lib.itoa_neg u (by omega), Lib.atoiAll_minus, mag_dec u (by omega)]
    simp only [Lib.signed]
    rw [if_neg (by omega)]
  · obtain ⟨u, rfl⟩ : ∃ u : Nat, n = (u : Int) := ⟨n.toNat, by omega⟩
    rw [Lib.itoa_nonneg]
    cases hd : Lib.decDigits u with
    | nil => exact absurd hd (dec_ne u)
    | cons c r =>
      have hc := (isD_iff c).1 (dec_digits u c (by rw [hd]; simp))
      rw [Lib.atoiAll_plain c r (by omega) (by omega), ← hd, mag_dec u (by omega)]
      simp only [Lib.signless]
      rw [if_neg (by omega)]
theorem itoa_inj {n m : Int} (h0 : -9223372036854775808 ≤ n) (h1 : n ≤ 9223372036854775807) (g0 : -9223372036854775808 ≤ m) (g1 : m ≤ 9223372036854775807) (h : Lib.itoa n = Lib.itoa m) : n = m := by
  have e1 := atoi_itoa n h0 h1
  have e2 := atoi_itoa m g0 g1
  rw [h, e2] at e1
  injection e1 with e1
  exact e1.symm

/-! instructions' trees -/
def N64 (x : I) : Prop := -9223372036854775808 ≤ x.n ∧ x.n ≤ 9223372036854775807
/-- the tree is the instruction's, which can stand somewhere -/
structure InsP (k : T) (x : I) : Prop where
  tree : insT x = k
  word : wordB x.op ≠ ⟨#[]⟩
  num : takes x.op = 0 ∨ takes x.op = 2 → x.n = 0
  txt : takes x.op ≠ 2 → x.s = ⟨#[]⟩
  nb : N64 x
theorem insP_of_right {x : I} {c : Int} (h : right x c = true) (hn : N64 x) : InsP (insT x) x := by
  have hw : wordB x.op ≠ ⟨#[]⟩ := fun e => by rw [right_w e] at h; cases h
  refine ⟨rfl, hw, fun ht => ?_, fun ht => ?_, hn⟩
  · by_cases hs : x.s = ⟨#[]⟩ ∨ takes x.op = 2
    · rcases ht with ht | ht
      · rcases hs with hs | hs
        · rw [right_0 hw ht hs] at h; simpa using h
        · rw [ht] at hs; cases hs
      · rw [right_2 hw ht] at h
        simp at h
        exact h.1
    · rw [not_or] at hs
      rw [right_s hs.2 hs.1] at h
      cases h
  · by_cases hs : x.s = ⟨#[]⟩
    · exact hs
    · rw [right_s ht hs] at h; cases h
theorem atoms_inj {x y : I} (h : insT x = insT y) : atoms x = atoms y := by
  unfold insT at h
  injection h with h
  exact (List.map_inj_right (fun a b e => by injection e)).1 h
theorem mk_inj {a b : List UInt8} (h : (⟨a.toArray⟩ : ByteArray) = ⟨b.toArray⟩) : a = b := by
  injection h with h
  simpa using h
theorem InsP.uniq {k : T} {x y : I} (h : InsP k x) (g : InsP k y) : x = y := by
  have ha := atoms_inj (h.tree.trans g.tree.symm)
  unfold atoms at ha
  injection ha with h1 h2
  have ho : x.op = y.op := by
    have e1 := op_word h.word
    have e2 := op_word g.word
    rw [h1] at e1
    omega
  obtain ⟨xo, xn, xs⟩ := x
  obtain ⟨yo, yn, ys⟩ := y
  simp only at ho
  subst ho
  have hn := h.num
  have gn := g.num
  have hs := h.txt
  have gs := g.txt
  have hb := h.nb
  have gb := g.nb
  simp only [N64, args] at *
  by_cases t0 : takes xo = 0
  · have t2 : takes xo ≠ 2 := by omega
    rw [hn (.inl t0), gn (.inl t0), hs t2, gs t2]
  · by_cases t2 : takes xo = 2
    · rw [if_neg t0, if_neg t0, if_pos t2, if_pos t2] at h2
      injection h2 with h2
      rw [hn (.inr t2), gn (.inr t2), h2]
    · rw [if_neg t0, if_neg t0, if_neg t2, if_neg t2] at h2
      injection h2 with h2
      rw [hs t2, gs t2, itoa_inj hb.1 hb.2 gb.1 gb.2 (mk_inj h2)]
/-- a tree's own text, and how many kids it has -/
def txt : T → ByteArray
  | .leaf s => s
  | .list _ => ⟨#[]⟩
def isL : T → Bool
  | .leaf _ => false
  | .list _ => true
def kids : T → List T
  | .leaf _ => []
  | .list ks => ks
theorem wb_op {a : ByteArray} (h : opN a.data.toList ≠ 0) : wordB (opN a.data.toList : Int) = a := by
  rw [word_in (op_lt _)]
  apply ByteArray.ext
  apply Array.toList_inj.1
  rw [wb_data, wl_op h]
theorem wb_ne {a : ByteArray} (h : opN a.data.toList ≠ 0) : wordB (opN a.data.toList : Int) ≠ ⟨#[]⟩ := fun e => by
  rw [wb_op h] at e
  subst e
  exact h (by decide +kernel)
theorem op_of {k : T} {x : I} (h : InsP k x) : ∃ r, k = .list (.leaf (wordB x.op) :: r) ∧ (opN (wordB x.op).data.toList : Int) = x.op ∧ opN (wordB x.op).data.toList ≠ 0 := by
  have he := op_word h.word
  refine ⟨(args x).map .leaf, h.tree.symm, he, fun e => ?_⟩
  rw [e] at he
  have : wordB x.op = ⟨#[]⟩ := by rw [← he]; rfl
  exact h.word this
theorem ins_leaf {s : ByteArray} (x : I) : ¬ InsP (.leaf s) x := fun h => by
  obtain ⟨r, h1, -⟩ := op_of h
  cases h1
theorem ins_kids {ks : List T} {x : I} (h : InsP (.list ks) x) : 1 ≤ ks.length ∧ ks.length ≤ 2 ∧ ∀ k ∈ ks, isL k = false := by
  have ht := h.tree
  unfold insT at ht
  injection ht with ht
  subst ht
  refine ⟨by simp [atoms], ?_, fun k hk => ?_⟩
  · rw [List.length_map]
    unfold atoms args
    split
    · simp
    · split <;> simp
  · obtain ⟨a, -, rfl⟩ := List.mem_map.1 hk
    rfl
theorem ins_one {a : ByteArray} {x : I} (h : InsP (.list [.leaf a]) x) : opN a.data.toList ≠ 0 ∧ takes (opN a.data.toList : Int) = 0 := by
  obtain ⟨r, h1, h2, h3⟩ := op_of h
  injection h1 with h1
  injection h1 with h1 h4
  injection h1 with h1
  subst h1
  refine ⟨h3, ?_⟩
  rw [h2]
  have ht := h.tree
  unfold insT atoms at ht
  injection ht with ht
  simp only [List.map_cons] at ht
  injection ht with _ ht
  by_cases t0 : takes x.op = 0
  · exact t0
  · exfalso
    unfold args at ht
    rw [if_neg t0] at ht
    split at ht <;> simp at ht
theorem ins_one_mk {a : ByteArray} (h0 : opN a.data.toList ≠ 0) (ht : takes (opN a.data.toList : Int) = 0) : InsP (.list [.leaf a]) ⟨opN a.data.toList, 0, ⟨#[]⟩⟩ := by
  refine ⟨?_, wb_ne h0, fun _ => rfl, fun _ => rfl, by unfold N64; simp⟩
  simp [insT, atoms, args, ht, wb_op h0]
theorem ins_two {a b : ByteArray} {x : I} (h : InsP (.list [.leaf a, .leaf b]) x) : opN a.data.toList ≠ 0 ∧ takes (opN a.data.toList : Int) ≠ 0 ∧ x.op = opN a.data.toList ∧ (takes (opN a.data.toList : Int) = 2 → x.s = b ∧ x.n = 0) ∧ (takes (opN a.data.toList : Int) ≠ 2 → (⟨(Lib.itoa x.n).toArray⟩ : ByteArray) = b ∧ x.s = ⟨#[]⟩) := by
  obtain ⟨r, h1, h2, h3⟩ := op_of h
  injection h1 with h1
  injection h1 with h1 h4
  injection h1 with h1
  subst h1
  have ht := h.tree
  unfold insT atoms at ht
  injection ht with ht
  simp only [List.map_cons] at ht
  injection ht with _ ht
  unfold args at ht
  by_cases t0 : takes x.op = 0
  · rw [if_pos t0] at ht; simp at ht
  · rw [if_neg t0] at ht
    refine ⟨h3, by rw [h2]; exact t0, h2.symm, fun t2 => ?_, fun t2 => ?_⟩
    · rw [h2] at t2
      rw [if_pos t2] at ht
      simp at ht
      exact ⟨ht, h.num (.inr t2)⟩
    · rw [h2] at t2
      rw [if_neg t2] at ht
      simp at ht
      exact ⟨ht, h.txt t2⟩
theorem ins_two_txt {a b : ByteArray} (h0 : opN a.data.toList ≠ 0) (ht : takes (opN a.data.toList : Int) = 2) : InsP (.list [.leaf a, .leaf b]) ⟨opN a.data.toList, 0, b⟩ := by
  refine ⟨?_, wb_ne h0, fun _ => rfl, fun h => absurd ht h, by unfold N64; simp⟩
  simp [insT, atoms, args, ht, wb_op h0]
theorem ins_two_num {a b : ByteArray} {n : Int} (h0 : opN a.data.toList ≠ 0) (t0 : takes (opN a.data.toList : Int) ≠ 0) (t2 : takes (opN a.data.toList : Int) ≠ 2) (hb : (⟨(Lib.itoa n).toArray⟩ : ByteArray) = b) (h1 : -9223372036854775808 ≤ n) (h2 : n ≤ 9223372036854775807) : InsP (.list [.leaf a, .leaf b]) ⟨opN a.data.toList, n, ⟨#[]⟩⟩ := by
  refine ⟨?_, wb_ne h0, fun h => by rcases h with h | h <;> contradiction, fun _ => rfl, ⟨h1, h2⟩⟩
  simp [insT, atoms, args, t0, t2, wb_op h0, hb]

/-! strconv.Atoi -/
structure Env2 (W : World) : Prop where
  env : Env W
  syn : ∃ tp p, W.var? Tryd.prog "strconv.ErrSyntax" = some #[.iface tp p]
  rng : ∃ tp p, W.var? Tryd.prog "strconv.ErrRange" = some #[.iface tp p]
theorem gSyn : Tryd.prog.globalNamed "strconv.ErrSyntax" = some 1 := by kernel_rfl
theorem gRng : Tryd.prog.globalNamed "strconv.ErrRange" = some 2 := by kernel_rfl
theorem Env2.below {W W' : World} (h : Env2 W) (hb : Below W.heap.size W W') : Env2 W' := by
  have hs := h.env.big
  obtain ⟨t1, p1, h1⟩ := h.syn
  obtain ⟨t2, p2, h2⟩ := h.rng
  exact ⟨h.env.below hb, ⟨t1, p1, var?_below hb gSyn (by omega) h1⟩, ⟨t2, p2, var?_below hb gRng (by omega) h2⟩⟩
theorem atoi_ok (s : ByteArray) (hs : s.size ≤ 1048576) (v : Int) (h : Lib.atoiAll s.data.toList = .ok v) (w : World) :
    Calls Tryd.prog 37 #[.string s] w fun e w' => e = .returned (.tuple #[.int .i64 v, .nilIface]) ∧ Below w.heap.size w w' := by
  refine (Tryd.strconv_Atoi_ok s (by omega) v h w).mono fun e w' ⟨he, hw⟩ => ⟨he, ?_⟩
  rcases hw with rfl | ⟨t, rfl⟩
  · exact Below.refl _ _
  · exact Lib.bytesWorld_below _ _ _
theorem atoi_bad (s : ByteArray) (hs : s.size ≤ 1048576) (h : ∀ v, Lib.atoiAll s.data.toList ≠ .ok v) (w : World) (hE : Env2 w) :
    Calls Tryd.prog 37 #[.string s] w fun e w' => ∃ (x : Int) (N : Nat), e = .returned (.tuple #[.int .i64 x, .iface 89 (.pointer (some ⟨N, 0, none⟩))]) ∧ -9223372036854775808 ≤ x ∧ x ≤ 9223372036854775807 ∧ Below w.heap.size w w' := by
  cases hx : Lib.atoiAll s.data.toList
  · exact absurd hx (h _)
  · obtain ⟨t1, p1, h1⟩ := hE.syn
    exact (Any.strconv_Atoi_syntax_var Tryd.laysC172 s (by omega) hx t1 p1 w h1).mono fun e w' ⟨N, he, _, _, hb⟩ => ⟨_, N, he, by decide, by decide, hb⟩
  · obtain ⟨t1, p1, h1⟩ := hE.rng
    exact (Any.strconv_Atoi_range_var Tryd.laysC172 s (by omega) hx t1 p1 w h1).mono fun e w' ⟨N, he, _, _, hb⟩ => ⟨_, N, he, (Lib.atoiSat_bounds _).1, (Lib.atoiSat_bounds _).2, hb⟩
end Cd
end Go.Proofs.YtjfchdgdgbdeeaaDoor
