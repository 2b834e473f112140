/-
  Walk of the reference: text.
-/
import Derived.Test.YtcigggffaofkhaaRrB
import Derived.Test.YtcigggffaofkhaaRcQ
namespace Go.Proofs.Ytcigggffaofkhaa
open Go.RowKit
namespace Rc

abbrev zeroT : Array Value := #[.int .i64 0, .string ⟨#[]⟩, .int .i64 0, .int .i64 0]
/-- what the reference's token is -/
def TT (W : World) (o : RT) (e : Ending) (W' : World) : Prop := Below W.heap.size W W' ∧ match o with
  | .ok t => e = .returned (.tuple #[.agg #[.int .i64 t.kind, .string t.s, .int .i64 t.pl, .int .i64 t.fin], .bool true])
  | .bad p => e = .returned (.tuple #[.agg #[.int .i64 0, .string ⟨#[]⟩, .int .i64 p, .int .i64 0], .bool false])
def strT (s : ByteArray) (p : Nat) : RT := match strL (s.data.toList.drop (p + 1)) with
  | some (x, n) => .ok ⟨3, ⟨x.toArray⟩, p, p + 1 + n⟩
  | none => .bad p
theorem strT_ok {s : ByteArray} {p n : Nat} {x : List UInt8} (h : strL (s.data.toList.drop (p + 1)) = some (x, n)) : strT s p = .ok ⟨3, ⟨x.toArray⟩, p, p + 1 + n⟩ := by unfold strT; rw [h]
theorem strT_bad {s : ByteArray} {p : Nat} (h : strL (s.data.toList.drop (p + 1)) = none) : strT s p = .bad p := by unfold strT; rw [h]
set_option maxHeartbeats 4000000 in
set_option maxRecDepth 100000 in
theorem rtext_any (s : ByteArray) (p : Nat) (W : World) (hp : p < s.size) (hs : s.size ≤ 10000) : Calls Try.prog 36 #[.string s, .int .i64 (p : Int)] W fun e w' => TT W (strT s p) e w' := by
  obtain ⟨i0, hi0, hz0, hz1, hz2⟩ := info_parts info_u8
  have k1 : IntKind.i64.wrap ((p : Int) + 1) = (p : Int) + 1 := IntWalk.i64_in _ (by omega)
  have hX : Below W.heap.size W (W.alloc (.cells zeroT 37)) := (Below.refl _ _).alloc (Nat.le_refl _) _
  have hn := heap_alloc_new W (.cells zeroT 37)
  have q0 : (W.alloc (.cells zeroT 37)).cell? ⟨W.heap.size, 0, none⟩ = some (.int .i64 0) := by simp only [World.cell?, hn]; rfl
  have q1 : (W.alloc (.cells zeroT 37)).cell? ⟨W.heap.size, 1, none⟩ = some (.string ⟨#[]⟩) := by simp only [World.cell?, hn]; rfl
  have q2 : (W.alloc (.cells zeroT 37)).cell? ⟨W.heap.size, 2, none⟩ = some (.int .i64 0) := by simp only [World.cell?, hn]; rfl
  have q3 : (W.alloc (.cells zeroT 37)).cell? ⟨W.heap.size, 3, none⟩ = some (.int .i64 0) := by simp only [World.cell?, hn]; rfl
  have qf : ∀ j, (W.alloc (.cells zeroT 37)).frozen? ⟨W.heap.size, j, none⟩ = false := fun j => by simp only [World.frozen?, hn]; rfl
  have hsz : (W.alloc (.cells zeroT 37)).heap.size = W.heap.size + 1 := by simp
  have HSZ := Lib.hid hsz
  clear hn hsz
  go_enter Try.func36, Try.ntmps36
  go_wp2_with fail
  generalize (W.alloc (.cells zeroT 37)) = W1 at *
  have hO0 : W1.ownsRow W1.heap.size 5 1 (.slice none 0 0) 0 (u8s []) := World.ownsRow_nil _ _ _ _
  have hB0 := Below.refl W1.heap.size W1
  go_loopw [6, 7] (fun kv i wr => ∃ (m : Nat) (acc : List UInt8) (v : Value), v = kv ∧ i = .int .i64 m ∧ p + 1 ≤ m ∧ m ≤ s.size ∧ acc.length ≤ m ∧ QI s p m acc ∧ wr.ownsRow W1.heap.size 5 1 v acc.length (u8s acc) ∧ Below W1.heap.size W1 wr) (fun v i wr => s.size - (intOf i).toNat)
  case atStart => exact ⟨p + 1, [], _, rfl, rfl, Nat.le_refl _, by omega, Nat.zero_le _, QI.start s p, hO0, hB0⟩
  case round =>
    obtain ⟨m, acc, v, rfl, rfl, hm1, hm2, hal, hq, hown, hB⟩ := hrel
    have HQ := Lib.hid hq
    have HO := Lib.hid hown
    clear hO0 hB0 hq hown
    have hsz := HSZ.out
    have b0 : wr.cell? ⟨W.heap.size, 0, none⟩ = some (.int .i64 0) := (hB.cell (p := ⟨W.heap.size, 0, none⟩) (by show W.heap.size < _; omega)).trans q0
    have b1 : wr.cell? ⟨W.heap.size, 1, none⟩ = some (.string ⟨#[]⟩) := (hB.cell (p := ⟨W.heap.size, 1, none⟩) (by show W.heap.size < _; omega)).trans q1
    have b2 : wr.cell? ⟨W.heap.size, 2, none⟩ = some (.int .i64 0) := (hB.cell (p := ⟨W.heap.size, 2, none⟩) (by show W.heap.size < _; omega)).trans q2
    have b3 : wr.cell? ⟨W.heap.size, 3, none⟩ = some (.int .i64 0) := (hB.cell (p := ⟨W.heap.size, 3, none⟩) (by show W.heap.size < _; omega)).trans q3
    have bf : ∀ j, wr.frozen? ⟨W.heap.size, j, none⟩ = false := fun j => (World.frozen?_of_block (hB.block W.heap.size (by omega))).trans (qf j)
    have hBW := hX.trans (hB.mono hX.size)
    have HBW := Lib.hid hBW
    clear q0 q1 q2 q3 qf hX hsz
    by_cases hm : m < s.size
    rotate_left
    · have k2 : decide ((m : Int) < s.size) = false := by simp; omega
      have k3 : decide ((s.size : Int) ≤ m) = true := by simp; omega
      have HZ := Lib.hid (strT_bad (HQ.out.bad (bad_end (by omega))))
      go_wp2_with fail
      refine bodyPost_ret (v := .tuple #[.agg #[.int .i64 0, .string ⟨#[]⟩, .int .i64 (p : Int), .int .i64 0], .bool false]) (by simp [results, Try.results36, go_sem, b0, b1, b2, b3]) rfl ?_
      rw [HZ.out]
      exact ⟨(((HBW.out.setCell (p := ⟨W.heap.size, 0, none⟩) (Nat.le_refl _) _).setCell (p := ⟨W.heap.size, 1, none⟩) (Nat.le_refl _) _).setCell (p := ⟨W.heap.size, 2, none⟩) (Nat.le_refl _) _).setCell (p := ⟨W.heap.size, 3, none⟩) (Nat.le_refl _) _, rfl⟩
    have k2 : decide ((m : Int) < s.size) = true := by simp; omega
    have k3 : decide ((s.size : Int) ≤ m) = false := by simp; omega
    by_cases h34 : s[m] = 34
    · have j1 : ((s[m].toNat : Int) == 34) = true := by rw [h34]; rfl
      have j2 : ((s[m].toNat : Int) != 34) = false := by rw [h34]; rfl
      have HZ := Lib.hid (strT_ok (HQ.out.stop hm h34))
      have hcv : (convert 72 9 v).run Try.prog wr = .ok (.string ⟨acc.toArray⟩) wr := conv_any HO.out
      have k4 : IntKind.i64.wrap ((m : Int) + 1) = (m : Int) + 1 := IntWalk.i64_in _ (by omega)
      clear h34
      go_wp2_with fail
      refine bodyPost_ret (v := .tuple #[.agg #[.int .i64 3, .string ⟨acc.toArray⟩, .int .i64 (p : Int), .int .i64 (m + 1)], .bool true]) (by simp [results, Try.results36, go_sem, b0, b1, b2, b3]) rfl ?_
      rw [HZ.out]
      refine ⟨(((HBW.out.setCell (p := ⟨W.heap.size, 0, none⟩) (Nat.le_refl _) _).setCell (p := ⟨W.heap.size, 1, none⟩) (Nat.le_refl _) _).setCell (p := ⟨W.heap.size, 2, none⟩) (Nat.le_refl _) _).setCell (p := ⟨W.heap.size, 3, none⟩) (Nat.le_refl _) _, ?_⟩
      show _ = Ending.returned (.tuple #[.agg #[.int .i64 3, .string ⟨acc.toArray⟩, .int .i64 p, .int .i64 ((p + 1 + (m - (p + 1) + 1) : Nat) : Int)], .bool true])
      rw [show ((p + 1 + (m - (p + 1) + 1) : Nat) : Int) = (m : Int) + 1 by omega]
    have j1 : ((s[m].toNat : Int) == 34) = false := by
      rw [beq_eq_false_iff_ne]
      intro e
      exact h34 (u8_eq (n := 34) (by omega) (by decide))
    have j2 : ((s[m].toNat : Int) != 34) = true := by rw [bne, j1]; rfl
    by_cases g1 : 32 ≤ s[m].toNat
    rotate_left
    · have k5 : decide ((s[m].toNat : Int) < 32) = true := by simp; omega
      have HZ := Lib.hid (strT_bad (HQ.out.bad (bad_ctl hm (.inl (by omega)))))
      clear h34 g1
      go_wp2_with fail
      refine bodyPost_ret (v := .tuple #[.agg #[.int .i64 0, .string ⟨#[]⟩, .int .i64 (p : Int), .int .i64 0], .bool false]) (by simp [results, Try.results36, go_sem, b0, b1, b2, b3]) rfl ?_
      rw [HZ.out]
      exact ⟨(((HBW.out.setCell (p := ⟨W.heap.size, 0, none⟩) (Nat.le_refl _) _).setCell (p := ⟨W.heap.size, 1, none⟩) (Nat.le_refl _) _).setCell (p := ⟨W.heap.size, 2, none⟩) (Nat.le_refl _) _).setCell (p := ⟨W.heap.size, 3, none⟩) (Nat.le_refl _) _, rfl⟩
    have k5 : decide ((s[m].toNat : Int) < 32) = false := by simp; omega
    by_cases g2 : s[m].toNat ≤ 126
    rotate_left
    · have k6 : decide ((126 : Int) < (s[m].toNat : Int)) = true := by simp; omega
      have HZ := Lib.hid (strT_bad (HQ.out.bad (bad_ctl hm (.inr (by omega)))))
      clear h34 g1 g2
      go_wp2_with fail
      refine bodyPost_ret (v := .tuple #[.agg #[.int .i64 0, .string ⟨#[]⟩, .int .i64 (p : Int), .int .i64 0], .bool false]) (by simp [results, Try.results36, go_sem, b0, b1, b2, b3]) rfl ?_
      rw [HZ.out]
      exact ⟨(((HBW.out.setCell (p := ⟨W.heap.size, 0, none⟩) (Nat.le_refl _) _).setCell (p := ⟨W.heap.size, 1, none⟩) (Nat.le_refl _) _).setCell (p := ⟨W.heap.size, 2, none⟩) (Nat.le_refl _) _).setCell (p := ⟨W.heap.size, 3, none⟩) (Nat.le_refl _) _, rfl⟩
    have k6 : decide ((126 : Int) < (s[m].toNat : Int)) = false := by simp; omega
    by_cases g4 : s[m] = 92
    rotate_left
    · have j4 : ((s[m].toNat : Int) == 92) = false := by
        rw [beq_eq_false_iff_ne]
        intro e
        exact g4 (u8_eq (n := 92) (by omega) (by decide))
      have j5 : ((s[m].toNat : Int) != 92) = true := by rw [bne, j4]; rfl
      have HN := Lib.hid (HQ.out.plain hm1 hm h34 (by omega) g4)
      have HU := Lib.hid (u8_snoc acc s[m])
      have hA := (Below.refl wr.heap.size wr).alloc (Nat.le_refl _) (.cells #[.int .u8 (s[m].toNat : Int)] 5)
      have HO8 := Lib.hid (own_block HO.out (fun j hj => hA.block j (HO.out.lt j hj).2))
      have HA := Lib.hid hA
      have k9 : IntKind.i64.wrap ((m : Int) + 1) = (m : Int) + 1 := IntWalk.i64_in _ (by omega)
      clear h34 g1 g2 g4 hA hBW b0 b1 b2 b3 bf
      go_wp2_with (first
        | (at_builtin; refine wpList_append_own _ rfl _ _ 72 rfl W1.heap.size 5 i0 _ 1 1 Try.underlying72 hi0 hz0 hz1 hz2 rfl (by decide) v acc.length _ rfl HO8.out ⟨wr.heap.size, 0, none⟩ 1 1 [.int .u8 (s[m].toNat : Int)] rfl rfl ?d1 ?d2 ?d3 ?d4 ?d5 ?_))
      case d1 =>
        intro j q hj
        match j, hj with
        | 0, hj => simp at hj; subst hj; simp [Addr.add]
      case d2 => intro q hq; simp at hq; subst hq; rfl
      case d3 => unfold maxLen; omega
      case d4 => omega
      case d5 => simp; have := hB.size; omega
      intro v' w9 hown9 hg9 _
      rw [HU.out] at hown9
      have HO9 := Lib.hid (show w9.ownsRow W1.heap.size 5 1 v' (acc ++ [s[m]]).length (u8s (acc ++ [s[m]])) by rw [List.length_append]; exact hown9)
      have hB9 := (hB.trans (HA.out.mono hB.size)).grown hg9 (by have := hB.size; simp; omega) (fun g hg => (HO.out.lt g hg).1)
      clear hown9 hg9
      go_wp2_with fail
      go_roundw
      case rel => exact ⟨m + 1, acc ++ [s[m]], _, rfl, by go_num, by omega, by omega, by simp; omega, HN.out, HO9.out, hB9⟩
      case measure => simp [intOf]; omega
    have j4 : ((s[m].toNat : Int) == 92) = true := by rw [g4]; rfl
    have j5 : ((s[m].toNat : Int) != 92) = false := by rw [bne, j4]; rfl
    have k7 : IntKind.i64.wrap ((m : Int) + 2) = (m : Int) + 2 := IntWalk.i64_in _ (by omega)
    have k8 : IntKind.i64.wrap ((m : Int) + 1) = (m : Int) + 1 := IntWalk.i64_in _ (by omega)
    by_cases h2 : m + 2 < s.size
    rotate_left
    · have j6 : decide ((s.size : Int) ≤ (m : Int) + 2) = true := by simp; omega
      have j7 : (s.size : Int) ≤ (m : Int) + 2 := by omega
      have HZ := Lib.hid (strT_bad (HQ.out.bad (bad_hex hm g4 (.inl (by omega)))))
      clear h34 g1 g2 g4 h2
      go_wp2_with fail
      refine bodyPost_ret (v := .tuple #[.agg #[.int .i64 0, .string ⟨#[]⟩, .int .i64 (p : Int), .int .i64 0], .bool false]) (by simp [results, Try.results36, go_sem, b0, b1, b2, b3]) rfl ?_
      rw [HZ.out]
      exact ⟨(((HBW.out.setCell (p := ⟨W.heap.size, 0, none⟩) (Nat.le_refl _) _).setCell (p := ⟨W.heap.size, 1, none⟩) (Nat.le_refl _) _).setCell (p := ⟨W.heap.size, 2, none⟩) (Nat.le_refl _) _).setCell (p := ⟨W.heap.size, 3, none⟩) (Nat.le_refl _) _, rfl⟩
    have j6 : decide ((s.size : Int) ≤ (m : Int) + 2) = false := by simp; omega
    have j7 : ¬ (s.size : Int) ≤ (m : Int) + 2 := by omega
    have n1 : (0 : Int) ≤ (m : Int) + 1 := by omega
    have n2 : (0 : Int) ≤ (m : Int) + 2 := by omega
    have t1 : ((m : Int) + 1).toNat = m + 1 := by omega
    have t2 : ((m : Int) + 2).toNat = m + 2 := by omega
    have x1 : m + 1 < s.size := by omega
    have x2 : (m : Int) + 1 < s.size := by omega
    have x3 : (m : Int) + 2 < s.size := by omega
    have ha := hexv_le s[m + 1]
    have hb := hexv_le s[m + 2]
    by_cases ga : hexv s[m + 1] = 16
    · have HZ := Lib.hid (strT_bad (HQ.out.bad (bad_hex hm g4 (.inr ⟨h2, .inl ga⟩))))
      have d1 : decide ((15 : Int) < (hexv s[m + 1] : Int)) = true := by rw [ga]; rfl
      clear h34 g1 g2 g4 ga ha hb
      go_wp2_with (go_at_call 51; refine (rhex_any _ _).mono ?_; rintro e w' ⟨rfl, rfl⟩)
      refine bodyPost_ret (v := .tuple #[.agg #[.int .i64 0, .string ⟨#[]⟩, .int .i64 (p : Int), .int .i64 0], .bool false]) (by simp [results, Try.results36, go_sem, b0, b1, b2, b3]) rfl ?_
      rw [HZ.out]
      exact ⟨(((HBW.out.setCell (p := ⟨W.heap.size, 0, none⟩) (Nat.le_refl _) _).setCell (p := ⟨W.heap.size, 1, none⟩) (Nat.le_refl _) _).setCell (p := ⟨W.heap.size, 2, none⟩) (Nat.le_refl _) _).setCell (p := ⟨W.heap.size, 3, none⟩) (Nat.le_refl _) _, rfl⟩
    have la : hexv s[m + 1] ≤ 15 := by omega
    have d1 : decide ((15 : Int) < (hexv s[m + 1] : Int)) = false := by simp; omega
    have d1' : ¬ (15 : Int) < (hexv s[m + 1] : Int) := by omega
    by_cases gb : hexv s[m + 2] = 16
    · have HZ := Lib.hid (strT_bad (HQ.out.bad (bad_hex hm g4 (.inr ⟨h2, .inr gb⟩))))
      have d2 : decide ((15 : Int) < (hexv s[m + 2] : Int)) = true := by rw [gb]; rfl
      clear h34 g1 g2 g4 gb ga ha la hb
      go_wp2_with (go_at_call 51; refine (rhex_any _ _).mono ?_; rintro e w' ⟨rfl, rfl⟩)
      refine bodyPost_ret (v := .tuple #[.agg #[.int .i64 0, .string ⟨#[]⟩, .int .i64 (p : Int), .int .i64 0], .bool false]) (by simp [results, Try.results36, go_sem, b0, b1, b2, b3]) rfl ?_
      rw [HZ.out]
      exact ⟨(((HBW.out.setCell (p := ⟨W.heap.size, 0, none⟩) (Nat.le_refl _) _).setCell (p := ⟨W.heap.size, 1, none⟩) (Nat.le_refl _) _).setCell (p := ⟨W.heap.size, 2, none⟩) (Nat.le_refl _) _).setCell (p := ⟨W.heap.size, 3, none⟩) (Nat.le_refl _) _, rfl⟩
    have lb : hexv s[m + 2] ≤ 15 := by omega
    have d2 : decide ((15 : Int) < (hexv s[m + 2] : Int)) = false := by simp; omega
    have d2' : ¬ (15 : Int) < (hexv s[m + 2] : Int) := by omega
    have HN := Lib.hid (HQ.out.hex hm1 h2 g4 ga gb)
    clear h34 g1 g2 g4 gb ga ha hb
    go_wp2_with (go_at_call 51; refine (rhex_any _ _).mono ?_; rintro e w' ⟨rfl, rfl⟩)
    obtain ⟨c, hc⟩ : ∃ c, c = UInt8.ofNat (16 * hexv s[m + 1] + hexv s[m + 2]) := ⟨_, rfl⟩
    have q4 : ((c.toNat : Nat) : Int) = 16 * (hexv s[m + 1] : Int) + (hexv s[m + 2] : Int) := by
      rw [hc, UInt8.toNat_ofNat_of_lt' (by show _ < 256; omega)]
      omega
    rw [← hc] at HN
    have HU := Lib.hid (u8_snoc acc c)
    have q1 : IntKind.i64.wrap (16 * (hexv s[m + 1] : Int)) = 16 * (hexv s[m + 1] : Int) := IntWalk.i64_in _ (by omega)
    have q2 : IntKind.i64.wrap (16 * (hexv s[m + 1] : Int) + (hexv s[m + 2] : Int)) = (c.toNat : Int) := by rw [IntWalk.i64_in _ (by omega), q4]
    have q3 : IntKind.u8.wrap (c.toNat : Int) = (c.toNat : Int) := by show (c.toNat : Int) % 256 = _; omega
    have q3' : (c.toNat : Int) % 256 = (c.toNat : Int) := by omega
    have k9 : IntKind.i64.wrap ((m : Int) + 3) = (m : Int) + 3 := IntWalk.i64_in _ (by omega)
    clear hc q4 la lb d1 d1' d2 d2' b0 b1 b2 b3 bf
    refine Mix.region (fun u => ∃ Y, u = Sx.ext w' Y) 15 [0, 0, 0, 0, 0, 1, 2, 0, 0, 0, 0, 3, 3, 3, 3, 9, 9] [true, false, true, false] (by kernel_rfl) (fun _ _ d _ _ h => by cases d <;> exact h) (by rfl) (by kernel_rfl) ⟨w'.drew, Sx.ext_of (Below.refl _ _).drew⟩ ?_
    simp only [Mix.selP_cons, Mix.selP_nil, Mix.sel_cons, Mix.sel_nil, Nat.reduceBEq, Nat.reduceAdd, cond_true, cond_false, List.drop_succ_cons, List.drop_zero]
    refine Mix.parts_q ?_
    repeat (go_big_quiet_step (fail))
    refine wpQuiet_nil ?_
    refine Mix.parts_e ?_
    refine Mix.eff_step (fun K hK => ?_)
    go_simp
    refine (rhex_any _ _).mono ?_
    rintro e w8 ⟨rfl, hw⟩
    subst hw
    refine hK _ _ ⟨w'.drew, Sx.ext_of (Below.refl _ _).drew⟩ ?_
    clear hK K
    refine Mix.eff_nil (Mix.parts_q ?_)
    repeat (go_big_quiet_step (fail))
    refine wpQuiet_nil ?_
    refine Mix.parts_e ?_
    refine Mix.eff_step (fun K hK => ?_)
    go_simp
    refine (rhex_any _ _).mono ?_
    rintro e w8 ⟨rfl, hw⟩
    subst hw
    refine hK _ _ ⟨w'.drew, Sx.ext_of (Below.refl _ _).drew⟩ ?_
    clear hK K
    refine Mix.eff_step (fun K hK => ?_)
    go_simp
    refine hK _ _ ⟨w'.drew, Sx.ext_of (Below.refl _ _).drew⟩ ?_
    clear hK K
    refine Mix.eff_step (fun K hK => ?_)
    go_simp
    refine hK _ _ ⟨w'.drew, Sx.ext_of (Below.refl _ _).drew⟩ ?_
    clear hK K
    refine Mix.eff_step (fun K hK => ?_)
    go_simp
    have hA := (Below.refl w'.heap.size w').drew.alloc (Nat.le_refl _) (.cells #[.int .u8 (c.toNat : Int)] 5)
    refine hK _ _ ⟨_, Sx.ext_of hA⟩ ?_
    clear hK K
    have HO8 := Lib.hid (own_block HO.out (fun j hj => hA.block j (HO.out.lt j hj).2))
    have HA := Lib.hid hA
    clear hA hBW
    refine Mix.eff_nil (Mix.parts_n ?_)
    go_wp2_with (first
      | (at_builtin; refine wpList_append_own _ rfl _ _ 72 rfl W1.heap.size 5 i0 _ 1 1 Try.underlying72 hi0 hz0 hz1 hz2 rfl (by decide) v acc.length _ rfl HO8.out ⟨w'.heap.size, 0, none⟩ 1 1 [.int .u8 (c.toNat : Int)] rfl rfl ?d1 ?d2 ?d3 ?d4 ?d5 ?_))
    case d1 =>
      intro j q hj
      match j, hj with
      | 0, hj => simp at hj; subst hj; simp [Addr.add]
    case d2 => intro q hq; simp at hq; subst hq; rfl
    case d3 => unfold maxLen; omega
    case d4 => omega
    case d5 => simp; have := hB.size; omega
    intro v' w9 hown9 hg9 _
    rw [HU.out] at hown9
    have HO9 := Lib.hid (show w9.ownsRow W1.heap.size 5 1 v' (acc ++ [c]).length (u8s (acc ++ [c])) by rw [List.length_append]; exact hown9)
    have hB9 := (hB.trans (HA.out.mono hB.size)).grown hg9 (by have := hB.size; simp; omega) (fun g hg => (HO.out.lt g hg).1)
    clear hown9 hg9
    go_wp2_with fail
    go_roundw
    case rel => exact ⟨m + 3, acc ++ [c], _, rfl, by go_num, by omega, by omega, by simp; omega, HN.out, HO9.out, hB9⟩
    case measure => simp [intOf]; omega
end Rc
end Go.Proofs.Ytcigggffaofkhaa
