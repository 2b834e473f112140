/-
  Law: SpanSigns answers true.
-/
import Derived.Test.YtlmmhhkhoaoheaaGreatDoorSgLT
import Derived.Test.YtlmmhhkhoaoheaaGreatDoorVersionS
namespace Go.Proofs.YtlmmhhkhoaoheaaGreatDoor
open Go.RowKit Go.Shelf Go.Lib
namespace Sg

/-- the seven signs -/
def sgL : List (List UInt8) := [[61], [62, 61], [62], [60], [60, 61], [94], [126]]
theorem text_head {a b c : Int} (h : Vs.goodB a b c = true) : ∃ x l, Vs.textL a b c = x :: l ∧ digs.contains x = true := by
  obtain ⟨a0, a1, -⟩ := Vs.of_good h
  have key : ∀ n : Fin 1000, ((itoa ((n.val : Nat) : Int)).head?.map (digs.contains ·)) = some true := by decide +kernel
  have hk := key ⟨a.toNat, by omega⟩
  rw [show ((a.toNat : Nat) : Int) = a by omega] at hk
  unfold Vs.textL
  rw [if_pos h]
  cases hi : itoa a with
  | nil => rw [hi] at hk; cases hk
  | cons x l =>
    rw [hi] at hk
    exact ⟨x, _, rfl, Option.some.inj hk⟩
theorem any_sign {p : List UInt8} (hp : p ∈ sgL) {x : UInt8} {l : List UInt8} (hx : digs.contains x = true) : indexAny (p ++ x :: l) digs = (p.length : Nat) := by
  have hn : ∀ q ∈ sgL, ∀ y ∈ q, digs.contains y = false := by decide
  refine Lib.indexAny_hit (fun j b hj hb => ?_) (by rw [List.getElem?_append_right (Nat.le_refl _), Nat.sub_self]; rfl) hx
  rw [List.getElem?_append_left hj] at hb
  exact hn p hp b (List.mem_of_getElem? hb)
theorem bound_sign {p : List UInt8} (hp : p ∈ sgL) {a b c : Int} (h : Vs.goodB a b c = true) : boundL (p ++ Vs.textL a b c) = signL p a b c := by
  obtain ⟨x, l, ht, hx⟩ := text_head h
  unfold boundL
  rw [ht, any_sign hp hx, if_neg (by omega), show ((p.length : Nat) : Int).toNat = p.length by omega, List.take_left, List.drop_left, ← ht, Vs.parse_text h]
  rfl
theorem all_sign {p : List UInt8} (hp : p ∈ sgL) {a b c : Int} (h : Vs.goodB a b c = true) {g : G} (hg : signL p a b c = some g) : allF (p ++ Vs.textL a b c) = some [g] := by
  have hs : ∀ q ∈ sgL, ∀ y ∈ q, y ≠ 32 ∧ y ≠ 124 := by decide
  have hno : ∀ y ∈ p ++ Vs.textL a b c, y ≠ 32 ∧ y ≠ 124 := fun y hy => (List.mem_append.1 hy).elim (hs p hp y) (text_no h y)
  unfold allF
  rw [cuts_no (fun hm => (hno _ hm).2 rfl), termsF]
  have ht : termF (p ++ Vs.textL a b c) = some g := by
    unfold termF
    rw [cuts_pieces 32 _ _ (Nat.le_refl _), Vs.pieces_no 32 _ (fun hm => (hno _ hm).1 rfl), wordsF, bound_sign hp h, hg]
    show some (meet top g) = _
    rw [meet_top (sign_in h hg)]
  rw [ht]
  rfl
/-- what the k-th sign and a version's number say of another one -/
def wantB (k : Nat) (m : Int) (ax by' : Bool) : Bool := match k with
  | 0 => m == 0
  | 1 => decide (0 ≤ m)
  | 2 => decide (0 < m)
  | 3 => decide (m < 0)
  | 4 => decide (m ≤ 0)
  | 5 => decide (0 ≤ m) && ax
  | _ => decide (0 ≤ m) && (ax && by')
def sgK (k : Nat) : List UInt8 := sgL.getD k []
def gapK (k : Nat) (n a b : Int) : G := match k with
  | 0 => (n, n + 1)
  | 1 => (n, 1000000000)
  | 2 => (n + 1, 1000000000)
  | 3 => (0, n)
  | 4 => (0, n + 1)
  | 5 => (n, (a + 1) * 1000000)
  | _ => (n, (a * 1000 + b + 1) * 1000)
theorem sign_k {k : Nat} (hk : k < 7) (a b c : Int) : sgK k ∈ sgL ∧ signL (sgK k) a b c = some (gapK k (Vs.num a b c) a b) := by
  rcases (show k = 0 ∨ k = 1 ∨ k = 2 ∨ k = 3 ∨ k = 4 ∨ k = 5 ∨ k = 6 by omega) with rfl | rfl | rfl | rfl | rfl | rfl | rfl <;> exact ⟨by decide, rfl⟩
theorem want_in {k : Nat} (hk : k < 7) {a b c x y z : Int} (h : Vs.goodB a b c = true) (h' : Vs.goodB x y z = true) :
    ((gapK k (Vs.num a b c) a b).1 ≤ Vs.num x y z ∧ Vs.num x y z < (gapK k (Vs.num a b c) a b).2) ↔ wantB k (Vs.cmp3 x y z a b c) (x == a) (y == b) = true := by
  obtain ⟨e1, n0, n1⟩ := num_bd h
  obtain ⟨e2, m0, m1⟩ := num_bd h'
  obtain ⟨a0, a1, b0, b1, c0, c1⟩ := Vs.of_good h
  obtain ⟨x0, x1, y0, y1, z0, z1⟩ := Vs.of_good h'
  have hc := Vs.cmp3_num h' h
  have hcm : (Vs.cmp3 x y z a b c < 0 ↔ Vs.num x y z < Vs.num a b c) ∧ (Vs.cmp3 x y z a b c = 0 ↔ Vs.num x y z = Vs.num a b c) := by
    rw [hc]
    unfold Vs.cmpI
    split
    · omega
    · split <;> omega
  generalize Vs.cmp3 x y z a b c = m at hcm ⊢
  generalize Vs.num a b c = n at *
  generalize Vs.num x y z = w at *
  rcases (show k = 0 ∨ k = 1 ∨ k = 2 ∨ k = 3 ∨ k = 4 ∨ k = 5 ∨ k = 6 by omega) with rfl | rfl | rfl | rfl | rfl | rfl | rfl
  all_goals simp only [gapK, wantB, beq_iff_eq, decide_eq_true_eq, Bool.and_eq_true]
  all_goals omega
theorem want_has {k : Nat} (hk : k < 7) {a b c x y z : Int} (h : Vs.goodB a b c = true) (h' : Vs.goodB x y z = true) {r : List G} (hr : ∀ n, inR [gapK k (Vs.num a b c) a b] n ↔ inR r n) : hasB r x y z = wantB k (Vs.cmp3 x y z a b c) (x == a) (y == b) := by
  unfold hasB
  rw [h', Bool.true_and]
  refine bool_ext ?_
  rw [inB_iff, ← hr, in_one, want_in hk h h']
/-- the normal form of one gap -/
theorem nm_one (g : G) : ∃ r, Nm r ∧ (∀ n, inR [g] n ↔ inR r n) ∧ ¬ 16 < r.length := by
  by_cases h : g.1 < g.2
  · exact ⟨[g], ⟨fun x hx => by rw [List.mem_singleton.1 hx]; exact h, List.pairwise_singleton _ _⟩, fun n => Iff.rfl, by simp⟩
  · refine ⟨[], Nm.nil, fun n => ⟨fun hn => ?_, fun hn => absurd hn (in_nil n)⟩, by simp⟩
    rw [in_one] at hn
    omega
theorem parse_one (s : ByteArray) (g : G) (W : World) (hs : s.size ≤ 1048576) (hE : Vs.Env W) (h : setF s.data.toList = .ok [g]) :
    ∃ r, (∀ n, inR [g] n ↔ inR r n) ∧ Calls Tryz.prog 9 #[.string s] W fun e W' => ∃ v', e = .returned (.tuple #[v', .int .i64 0]) ∧ GS W' v' r ∧ Below W.heap.size W W' := by
  obtain ⟨r, h1, h2, h3⟩ := nm_one g
  refine ⟨r, h2, (parse_any s W hs hE).mono fun e W' hq => ?_⟩
  obtain ⟨h4, hB⟩ := hq
  rw [h] at h4
  obtain ⟨v', h5, h6, h7⟩ := pq_ok h4 h1 h2 h3
  exact ⟨v', h5, h6.gs fun g hg => (h7 g hg).n64, hB⟩
abbrev sgV : Array Value := #[.string ⟨#[61]⟩, .string ⟨#[62, 61]⟩, .string ⟨#[62]⟩, .string ⟨#[60]⟩, .string ⟨#[60, 61]⟩, .string ⟨#[94]⟩, .string ⟨#[126]⟩]
theorem sg_cell {W : World} {S k : Nat} (hk : k < 7) (h : W.heap[S]? = some (.cells sgV 34 (0, 0))) : W.cell? ⟨S, k, none⟩ = some (.string ⟨(sgK k).toArray⟩) := by
  rcases (show k = 0 ∨ k = 1 ∨ k = 2 ∨ k = 3 ∨ k = 4 ∨ k = 5 ∨ k = 6 by omega) with rfl | rfl | rfl | rfl | rfl | rfl | rfl <;> (simp [World.cell?, h]; rfl)
theorem want_cell {W : World} {S k : Nat} {m : Int} {p q : Bool} (hk : k < 7) (h : W.heap[S]? = some (.cells #[.bool (wantB 0 m p q), .bool (wantB 1 m p q), .bool (wantB 2 m p q), .bool (wantB 3 m p q), .bool (wantB 4 m p q), .bool (wantB 5 m p q), .bool (wantB 6 m p q)] 36 (0, 0))) : W.cell? ⟨S, k, none⟩ = some (.bool (wantB k m p q)) := by
  rcases (show k = 0 ∨ k = 1 ∨ k = 2 ∨ k = 3 ∨ k = 4 ∨ k = 5 ∨ k = 6 by omega) with rfl | rfl | rfl | rfl | rfl | rfl | rfl <;> simp [World.cell?, h]
theorem text_no_good {a b c : Int} (h : Vs.goodB a b c = false) : Vs.textL a b c = [] := by unfold Vs.textL; rw [if_neg (by rw [h]; decide)]
set_option maxHeartbeats 2000000 in
set_option maxRecDepth 100000 in
theorem signslaw_any (n a b c x y z : Int) (W : World) (hE : Vs.Env W) :
    Calls Tryz.prog 4 #[.int .i64 n, Vs.V a b c, Vs.V x y z] W fun e W' => e = .returned (.bool true) ∧ Below W.heap.size W W' := by
  have hB0 : Below W.heap.size W ((W.alloc (.cells #[.int .i64 a, .int .i64 b, .int .i64 c] 31)).alloc (.cells #[.int .i64 x, .int .i64 y, .int .i64 z] 31)) := ((Below.refl W.heap.size W).alloc (Nat.le_refl _) _).alloc (by simp) _
  have HV := Lib.hid ((Vs.C3.new W a b c).old (.cells #[.int .i64 x, .int .i64 y, .int .i64 z] 31))
  have hw9 := Vs.C3.new (W.alloc (.cells #[.int .i64 a, .int .i64 b, .int .i64 c] 31)) x y z
  rw [World.size_alloc] at hw9
  have HW := Lib.hid hw9
  have HE := Lib.hid hE
  have htx := fun w (hb : Below W.heap.size W w) => Vs.textr_any a b c w (hE.below (Nat.le_refl _) hb)
  have hgd := fun w => Vs.goodr_any x y z w
  clear hE hw9
  unfold Vs.T at htx
  obtain ⟨V1, hV1⟩ : ∃ V, V = (W.alloc (.cells #[.int .i64 a, .int .i64 b, .int .i64 c] 31)).alloc (.cells #[.int .i64 x, .int .i64 y, .int .i64 z] 31) := ⟨_, rfl⟩
  have HAL := Lib.hid (fun w (hb : Below V1.heap.size V1 w) => (hV1 ▸ hB0).trans (hb.mono (hV1 ▸ hB0).size))
  cases hg : Vs.goodB a b c with
  | false =>
    have e0 : (⟨(Vs.textL a b c).toArray⟩ : ByteArray) = ⟨#[]⟩ := by rw [text_no_good hg]
    rw [e0] at htx
    clear hg e0
    go_enter Tryz.func4, Tryz.ntmps4
    go_wp2_with (first
      | (go_at_call 8; refine (alive_any _ (HE.out.below (Nat.le_refl _) hB0)).mono ?_; rintro e W1 ⟨rfl, hB1⟩; have hB2 := hB0.trans (hB1.mono hB0.size); obtain ⟨-, d0, d1, d2, -⟩ := HV.out.below hB1)
      | (go_at_call 13; refine (htx _ hB2).mono ?_; rintro e W3 ⟨rfl, hB3⟩; have hB4 := hB2.trans (hB3.mono hB2.size)))
    go_ret
    exact ⟨rfl, hB4⟩
  | true =>
    obtain ⟨x9, l9, ht9, -⟩ := text_head hg
    obtain ⟨u, hu⟩ : ∃ u : ByteArray, u = ⟨(Vs.textL a b c).toArray⟩ := ⟨_, rfl⟩
    rw [← hu] at htx
    have hue : u.toList.isEmpty = false := by rw [ByteArray.toList_eq, hu, ht9]; rfl
    have HU := Lib.hid hu
    have HG := Lib.hid hg
    clear hu ht9 hg
    cases hg' : Vs.goodB x y z with
    | false =>
      rw [hg'] at hgd
      clear hg'
      go_enter Tryz.func4, Tryz.ntmps4
      go_wp2_with (first
        | (go_at_call 8; refine (alive_any _ (HE.out.below (Nat.le_refl _) hB0)).mono ?_; rintro e W1 ⟨rfl, hB1⟩; have hB2 := hB0.trans (hB1.mono hB0.size); obtain ⟨-, d0, d1, d2, -⟩ := HV.out.below hB1; obtain ⟨-, f0, f1, f2, -⟩ := HW.out.below hB1; have hb1 := hB1)
        | (go_at_call 13; refine (htx _ hB2).mono ?_; rintro e W3 ⟨rfl, hB3⟩; have hB4 := hB2.trans (hB3.mono hB2.size); clear f0 f1 f2; obtain ⟨-, f0, f1, f2, -⟩ := HW.out.below (hb1.trans (hB3.mono hb1.size)))
        | (go_at_call 14; refine (hgd _).mono ?_; rintro e W5 ⟨rfl, hB5⟩; have hB6 := hB4.trans (hB5.mono hB4.size)))
      go_ret
      exact ⟨rfl, hB6⟩
    | true =>
      rw [hg'] at hgd
      have HG' := Lib.hid hg'
      clear hg'
      by_cases hn : 0 ≤ n ∧ n < 7
      · obtain ⟨k, hk⟩ : ∃ k : Nat, n = (k : Int) := ⟨n.toNat, by omega⟩
        subst hk
        have hk7 : k < 7 := by omega
        clear hn
        obtain ⟨hmem, hsg⟩ := sign_k hk7 a b c
        obtain ⟨u2, hu2⟩ : ∃ u2 : ByteArray, u2 = ⟨(sgK k).toArray⟩ ++ u := ⟨_, rfl⟩
        have hd2 : u2.data.toList = sgK k ++ Vs.textL a b c := by rw [hu2, HU.out, ByteArray.data_append, Array.toList_append]
        have hl1 : (sgK k).length ≤ 2 := by
          have h9 : ∀ q ∈ sgL, q.length ≤ 2 := by decide
          exact h9 _ hmem
        have hl2 := text_len9 a b c
        have hal : allF u2.data.toList = some [gapK k (Vs.num a b c) a b] := by rw [hd2]; exact all_sign hmem HG.out hsg
        have hl3 : u2.data.toList.length ≤ 256 := by
          rw [hd2, List.length_append]
          have h9 := HG.out
          obtain ⟨a0, a1, b0, b1, c0, c1⟩ := Vs.of_good h9
          have key : ∀ m : Fin 1000, (itoa ((m.val : Nat) : Int)).length ≤ 3 := by decide +kernel
          have ka := key ⟨a.toNat, by omega⟩
          have kb := key ⟨b.toNat, by omega⟩
          have kc := key ⟨c.toNat, by omega⟩
          rw [show ((a.toNat : Nat) : Int) = a by omega] at ka
          rw [show ((b.toNat : Nat) : Int) = b by omega] at kb
          rw [show ((c.toNat : Nat) : Int) = c by omega] at kc
          unfold Vs.textL
          rw [if_pos h9]
          simp only [List.length_append, List.length_cons, List.length_nil]
          omega
        have hset := set_some hl3 (fun e => by
          rw [e] at hal
          rw [show allF noneL = none by decide +kernel] at hal
          cases hal) hal
        have hz2 : u2.size ≤ 1048576 := by rw [Lib.size_eq u2]; omega
        have hadd : ∀ w : World, (Op.stringOp .add ⟨(sgK k).toArray⟩ u).run Tryz.prog w = .ok (.string u2) w := fun w => by
          rw [hu2]
          exact run_string_add_sum _ _ _ (by
            rw [Lib.size_eq ⟨(sgK k).toArray⟩, HU.out, Lib.size_eq ⟨(Vs.textL a b c).toArray⟩]
            show (sgK k).length + (Vs.textL a b c).length ≤ _
            omega)
        have HSet := Lib.hid hset
        clear hset hal hmem hsg hu2 hd2 hl1 hl2 hl3
        obtain ⟨sk, hsk⟩ : ∃ sk : ByteArray, sk = ⟨(sgK k).toArray⟩ := ⟨_, rfl⟩
        rw [← hsk] at hadd
        have hcell := fun (w : World) (S : Nat) (h : w.heap[S]? = some (.cells sgV 34 (0, 0))) => (sg_cell hk7 h).trans (by rw [← hsk])
        clear hsk
        have hkk : (k : Int) < 7 := by omega
        go_enter Tryz.func4, Tryz.ntmps4
        go_wp2_with (first
          | (go_at_call 8; refine (alive_any _ (HE.out.below (Nat.le_refl _) hB0)).mono ?_; rintro e W1 ⟨rfl, hB1⟩; have hB2 := hB0.trans (hB1.mono hB0.size); obtain ⟨-, d0, d1, d2, -⟩ := HV.out.below hB1; have hb1 := hB1)
          | (go_at_call 13; refine (htx _ hB2).mono ?_; rintro e W3 ⟨rfl, hB3⟩; have hB4 := hB2.trans (hB3.mono hB2.size); clear d0 d1 d2; have hb3 := hb1.trans (hB3.mono hb1.size); obtain ⟨-, f0, f1, f2, -⟩ := HW.out.below hb3)
          | (go_at_call 14; refine (hgd _).mono ?_; rintro e W5 ⟨rfl, hB5⟩; have hB6 := hB4.trans (hB5.mono hB4.size); have hb5 := hb3.trans (hB5.mono hb3.size); clear f0 f1 f2; have g0 := hcell _ _ (heap_alloc_new W5 (.cells sgV 34)); have hB7 := hB6.alloc hB6.size (.cells sgV 34); have hb7 := hb5.alloc hb5.size (.cells sgV 34)))
        obtain ⟨r, hr, hp⟩ := parse_one u2 _ _ hz2 (HE.out.below (Nat.le_refl _) hB7) HSet.out
        have hwant := want_has hk7 HG.out HG'.out hr
        have HH := Lib.hid hwant
        refine hp.mono ?_
        rintro e W8 ⟨v8, rfl, hG8, hb8⟩
        have hB9 := hB7.trans (hb8.mono hB7.size)
        have hb9 := hb7.trans (hb8.mono hb7.size)
        obtain ⟨sl8, k8, rfl, -, -⟩ := id hG8.form
        have HG8 := Lib.hid hG8
        obtain ⟨-, d0, d1, d2, -⟩ := HV.out.below hb9
        obtain ⟨-, f0, f1, f2, -⟩ := HW.out.below hb9
        have hcm := fun w => Vs.comparer_any x y z a b c w
        generalize hm : Vs.cmp3 x y z a b c = m at hcm hwant
        have HM := Lib.hid hm
        clear hr hp hb8 g0 hG8 hwant hm hB7 hb7 hb5 hB6 hB5 hb3 hB4 hB3 hB2 hB1 hb1 hcell hadd HSet
        go_upto_region 11 with (go_at_call 15; refine (hcm _).mono ?_; rintro e W10 ⟨rfl, hB10⟩; have hB11 := hB9.trans (hB10.mono hB9.size); have hb11 := hb9.trans (hB10.mono hb9.size); clear d0 d1 d2 f0 f1 f2; obtain ⟨-, d0, d1, d2, -⟩ := HV.out.below hb11; obtain ⟨-, f0, f1, f2, -⟩ := HW.out.below hb11)
        go_cut [12] (fun s wx => ∃ A, s = .pointer (some ⟨A, 0, none⟩) ∧ wx.heap[A]? = some (.cells #[.bool (wantB 0 m (x == a) (y == b)), .bool (wantB 1 m (x == a) (y == b)), .bool (wantB 2 m (x == a) (y == b)), .bool (wantB 3 m (x == a) (y == b)), .bool (wantB 4 m (x == a) (y == b)), .bool (wantB 5 m (x == a) (y == b)), .bool (wantB 6 m (x == a) (y == b))] 36 (0, 0)) ∧ Below W10.heap.size W10 wx)
        case first =>
          by_cases h0 : 0 ≤ m
          · cases i1 : x == a with
            | false =>
              go_wp2_with fail
              go_meet
              refine ⟨_, rfl, (heap_alloc_new W10 _).trans ?_, (Below.refl _ _).alloc (Nat.le_refl _) _⟩
              simp [wantB, h0, i1]
            | true =>
              cases i2 : y == b with
              | false =>
                go_wp2_with fail
                go_meet
                refine ⟨_, rfl, (heap_alloc_new W10 _).trans ?_, (Below.refl _ _).alloc (Nat.le_refl _) _⟩
                simp [wantB, h0, i1, i2]
              | true =>
                go_wp2_with fail
                go_meet
                refine ⟨_, rfl, (heap_alloc_new W10 _).trans ?_, (Below.refl _ _).alloc (Nat.le_refl _) _⟩
                simp [wantB, h0, i1, i2]
          · go_wp2_with fail
            go_meet
            refine ⟨_, rfl, (heap_alloc_new W10 _).trans ?_, (Below.refl _ _).alloc (Nat.le_refl _) _⟩
            simp [wantB, h0]
            exact ⟨fun h => absurd h (by omega), fun h => absurd h (by omega)⟩
        clear d0 d1 d2 f0 f1 f2
        obtain ⟨A, rfl, hA, hb12⟩ := hcut
        have hB12 := hB11.trans (hb12.mono hB11.size)
        have hb13 := hb11.trans (hb12.mono hb11.size)
        obtain ⟨-, f0, f1, f2, -⟩ := HW.out.below hb13
        have hwc := want_cell hk7 hA
        have hhas := fun w' (hw : Below wc.heap.size wc w') => has_any r _ x y z w' ((HG8.out.below (hB10.trans (hb12.mono hB10.size))).below hw)
        rw [HH.out, HM.out] at hhas
        obtain ⟨bb, hbb⟩ : ∃ bb, bb = wantB k m (x == a) (y == b) := ⟨_, rfl⟩
        rw [← hbb] at hhas hwc
        clear hbb
        clear hA hb12 hB11 hb11 hB10 hb9 hB9
        go_wp2_with fail
        have e0 := Sx.ext_cell f0
        have e1 := Sx.ext_cell f1
        have e2 := Sx.ext_cell f2
        have e3 := Sx.ext_cell hwc
        have HQ := Lib.hid hhas
        clear f0 f1 f2 hwc hhas
        refine Mix.region (fun w' => ∃ Y, w' = Sx.ext wc Y) 6 [0, 0, 1, 0, 0, 0, 9, 9] [true, false] (by kernel_rfl) (fun _ _ d _ _ h => by cases d <;> exact h) (by rfl) (by kernel_rfl) ⟨_, Sx.ext_of (Below.refl _ _).drew⟩ ?_
        simp only [Mix.selP_cons, Mix.selP_nil, Mix.sel_cons, Mix.sel_nil, Nat.reduceBEq, Nat.reduceAdd, cond_true, cond_false, List.drop_succ_cons, List.drop_zero]
        refine Mix.parts_q ?_
        repeat (go_big_quiet_step (fail))
        refine wpQuiet_nil ?_
        refine Mix.parts_e ?_
        refine Mix.eff_step (fun K hK => ?_)
        go_simp
        refine (HQ.out _ (Below.refl _ _).drew).mono ?_
        rintro e w2 ⟨rfl, hb2⟩
        have hC2 : Below wc.heap.size wc w2 := (Below.refl _ _).drew.trans hb2
        refine hK _ _ ⟨_, Sx.ext_of hC2⟩ ?_
        clear hK K e0 e1 e2 e3
        refine Mix.eff_nil (Mix.parts_n ?_)
        go_wp2_with fail
        go_ret
        exact ⟨rfl, hB12.trans (hC2.mono hB12.size)⟩
      · by_cases hn0 : 0 ≤ n
        · have hn6 : 6 < n := by omega
          clear hn
          go_enter Tryz.func4, Tryz.ntmps4
          go_wp2_with (first
            | (go_at_call 8; refine (alive_any _ (HE.out.below (Nat.le_refl _) hB0)).mono ?_; rintro e W1 ⟨rfl, hB1⟩; have hB2 := hB0.trans (hB1.mono hB0.size); obtain ⟨-, d0, d1, d2, -⟩ := HV.out.below hB1; have hb1 := hB1)
            | (go_at_call 13; refine (htx _ hB2).mono ?_; rintro e W3 ⟨rfl, hB3⟩; have hB4 := hB2.trans (hB3.mono hB2.size); clear d0 d1 d2; have hb3 := hb1.trans (hB3.mono hb1.size); obtain ⟨-, f0, f1, f2, -⟩ := HW.out.below hb3)
            | (go_at_call 14; refine (hgd _).mono ?_; rintro e W5 ⟨rfl, hB5⟩; have hB6 := hB4.trans (hB5.mono hB4.size)))
          go_ret
          exact ⟨rfl, hB6⟩
        · clear hn
          go_enter Tryz.func4, Tryz.ntmps4
          go_wp2_with (first
            | (go_at_call 8; refine (alive_any _ (HE.out.below (Nat.le_refl _) hB0)).mono ?_; rintro e W1 ⟨rfl, hB1⟩; have hB2 := hB0.trans (hB1.mono hB0.size); obtain ⟨-, d0, d1, d2, -⟩ := HV.out.below hB1; have hb1 := hB1)
            | (go_at_call 13; refine (htx _ hB2).mono ?_; rintro e W3 ⟨rfl, hB3⟩; have hB4 := hB2.trans (hB3.mono hB2.size); clear d0 d1 d2; have hb3 := hb1.trans (hB3.mono hb1.size); obtain ⟨-, f0, f1, f2, -⟩ := HW.out.below hb3)
            | (go_at_call 14; refine (hgd _).mono ?_; rintro e W5 ⟨rfl, hB5⟩; have hB6 := hB4.trans (hB5.mono hB4.size)))
          go_ret
          exact ⟨rfl, hB6⟩
end Sg
end Go.Proofs.YtlmmhhkhoaoheaaGreatDoor
