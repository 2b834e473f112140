/-
  Walk: code.ins, for every tree.
-/
import Derived.Test.YtjfchdgdgbdeeaaDoorCodeRK
namespace Go.Proofs.YtjfchdgdgbdeeaaDoor
open Go.RowKit
namespace Cd

def IP (W : World) (k : T) (e : Ending) (W' : World) : Prop :=
  (∃ (x : I) (b : Bool), e = .returned (.tuple #[IV x, .bool b]) ∧ N64 x ∧ (b = true → InsP k x) ∧ (b = false → ∀ y, ¬ InsP k y)) ∧ Below W.heap.size W W'
theorem ip_no {W : World} {k : T} {e : Ending} {W' : World} (h : ∀ y, ¬ InsP k y) (he : e = .returned (.tuple #[.agg #[.int .i64 0, .int .i64 0, .string ⟨#[]⟩], .bool false])) (hb : Below W.heap.size W W') : IP W k e W' :=
  ⟨⟨⟨0, 0, ⟨#[]⟩⟩, false, he, by unfold N64; simp, (fun h => by cases h), fun _ => h⟩, hb⟩
theorem ip_yes {W : World} {k : T} {e : Ending} {W' : World} {x : I} (h : InsP k x) (he : e = .returned (.tuple #[.agg #[.int .i64 x.op, .int .i64 x.n, .string x.s], .bool true])) (hb : Below W.heap.size W W') : IP W k e W' :=
  ⟨⟨x, true, he, h.nb, fun _ => h, fun h => by cases h⟩, hb⟩

/-- the argument's box (block W), the result's cells (block W + 1) -/
structure ZI (W w : World) (sl : Option Addr) (n cap : Nat) : Prop where
  old : Below W.heap.size W w
  lt : W.heap.size + 1 < w.heap.size
  r0 : w.cell? ⟨W.heap.size + 1, 0, none⟩ = some (.int .i64 0)
  r1 : w.cell? ⟨W.heap.size + 1, 1, none⟩ = some (.int .i64 0)
  r2 : w.cell? ⟨W.heap.size + 1, 2, none⟩ = some (.string ⟨#[]⟩)
  rf : ∀ j, w.frozen? ⟨W.heap.size + 1, j, none⟩ = false
  b2 : w.cell? ⟨W.heap.size, 2, none⟩ = some (.slice sl n cap)
theorem ZI.keep {W w w' : World} {sl : Option Addr} {n cap : Nat} (h : ZI W w sl n cap) (hb : Below w.heap.size w w') : ZI W w' sl n cap := by
  obtain ⟨hc, hf⟩ := bcell hb
  have hl := h.lt
  exact ⟨h.old.trans (hb.mono h.old.size), Nat.lt_of_lt_of_le h.lt hb.size, (hc _ _ h.lt).trans h.r0, (hc _ _ h.lt).trans h.r1, (hc _ _ h.lt).trans h.r2, fun j => (hf _ _ h.lt).trans (h.rf j), (hc _ _ (by omega)).trans h.b2⟩
/-- the instruction under way -/
structure NI (w : World) (g : Nat) (x : I) : Prop where
  lt : g < w.heap.size
  c0 : w.cell? ⟨g, 0, none⟩ = some (.int .i64 x.op)
  c1 : w.cell? ⟨g, 1, none⟩ = some (.int .i64 x.n)
  c2 : w.cell? ⟨g, 2, none⟩ = some (.string x.s)
  fz : ∀ j, w.frozen? ⟨g, j, none⟩ = false
theorem NI.keep {w w' : World} {g : Nat} {x : I} (h : NI w g x) (hb : Below w.heap.size w w') : NI w' g x := by
  obtain ⟨hc, hf⟩ := bcell hb
  exact ⟨Nat.lt_of_lt_of_le h.lt hb.size, (hc _ _ h.lt).trans h.c0, (hc _ _ h.lt).trans h.c1, (hc _ _ h.lt).trans h.c2, fun j => (hf _ _ h.lt).trans (h.fz j)⟩
theorem NI.new (w : World) (x : I) : NI (w.alloc (.cells #[.int .i64 x.op, .int .i64 x.n, .string x.s] 31)) w.heap.size x := by
  refine ⟨by simp, ?_, ?_, ?_, ?_⟩
  all_goals first | go_simp | (intro j; go_simp)
theorem two_shape {ks : List T} (h0 : ks.length ≠ 0) (h2 : ¬ 2 < ks.length) (hall : ∀ k ∈ ks, isL k = false) : (∃ a, ks = [.leaf a]) ∨ (∃ a b, ks = [.leaf a, .leaf b]) := by
  match ks, h0, h2, hall with
  | [.leaf a], _, _, _ => exact .inl ⟨a, rfl⟩
  | [.leaf a, .leaf b], _, _, _ => exact .inr ⟨a, b, rfl⟩
  | [.list l], _, _, h => have := h (.list l) (by simp); cases this
  | [.list l, _], _, _, h => have := h (.list l) (by simp); cases this
  | [.leaf _, .list l], _, _, h => have := h (.list l) (by simp); cases this
  | _ :: _ :: _ :: _, _, h, _ => exact absurd (by simp) h

set_option maxHeartbeats 4000000 in
set_option maxRecDepth 100000 in
theorem ins_any (B h : Nat) (k : T) (v : Value) (W : World) (hB : B ≤ W.heap.size) (hr : Rep W B h k v) (hk : kidsLe k) (hE : Env2 W) :
    Calls Tryd.prog 35 #[v] W fun e W' => IP W k e W' := by
  have hTb := hE.env.tab
  cases hr with
  | leaf _ s =>
    have hX : Below W.heap.size W ((W.alloc (.cells #[.bool true, .string s, .slice none 0 0] 46)).alloc (.cells #[.int .i64 0, .int .i64 0, .string ⟨#[]⟩] 31)) := ((Below.refl _ _).alloc (Nat.le_refl _) _).alloc (by simp) _
    go_enter Tryd.func35, Tryd.ntmps35
    go_wp2_with fail
    refine bodyPost_ret (v := .tuple #[.agg #[.int .i64 0, .int .i64 0, .string ⟨#[]⟩], .bool false]) (by simp [results, Tryd.results35, go_sem]) rfl ?_
    exact ip_no (fun y => ins_leaf y) rfl hX
  | list h ks sl cap x y z hc hr =>
    have hX : Below W.heap.size W ((W.alloc (.cells #[.bool false, .string ⟨#[]⟩, .slice sl ks.length cap] 46)).alloc (.cells #[.int .i64 0, .int .i64 0, .string ⟨#[]⟩] 31)) := ((Below.refl _ _).alloc (Nat.le_refl _) _).alloc (by simp) _
    obtain ⟨hk1, hk2⟩ := kidsLe_list hk
    have hno := fun y (hy : InsP (.list ks) y) => ins_kids hy
    by_cases h0 : ks.length = 0
    · have j0 : ((ks.length : Int) == 0) = true := by rw [beq_iff_eq]; omega
      have hn : ∀ y, ¬ InsP (.list ks) y := fun y hy => by
        have := (hno y hy).1
        omega
      have HN := Lib.hid hn
      clear hn
      clear hno hc hr hk2 h0
      go_enter Tryd.func35, Tryd.ntmps35
      go_wp2_with fail
      refine bodyPost_ret (v := .tuple #[.agg #[.int .i64 0, .int .i64 0, .string ⟨#[]⟩], .bool false]) (by simp [results, Tryd.results35, go_sem]) rfl ?_
      exact ip_no HN.out rfl hX
    · have j0 : ((ks.length : Int) == 0) = false := by rw [beq_eq_false_iff_ne]; omega
      by_cases h2 : 2 < ks.length
      · have hn : ∀ y, ¬ InsP (.list ks) y := fun y hy => by
          have := (hno y hy).2.1
          omega
        have HN := Lib.hid hn
        clear hn
        have j2 : (2 : Int) < ks.length := by omega
        clear hno hc hr hk2 h0
        go_enter Tryd.func35, Tryd.ntmps35
        go_wp2_with fail
        refine bodyPost_ret (v := .tuple #[.agg #[.int .i64 0, .int .i64 0, .string ⟨#[]⟩], .bool false]) (by simp [results, Tryd.results35, go_sem]) rfl ?_
        exact ip_no HN.out rfl hX
      · have j2 : ¬ (2 : Int) < ks.length := by omega
        have hsame : ∀ b o, b < B → ((W.alloc (.cells #[.bool false, .string ⟨#[]⟩, .slice sl ks.length cap] 46)).alloc (.cells #[.int .i64 0, .int .i64 0, .string ⟨#[]⟩] 31)).cell? ⟨b, o, none⟩ = W.cell? ⟨b, o, none⟩ := fun b o hb => hX.cell (p := ⟨b, o, none⟩) (by show b < _; omega)
        have hcon := containsl_any ks sl cap x y z B h ((W.alloc (.cells #[.bool false, .string ⟨#[]⟩, .slice sl ks.length cap] 46)).alloc (.cells #[.int .i64 0, .int .i64 0, .string ⟨#[]⟩] 31)) (by simp; omega) (by omega)
          (fun i k hk => by
            obtain ⟨b, o, e, hb, h1, h2, h3⟩ := hc i k hk
            exact ⟨b, o, e, hb, (hsame _ _ hb).trans h1, (hsame _ _ hb).trans h2, (hsame _ _ hb).trans h3⟩) (fun i k hk => (hr i k hk).same hsame)
        clear hsame
        have hZ : ZI W ((W.alloc (.cells #[.bool false, .string ⟨#[]⟩, .slice sl ks.length cap] 46)).alloc (.cells #[.int .i64 0, .int .i64 0, .string ⟨#[]⟩] 31)) sl ks.length cap := by
          refine ⟨hX, by simp, ?_, ?_, ?_, ?_, ?_⟩
          all_goals first | go_simp | (intro j; go_simp)
        rcases fL_iff ks with ⟨hf, k0, hk0, hk0l⟩ | ⟨hf, hall⟩
        · have hn : ∀ y, ¬ InsP (.list ks) y := fun y hy => by
            have := (hno y hy).2.2 k0 hk0
            rw [hk0l] at this
            cases this
          have HN := Lib.hid hn
          clear hn
          rw [decide_eq_true hf] at hcon
          clear hno hc hr hk2 h0 hk0 hk0l hf
          go_enter Tryd.func35, Tryd.ntmps35
          go_wp2_with fail
          refine hcon.mono ?_
          rintro e w1 ⟨rfl, hb1⟩
          obtain ⟨o1, l1, r0, r1, r2, rf, b2⟩ := hZ.keep hb1
          clear hZ hcon hX hb1
          go_wp2_with fail
          refine bodyPost_ret (v := .tuple #[.agg #[.int .i64 0, .int .i64 0, .string ⟨#[]⟩], .bool false]) (by simp [results, Tryd.results35, go_sem, r0, r1, r2]) rfl ?_
          refine ip_no HN.out rfl ?_
          exact ((o1.setCell (p := ⟨W.heap.size + 1, 0, none⟩) (Nat.le_succ _) _).setCell (p := ⟨W.heap.size + 1, 1, none⟩) (Nat.le_succ _) _).setCell (p := ⟨W.heap.size + 1, 2, none⟩) (Nat.le_succ _) _
        · rw [show decide (0 ≤ fL ks) = false by rw [hf]; decide] at hcon
          rcases two_shape h0 h2 hall with ⟨a, ha⟩ | ⟨a, c, ha⟩
          · have hlen : ks.length = 1 := by rw [ha]; rfl
            obtain ⟨b, o, rfl, hbB, h1, h2', h3⟩ := hc 0 (.leaf a) (by rw [ha]; rfl)
            obtain ⟨e1, e2, sl', cap', e3⟩ := (hr 0 (.leaf a) (by rw [ha]; rfl)).vals
            rw [e2] at h2'
            simp only [Nat.zero_mul, Nat.add_zero] at h2'
            have ht : W.cell? ⟨b, o + 1, none⟩ = some (.string a) := h2'
            have hbW : b < W.heap.size := by omega
            rw [hlen] at hcon hZ hX ⊢
            rw [ha] at hno ⊢
            clear e1 e2 e3 h1 h2' h3 hc hr hk1 hk2 hall hf j0 j2 h0 h2 hk hlen
            clear ha
            go_enter Tryd.func35, Tryd.ntmps35
            go_wp2_with fail
            refine hcon.mono ?_
            rintro e w1 ⟨rfl, hb1⟩
            have hZ1 := hZ.keep hb1
            obtain ⟨o1, l1, r0, r1, r2, rf, b2⟩ := id hZ1
            have t1 := ((bcell o1).1 b _ hbW).trans ht
            have hT1 := hTb.below (Nat.le_refl _) o1
            clear hZ hcon hX hb1
            go_wp2_with fail
            refine (op_any a _ hT1).mono ?_
            rintro e w2 ⟨rfl, hb2⟩
            have hZ2 := hZ1.keep hb2
            have hN2 := NI.new w2 ⟨(opN a.data.toList : Int), 0, ⟨#[]⟩⟩
            have hA2 : Below w2.heap.size w2 (w2.alloc (.cells #[.int .i64 (opN a.data.toList : Int), .int .i64 0, .string ⟨#[]⟩] 31)) := (Below.refl _ _).alloc (Nat.le_refl _) _
            have hZ2' := hZ2.keep hA2
            clear r0 r1 r2 rf b2 t1 hb2
            go_wp2_with fail
            refine (takes_any _ _).mono ?_
            rintro e w3 ⟨rfl, hb3⟩
            obtain ⟨n1, n2, n3, n4, nf⟩ := hN2.keep hb3
            have hZ3 := hZ2'.keep hb3
            obtain ⟨o3, l3, r0, r1, r2, rf, b2⟩ := id hZ3
            have hO3 := Lib.hid (((o3.setCell (p := ⟨W.heap.size + 1, 0, none⟩) (Nat.le_succ _) (.int .i64 0)).setCell (p := ⟨W.heap.size + 1, 1, none⟩) (Nat.le_succ _) (.int .i64 0)).setCell (p := ⟨W.heap.size + 1, 2, none⟩) (Nat.le_succ _) (.string ⟨#[]⟩))
            clear hN2 hZ2' hA2 hb3 hZ2 hZ1 o1 hT1
            by_cases g0 : opN a.data.toList = 0
            · have j0 : ((opN a.data.toList : Int) == 0) = true := by simp; omega
              have hn : ∀ y, ¬ InsP (.list [.leaf a]) y := fun y hy => (ins_one hy).1 g0
              have HN := Lib.hid hn
              clear hn hno g0
              go_wp2_with fail
              refine bodyPost_ret (v := .tuple #[.agg #[.int .i64 0, .int .i64 0, .string ⟨#[]⟩], .bool false]) (by simp [results, Tryd.results35, go_sem, r0, r1, r2]) rfl ?_
              exact ip_no HN.out rfl hO3.out
            · have j0 : ((opN a.data.toList : Int) == 0) = false := by simp; omega
              by_cases gt : takes (opN a.data.toList : Int) = 0
              · have HY := Lib.hid (ins_one_mk g0 gt)
                have HO := Lib.hid o3
                rw [gt]
                clear hno g0 gt
                go_wp2_with fail
                refine bodyPost_ret (v := .tuple #[.agg #[.int .i64 (opN a.data.toList : Int), .int .i64 0, .string ⟨#[]⟩], .bool true]) (by simp [results, Tryd.results35, go_sem, r0, r1, r2]) rfl ?_
                refine ip_yes HY.out rfl ?_
                exact ((o3.setCell (p := ⟨W.heap.size + 1, 0, none⟩) (Nat.le_succ _) _).setCell (p := ⟨W.heap.size + 1, 1, none⟩) (Nat.le_succ _) _).setCell (p := ⟨W.heap.size + 1, 2, none⟩) (Nat.le_succ _) _
              · have jt : (takes (opN a.data.toList : Int) == 0) = false := by rw [beq_eq_false_iff_ne]; exact gt
                have hn : ∀ y, ¬ InsP (.list [.leaf a]) y := fun y hy => gt (ins_one hy).2
                have HN := Lib.hid hn
                clear hn hno g0 gt
                go_wp2_with fail
                refine bodyPost_ret (v := .tuple #[.agg #[.int .i64 0, .int .i64 0, .string ⟨#[]⟩], .bool false]) (by simp [results, Tryd.results35, go_sem, r0, r1, r2]) rfl ?_
                exact ip_no HN.out rfl hO3.out
          · have hlen : ks.length = 2 := by rw [ha]; rfl
            obtain ⟨b, o, rfl, hbB, h1, h2', h3⟩ := hc 0 (.leaf a) (by rw [ha]; rfl)
            obtain ⟨e1, e2, sl', cap', e3⟩ := (hr 0 (.leaf a) (by rw [ha]; rfl)).vals
            rw [e2] at h2'
            simp only [Nat.zero_mul, Nat.add_zero] at h2'
            have ht : W.cell? ⟨b, o + 1, none⟩ = some (.string a) := h2'
            obtain ⟨b', o', eb, hbB', g1, g2', g3⟩ := hc 1 (.leaf c) (by rw [ha]; rfl)
            obtain ⟨e1', e2', sl'', cap'', e3'⟩ := (hr 1 (.leaf c) (by rw [ha]; rfl)).vals
            rw [e2'] at g2'
            cases eb
            have htc : W.cell? ⟨b, o + 4, none⟩ = some (.string c) := g2'
            have hcs : c.size ≤ 65536 := by
              have h := hk2 1 (.leaf c) (by rw [ha]; rfl)
              unfold kidsLe at h
              have h' := Lib.size_eq c
              simp only [enc, List.length_append, List.length_cons] at h
              omega
            have hbW : b < W.heap.size := by omega
            rw [hlen] at hcon hZ hX ⊢
            rw [ha] at hno ⊢
            clear e1' e2' e3' g1 g2' g3 hbB' e1 e2 e3 h1 h2' h3 hc hr hk1 hk2 hall hf j0 j2 h0 h2 hk hlen
            clear ha
            go_enter Tryd.func35, Tryd.ntmps35
            go_wp2_with fail
            refine hcon.mono ?_
            rintro e w1 ⟨rfl, hb1⟩
            have hZ1 := hZ.keep hb1
            obtain ⟨o1, l1, r0, r1, r2, rf, b2⟩ := id hZ1
            have t1 := ((bcell o1).1 b _ hbW).trans ht
            have hT1 := hTb.below (Nat.le_refl _) o1
            clear hZ hcon hX hb1
            go_wp2_with fail
            refine (op_any a _ hT1).mono ?_
            rintro e w2 ⟨rfl, hb2⟩
            have hZ2 := hZ1.keep hb2
            have hN2 := NI.new w2 ⟨(opN a.data.toList : Int), 0, ⟨#[]⟩⟩
            have hA2 : Below w2.heap.size w2 (w2.alloc (.cells #[.int .i64 (opN a.data.toList : Int), .int .i64 0, .string ⟨#[]⟩] 31)) := (Below.refl _ _).alloc (Nat.le_refl _) _
            have hZ2' := hZ2.keep hA2
            clear r0 r1 r2 rf b2 t1 hb2
            go_wp2_with fail
            refine (takes_any _ _).mono ?_
            rintro e w3 ⟨rfl, hb3⟩
            obtain ⟨n1, n2, n3, n4, nf⟩ := hN2.keep hb3
            have hZ3 := hZ2'.keep hb3
            obtain ⟨o3, l3, r0, r1, r2, rf, b2⟩ := id hZ3
            have u1 := ((bcell o3).1 b _ hbW).trans htc
            have hE3 := hE.below o3
            have hNk := hN2.keep hb3
            have l2 := hZ2.lt
            have h2s := hZ2.old.size
            have hO3 := Lib.hid (((o3.setCell (p := ⟨W.heap.size + 1, 0, none⟩) (Nat.le_succ _) (.int .i64 0)).setCell (p := ⟨W.heap.size + 1, 1, none⟩) (Nat.le_succ _) (.int .i64 0)).setCell (p := ⟨W.heap.size + 1, 2, none⟩) (Nat.le_succ _) (.string ⟨#[]⟩))
            clear hN2 hZ2' hA2 hb3 hZ2 hZ1 o1 hT1
            by_cases g0 : opN a.data.toList = 0
            · have j0 : ((opN a.data.toList : Int) == 0) = true := by simp; omega
              have hn : ∀ y, ¬ InsP (.list [.leaf a, .leaf c]) y := fun y hy => (ins_two hy).1 g0
              have HN := Lib.hid hn
              clear hn hno g0 hNk
              go_wp2_with fail
              refine bodyPost_ret (v := .tuple #[.agg #[.int .i64 0, .int .i64 0, .string ⟨#[]⟩], .bool false]) (by simp [results, Tryd.results35, go_sem, r0, r1, r2]) rfl ?_
              exact ip_no HN.out rfl hO3.out
            · have j0 : ((opN a.data.toList : Int) == 0) = false := by simp; omega
              by_cases gt : takes (opN a.data.toList : Int) = 0
              · have hn : ∀ y, ¬ InsP (.list [.leaf a, .leaf c]) y := fun y hy => (ins_two hy).2.1 gt
                have HN := Lib.hid hn
                rw [gt]
                clear hn hno g0 gt hNk
                go_wp2_with fail
                refine bodyPost_ret (v := .tuple #[.agg #[.int .i64 0, .int .i64 0, .string ⟨#[]⟩], .bool false]) (by simp [results, Tryd.results35, go_sem, r0, r1, r2]) rfl ?_
                exact ip_no HN.out rfl hO3.out
              · by_cases g2 : takes (opN a.data.toList : Int) = 2
                · have HY := Lib.hid (ins_two_txt (b := c) g0 g2)
                  have hOs := o3.setCell (p := ⟨w2.heap.size, 2, none⟩) h2s (.string c)
                  have HO := Lib.hid (((hOs.setCell (p := ⟨W.heap.size + 1, 0, none⟩) (Nat.le_succ _) (.int .i64 (opN a.data.toList : Int))).setCell (p := ⟨W.heap.size + 1, 1, none⟩) (Nat.le_succ _) (.int .i64 0)).setCell (p := ⟨W.heap.size + 1, 2, none⟩) (Nat.le_succ _) (.string c))
                  have hne : w2.heap.size ≠ W.heap.size + 1 := by omega
                  rw [g2]
                  clear hno g0 gt g2 hOs hNk
                  go_wp2_with fail
                  refine bodyPost_ret (v := .tuple #[.agg #[.int .i64 (opN a.data.toList : Int), .int .i64 0, .string c], .bool true]) (by simp [results, Tryd.results35, go_sem, r0, r1, r2]) rfl ?_
                  exact ip_yes HY.out rfl HO.out
                · have jt : (takes (opN a.data.toList : Int) == 0) = false := by rw [beq_eq_false_iff_ne]; exact gt
                  have jt2 : (takes (opN a.data.toList : Int) == 2) = false := by rw [beq_eq_false_iff_ne]; exact g2
                  have hne : w2.heap.size ≠ W.heap.size + 1 := by omega
                  by_cases hat : ∃ n, Lib.atoiAll c.data.toList = .ok n
                  · obtain ⟨n, hat⟩ := hat
                    obtain ⟨nb1, nb2⟩ := Lib.atoiAll_bounds hat
                    have hA := atoi_ok c (by omega) n hat w3
                    obtain ⟨Is, hIs⟩ : ∃ Is : ByteArray, Is = ⟨(Lib.itoa n).toArray⟩ := ⟨_, rfl⟩
                    have hit := fun (w : World) (hw : Env w) => itoa_any n nb1 nb2 w hw
                    rw [← hIs] at hit
                    by_cases ge : Is = c
                    · have HY := Lib.hid (ins_two_num (b := c) g0 gt g2 (by rw [← hIs]; exact ge) nb1 nb2)
                      have i1 := seq_tt ge
                      have i2 := sne_ff ge
                      clear hno g0 gt g2 ge hIs hat nb1 nb2
                      go_wp2_with fail
                      refine hA.mono ?_
                      rintro e w4 ⟨rfl, hb4⟩
                      have hZ4 := hZ3.keep hb4
                      have hN4 := hNk.keep hb4
                      have b2' := ext_cell hZ4.b2
                      have u1' := ext_cell (keep_cell hb4 u1)
                      have hE4 := hE3.below hb4
                      clear hZ3 hO3 hb4 hA hE3 n1 n2 n3 n4 nf u1 hNk r0 r1 r2 rf b2
                      go_wp2_with fail
                      refine wp_region_ext (X := w4) (by kernel_rfl) (by kernel_rfl) ?_
                      repeat (go_big_quiet_step ((go_at_call 27; exact calls_ext (hit _ (hE4.env.below (ext_below _ _))))))
                      refine wpQuiet_nil ?_
                      intro _ hw'
                      obtain ⟨Y, hw''⟩ := hw'
                      subst hw''
                      obtain ⟨o5, l5, r0, r1, r2, rf, b2⟩ := hZ4.keep (ext_below w4 Y)
                      obtain ⟨n1, n2, n3, n4, nf⟩ := hN4.keep (ext_below w4 Y)
                      clear hZ4 hN4 hE4 hit b2' u1'
                      generalize ext w4 Y = w5 at *
                      go_wp2_with fail
                      refine bodyPost_ret (v := .tuple #[.agg #[.int .i64 (opN a.data.toList : Int), .int .i64 n, .string ⟨#[]⟩], .bool true]) (by simp [results, Tryd.results35, go_sem, r0, r1, r2]) rfl ?_
                      exact ip_yes HY.out rfl ((((o5.setCell (p := ⟨w2.heap.size, 1, none⟩) h2s _).setCell (p := ⟨W.heap.size + 1, 0, none⟩) (Nat.le_succ _) _).setCell (p := ⟨W.heap.size + 1, 1, none⟩) (Nat.le_succ _) _).setCell (p := ⟨W.heap.size + 1, 2, none⟩) (Nat.le_succ _) _)
                    · have hn : ∀ y, ¬ InsP (.list [.leaf a, .leaf c]) y := fun y hy => by
                        have h1 := ((ins_two hy).2.2.2.2 g2).1
                        have h2 := atoi_itoa y.n hy.nb.1 hy.nb.2
                        have h3 : Lib.atoiAll c.data.toList = .ok y.n := by rw [← h1]; exact h2
                        rw [hat] at h3
                        injection h3 with h3
                        exact ge (by rw [hIs, h3]; exact h1)
                      have HN := Lib.hid hn
                      have i1 := seq_ff ge
                      have i2 := sne_tt ge
                      clear hn hno g0 gt g2 ge hIs hat nb1 nb2
                      go_wp2_with fail
                      refine hA.mono ?_
                      rintro e w4 ⟨rfl, hb4⟩
                      have hZ4 := hZ3.keep hb4
                      have hN4 := hNk.keep hb4
                      have b2' := ext_cell hZ4.b2
                      have u1' := ext_cell (keep_cell hb4 u1)
                      have hE4 := hE3.below hb4
                      clear hZ3 hO3 hb4 hA hE3 n1 n2 n3 n4 nf u1 hNk r0 r1 r2 rf b2
                      go_wp2_with fail
                      refine wp_region_ext (X := w4) (by kernel_rfl) (by kernel_rfl) ?_
                      repeat (go_big_quiet_step ((go_at_call 27; exact calls_ext (hit _ (hE4.env.below (ext_below _ _))))))
                      refine wpQuiet_nil ?_
                      intro _ hw'
                      obtain ⟨Y, hw''⟩ := hw'
                      subst hw''
                      obtain ⟨o5, l5, r0, r1, r2, rf, b2⟩ := hZ4.keep (ext_below w4 Y)
                      obtain ⟨n1, n2, n3, n4, nf⟩ := hN4.keep (ext_below w4 Y)
                      clear hZ4 hN4 hE4 hit b2' u1'
                      generalize ext w4 Y = w5 at *
                      go_wp2_with fail
                      refine bodyPost_ret (v := .tuple #[.agg #[.int .i64 0, .int .i64 0, .string ⟨#[]⟩], .bool false]) (by simp [results, Tryd.results35, go_sem, r0, r1, r2]) rfl ?_
                      exact ip_no HN.out rfl (((o5.setCell (p := ⟨W.heap.size + 1, 0, none⟩) (Nat.le_succ _) _).setCell (p := ⟨W.heap.size + 1, 1, none⟩) (Nat.le_succ _) _).setCell (p := ⟨W.heap.size + 1, 2, none⟩) (Nat.le_succ _) _)
                  · have hbad : ∀ v, Lib.atoiAll c.data.toList ≠ .ok v := fun v hv => hat ⟨v, hv⟩
                    have hn : ∀ y, ¬ InsP (.list [.leaf a, .leaf c]) y := fun y hy => by
                      have h1 := ((ins_two hy).2.2.2.2 g2).1
                      have h2 := atoi_itoa y.n hy.nb.1 hy.nb.2
                      exact hbad y.n (by rw [← h1]; exact h2)
                    have HN := Lib.hid hn
                    have hA := atoi_bad c (by omega) hbad w3 hE3
                    clear hn hno g0 gt g2 hat hbad
                    go_wp2_with fail
                    refine hA.mono ?_
                    rintro e w4 ⟨xv, Nn, rfl, -, -, hb4⟩
                    have hZ4 := hZ3.keep hb4
                    obtain ⟨o5, l4, r0, r1, r2, rf, b2⟩ := id hZ4
                    clear hZ4 hZ3 hO3 hb4 hA hE3 n1 n2 n3 n4 nf u1 hNk
                    go_wp2_with fail
                    go_quiet (fail)
                    go_wp2_with fail
                    refine bodyPost_ret (v := .tuple #[.agg #[.int .i64 0, .int .i64 0, .string ⟨#[]⟩], .bool false]) (by simp [results, Tryd.results35, go_sem, r0, r1, r2]) rfl ?_
                    exact ip_no HN.out rfl ((((below_drewN o5 _).setCell (p := ⟨W.heap.size + 1, 0, none⟩) (Nat.le_succ _) _).setCell (p := ⟨W.heap.size + 1, 1, none⟩) (Nat.le_succ _) _).setCell (p := ⟨W.heap.size + 1, 2, none⟩) (Nat.le_succ _) _)
end Cd
end Go.Proofs.YtjfchdgdgbdeeaaDoor
