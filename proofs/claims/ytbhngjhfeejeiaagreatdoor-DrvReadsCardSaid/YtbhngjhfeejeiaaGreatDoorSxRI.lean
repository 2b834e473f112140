/-
  Walks: the reference's sexp Decode and Same.
-/
import Derived.Test.YtbhngjhfeejeiaaGreatDoorSxRH
import Derived.Test.YtbhngjhfeejeiaaGreatDoorSxT
namespace Go.Proofs.YtbhngjhfeejeiaaGreatDoor
open Go.RowKit
namespace Sx

theorem R3' {W w1 : World} {B h : Nat} {t : T} {r : Value} (hB : W.heap.size < B) (hr : RepS w1 (fun k => B ≤ k ∧ k < w1.heap.size) h t r) (u v z : Value) (o : Obj) :
    RepS ((((w1.setCell ⟨W.heap.size, 0, none⟩ u).setCell ⟨W.heap.size, 1, none⟩ v).setCell ⟨W.heap.size, 2, none⟩ z).alloc o) (fun k => W.heap.size ≤ k ∧ k < ((((w1.setCell ⟨W.heap.size, 0, none⟩ u).setCell ⟨W.heap.size, 1, none⟩ v).setCell ⟨W.heap.size, 2, none⟩ z).alloc o).heap.size) h t r := by
  have hs : ((((w1.setCell ⟨W.heap.size, 0, none⟩ u).setCell ⟨W.heap.size, 1, none⟩ v).setCell ⟨W.heap.size, 2, none⟩ z).alloc o).heap.size = w1.heap.size + 1 := by simp [World.setCell]
  refine (hr.same (fun j o' hj => World.cell?_of_block ?_)).sub (fun j hj => ⟨by omega, by omega⟩)
  have hj2 : j ≠ W.heap.size := by have h1 : B ≤ j := hj.1; omega
  rw [heap_alloc_old _ _ (by simp [World.setCell]; exact hj.2), Below.heap_setCell _ _ _ _ hj2, Below.heap_setCell _ _ _ _ hj2, Below.heap_setCell _ _ _ _ hj2]

set_option maxHeartbeats 4000000 in
set_option maxRecDepth 100000 in
theorem decoder_any (s : ByteArray) (W : World) :
    Calls Tryz.prog 13 #[.string s] W fun e W' => DP W (parse s.data.toList) e W' := by
  have hsz := Lib.size_eq s
  have hX : Below W.heap.size W (W.alloc (.cells #[.bool false, .string ⟨#[]⟩, .slice none 0 0] 39)) := (Below.refl _ _).alloc (Nat.le_refl _) _
  have hbx : (W.alloc (.cells #[.bool false, .string ⟨#[]⟩, .slice none 0 0] 39)).heap[W.heap.size]? = some (.cells #[.bool false, .string ⟨#[]⟩, .slice none 0 0] 39 (0, 0)) := heap_alloc_new W _
  by_cases hl : 65536 < s.size
  · have hN := Lib.hid (parse_long (l := s.data.toList) (by omega))
    have k1 : decide ((65536 : Int) < s.size) = true := by simp; omega
    clear hsz
    go_enter Tryz.func13, Tryz.ntmps13
    go_wp2_with fail
    refine bodyPost_ret (v := .tuple #[.agg #[.bool false, .string ⟨#[]⟩, .slice none 0 0], .int .i64 3]) (by simp [results, Tryz.results13, go_sem]) rfl ?_
    rw [hN.out]
    exact ⟨⟨_, _, _, _, _, _, rfl, rfl, by decide⟩, hX⟩
  · have k1 : decide ((65536 : Int) < s.size) = false := by simp; omega
    have hcall : Calls Tryz.prog 31 #[.string s, .int .i64 0] (W.alloc (.cells #[.bool false, .string ⟨#[]⟩, .slice none 0 0] 39)) fun e W' => RR (W.alloc (.cells #[.bool false, .string ⟨#[]⟩, .slice none 0 0] 39)) 32 (tk 32 s.data.toList) e W' :=
      rtake_any 32 _ s 0 (by omega) (by omega)
    have hsz2 : (W.alloc (.cells #[.bool false, .string ⟨#[]⟩, .slice none 0 0] 39)).heap.size = W.heap.size + 1 := by simp
    cases hO : tk 32 s.data.toList with
    | bad f =>
      have hN := Lib.hid (parse_bad (by omega) hO)
      rw [hO] at hcall
      clear hO hl hsz
      go_enter Tryz.func13, Tryz.ntmps13
      go_wp2_with fail
      refine hcall.mono ?_
      rintro e w1 ⟨⟨β, σ, sl, n, cap, k, f', rfl, rfl, hf5⟩, hb1⟩
      have hbx1 := (hb1.block W.heap.size (by rw [hsz2]; omega)).trans hbx
      have hB := hX.trans (hb1.mono (by omega))
      have l0 : W.heap.size < w1.heap.size := by have := hb1.size; omega
      clear hbx hsz2 hX hcall
      have q0 : w1.cell? ⟨W.heap.size, 0, none⟩ = some (.bool false) := by simp [World.cell?, hbx1]
      have q1 : w1.cell? ⟨W.heap.size, 1, none⟩ = some (.string ⟨#[]⟩) := by simp [World.cell?, hbx1]
      have q2 : w1.cell? ⟨W.heap.size, 2, none⟩ = some (.slice none 0 0) := by simp [World.cell?, hbx1]
      have qf : ∀ j, w1.frozen? ⟨W.heap.size, j, none⟩ = false := fun j => by simp [World.frozen?, hbx1]
      clear hbx1 hb1
      rcases hf5 with rfl | rfl
      · go_wp2_with fail
        refine bodyPost_ret (v := .tuple #[.agg #[.bool false, .string ⟨#[]⟩, .slice none 0 0], .int .i64 4]) (by simp [results, Tryz.results13, go_sem, q0, q1, q2, l0]) rfl ?_
        rw [hN.out]
        exact ⟨⟨_, _, _, _, _, _, rfl, rfl, by decide⟩, B3 hB _ _ _ _⟩
      · go_wp2_with fail
        refine bodyPost_ret (v := .tuple #[.agg #[.bool false, .string ⟨#[]⟩, .slice none 0 0], .int .i64 5]) (by simp [results, Tryz.results13, go_sem, q0, q1, q2, l0]) rfl ?_
        rw [hN.out]
        exact ⟨⟨_, _, _, _, _, _, rfl, rfl, by decide⟩, B3 hB _ _ _ _⟩
    | ok t n =>
      rw [hO] at hcall
      by_cases hn : n < s.data.toList.length
      · have hN := Lib.hid (parse_more (by omega) hO hn)
        have k2 : decide ((n : Int) < s.size) = true := by simp; omega
        have k3 : n < s.size := by omega
        clear hO hl hsz hn
        go_enter Tryz.func13, Tryz.ntmps13
        go_wp2_with fail
        refine hcall.mono ?_
        rintro e w1 ⟨⟨β, σ, sl, n', cap, k, f', rfl, rfl, rfl, hrep⟩, hb1⟩
        have hbx1 := (hb1.block W.heap.size (by rw [hsz2]; omega)).trans hbx
        have hB := hX.trans (hb1.mono (by omega))
        have l0 : W.heap.size < w1.heap.size := by have := hb1.size; omega
        clear hbx hsz2 hX hcall
        have q0 : w1.cell? ⟨W.heap.size, 0, none⟩ = some (.bool false) := by simp [World.cell?, hbx1]
        have q1 : w1.cell? ⟨W.heap.size, 1, none⟩ = some (.string ⟨#[]⟩) := by simp [World.cell?, hbx1]
        have q2 : w1.cell? ⟨W.heap.size, 2, none⟩ = some (.slice none 0 0) := by simp [World.cell?, hbx1]
        have qf : ∀ j, w1.frozen? ⟨W.heap.size, j, none⟩ = false := fun j => by simp [World.frozen?, hbx1]
        clear hbx1 hb1 hrep
        go_wp2_with fail
        refine bodyPost_ret (v := .tuple #[.agg #[.bool false, .string ⟨#[]⟩, .slice none 0 0], .int .i64 5]) (by simp [results, Tryz.results13, go_sem, q0, q1, q2, l0]) rfl ?_
        rw [hN.out]
        exact ⟨⟨_, _, _, _, _, _, rfl, rfl, by decide⟩, B3 hB _ _ _ _⟩
      · have hN := Lib.hid (parse_ok (by omega) hO hn)
        have k2 : decide ((n : Int) < s.size) = false := by simp; omega
        have k3 : ¬ n < s.size := by omega
        clear hO hl hsz hn
        go_enter Tryz.func13, Tryz.ntmps13
        go_wp2_with fail
        refine hcall.mono ?_
        rintro e w1 ⟨⟨β, σ, sl, n', cap, k, f', rfl, rfl, rfl, hrep⟩, hb1⟩
        have hbx1 := (hb1.block W.heap.size (by rw [hsz2]; omega)).trans hbx
        have hB := hX.trans (hb1.mono (by omega))
        have l0 : W.heap.size < w1.heap.size := by have := hb1.size; omega
        rw [hsz2] at hrep
        have HR := Lib.hid hrep
        clear hbx hsz2 hX hcall
        have q0 : w1.cell? ⟨W.heap.size, 0, none⟩ = some (.bool false) := by simp [World.cell?, hbx1]
        have q1 : w1.cell? ⟨W.heap.size, 1, none⟩ = some (.string ⟨#[]⟩) := by simp [World.cell?, hbx1]
        have q2 : w1.cell? ⟨W.heap.size, 2, none⟩ = some (.slice none 0 0) := by simp [World.cell?, hbx1]
        have qf : ∀ j, w1.frozen? ⟨W.heap.size, j, none⟩ = false := fun j => by simp [World.frozen?, hbx1]
        clear hbx1 hb1 hrep
        go_wp2_with fail
        refine bodyPost_ret (v := .tuple #[.agg #[.bool β, .string σ, .slice sl n' cap], .int .i64 0]) (by simp [results, Tryz.results13, go_sem, q0, q1, q2, l0]) rfl ?_
        rw [hN.out]
        exact ⟨⟨_, _, _, _, _, _, rfl, rfl, R3' (Nat.lt_succ_self _) HR.out _ _ _ _⟩, B3 hB _ _ _ _⟩

open Classical in
noncomputable def eqT (a b : T) : Bool := decide (a = b)
open Classical in
theorem eqT_tt {a b : T} (h : a = b) : eqT a b = true := by unfold eqT; exact decide_eq_true h
open Classical in
theorem eqT_ff {a b : T} (h : a ≠ b) : eqT a b = false := by unfold eqT; exact decide_eq_false h
theorem eqT_leaf (a b : ByteArray) : eqT (.leaf a) (.leaf b) = (a.toList == b.toList) := by
  by_cases h : a = b
  · rw [eqT_tt (by rw [h]), seq_tt h]
  · rw [eqT_ff (fun e => h (by injection e)), seq_ff h]
theorem take_eq {a b : List T} {k : Nat} {x y : T} (h : a.take k = b.take k) (hx : a[k]? = some x) (hy : b[k]? = some y) (he : x = y) : a.take (k + 1) = b.take (k + 1) := by
  rw [List.take_add_one, List.take_add_one, hx, hy, h, he]

set_option maxHeartbeats 1000000 in
set_option maxRecDepth 100000 in
theorem same_ll (s s' : ByteArray) (W : World) :
    Calls Tryz.prog 16 #[.agg #[.bool true, .string s, .slice none 0 0], .agg #[.bool true, .string s', .slice none 0 0]] W fun e W' => e = .returned (.bool (eqT (.leaf s) (.leaf s'))) ∧ Below W.heap.size W W' := by
  have hX : Below W.heap.size W ((W.alloc (.cells #[.bool true, .string s, .slice none 0 0] 39)).alloc (.cells #[.bool true, .string s', .slice none 0 0] 39)) := ((Below.refl _ _).alloc (Nat.le_refl _) _).alloc (by simp) _
  by_cases he : s = s'
  · have hx := Lib.hid (eqT_tt (a := .leaf s) (b := .leaf s') (by rw [he]))
    have k1 := seq_tt he
    have k2 := sne_ff he
    clear he
    go_enter Tryz.func16, Tryz.ntmps16
    go_wp2_with fail
    go_loop [30] (fun i => i = .int .i64 0) (fun _ => 0)
    case atStart => rfl
    case round =>
      obtain rfl := hrel
      go_wp2_with fail
      go_ret
      exact ⟨ret_bool hx.out.symm, hX⟩
  · have hx := Lib.hid (eqT_ff (a := .leaf s) (b := .leaf s') (fun e => he (by injection e)))
    have k1 := seq_ff he
    have k2 := sne_tt he
    clear he
    go_enter Tryz.func16, Tryz.ntmps16
    go_wp2_with fail
    go_ret
    exact ⟨ret_bool hx.out.symm, hX⟩
set_option maxHeartbeats 1000000 in
set_option maxRecDepth 100000 in
theorem same_lt (s : ByteArray) (ks : List T) (sl : Option Addr) (n cap : Nat) (W : World) :
    Calls Tryz.prog 16 #[.agg #[.bool true, .string s, .slice none 0 0], .agg #[.bool false, .string ⟨#[]⟩, .slice sl n cap]] W fun e W' => e = .returned (.bool (eqT (.leaf s) (.list ks))) ∧ Below W.heap.size W W' := by
  have hX : Below W.heap.size W ((W.alloc (.cells #[.bool true, .string s, .slice none 0 0] 39)).alloc (.cells #[.bool false, .string ⟨#[]⟩, .slice sl n cap] 39)) := ((Below.refl _ _).alloc (Nat.le_refl _) _).alloc (by simp) _
  have hx := Lib.hid (eqT_ff (a := .leaf s) (b := .list ks) (fun e => by cases e))
  go_enter Tryz.func16, Tryz.ntmps16
  go_wp2_with fail
  go_ret
  exact ⟨ret_bool hx.out.symm, hX⟩
set_option maxHeartbeats 1000000 in
set_option maxRecDepth 100000 in
theorem same_tl (s : ByteArray) (ks : List T) (sl : Option Addr) (n cap : Nat) (W : World) :
    Calls Tryz.prog 16 #[.agg #[.bool false, .string ⟨#[]⟩, .slice sl n cap], .agg #[.bool true, .string s, .slice none 0 0]] W fun e W' => e = .returned (.bool (eqT (.list ks) (.leaf s))) ∧ Below W.heap.size W W' := by
  have hX : Below W.heap.size W ((W.alloc (.cells #[.bool false, .string ⟨#[]⟩, .slice sl n cap] 39)).alloc (.cells #[.bool true, .string s, .slice none 0 0] 39)) := ((Below.refl _ _).alloc (Nat.le_refl _) _).alloc (by simp) _
  have hx := Lib.hid (eqT_ff (a := .list ks) (b := .leaf s) (fun e => by cases e))
  go_enter Tryz.func16, Tryz.ntmps16
  go_wp2_with fail
  go_ret
  exact ⟨ret_bool hx.out.symm, hX⟩

set_option maxHeartbeats 4000000 in
set_option maxRecDepth 100000 in
theorem samer_any (B : Nat) : ∀ (h : Nat) (W : World) (h' : Nat) (t t' : T) (v v' : Value), B ≤ W.heap.size → kidsLe t → Rep W B h t v → Rep W B h' t' v' →
    Calls Tryz.prog 16 #[v, v'] W fun e W' => e = .returned (.bool (eqT t t')) ∧ Below W.heap.size W W' := by
  intro h
  induction h with
  | zero =>
    intro W h' t t' v v' hB hkl hr hr'
    cases hr with
    | leaf _ s =>
      cases hr' with
      | leaf _ s' => exact same_ll s s' W
      | list h2 ks' sl' cap' x' y' z' hc' hrk' => exact same_lt s ks' _ _ _ W
  | succ h ih =>
    intro W h' t t' v v' hB hkl hr hr'
    cases hr with
    | leaf _ s =>
      cases hr' with
      | leaf _ s' => exact same_ll s s' W
      | list h2 ks' sl' cap' x' y' z' hc' hrk' => exact same_lt s ks' _ _ _ W
    | list _ ks sl cap x y z hc hrk =>
      cases hr' with
      | leaf _ s' => exact same_tl s' ks _ _ _ W
      | list h2 ks' sl' cap' x' y' z' hc' hrk' =>
        have hX : Below W.heap.size W ((W.alloc (.cells #[.bool false, .string ⟨#[]⟩, .slice sl ks.length cap] 39)).alloc (.cells #[.bool false, .string ⟨#[]⟩, .slice sl' ks'.length cap'] 39)) := ((Below.refl _ _).alloc (Nat.le_refl _) _).alloc (by simp) _
        obtain ⟨hsm0, hkl2⟩ := kidsLe_list hkl
        by_cases hl : ks.length = ks'.length
        · have p2 : ((W.alloc (.cells #[.bool false, .string ⟨#[]⟩, .slice sl ks.length cap] 39)).alloc (.cells #[.bool false, .string ⟨#[]⟩, .slice sl' ks'.length cap'] 39)).cell? ⟨W.heap.size, 2, none⟩ = some (.slice sl ks.length cap) := by go_simp
          have p3 : ((W.alloc (.cells #[.bool false, .string ⟨#[]⟩, .slice sl ks.length cap] 39)).alloc (.cells #[.bool false, .string ⟨#[]⟩, .slice sl' ks'.length cap'] 39)).cell? ⟨W.heap.size + 1, 2, none⟩ = some (.slice sl' ks.length cap') := by rw [hl]; go_simp
          have k1 : ((ks.length : Int) == ks'.length) = true := by simp; omega
          have k2 : ((ks.length : Int) != ks'.length) = false := by simp; omega
          have HL := Lib.hid hl
          have HS := Lib.hid hsm0
          have HC := Lib.hid hc
          have HC' := Lib.hid hc'
          have HR := Lib.hid hrk
          have HR' := Lib.hid hrk'
          clear hl hc hc' hrk hrk'
          go_enter Tryz.func16, Tryz.ntmps16
          go_wp2_with fail
          go_loopw [30] (fun i wr => ∃ k : Nat, k ≤ ks.length ∧ i = .int .i64 k ∧ ks.take k = ks'.take k ∧ Below (W.heap.size + 2) ((W.alloc (.cells #[.bool false, .string ⟨#[]⟩, .slice sl ks.length cap] 39)).alloc (.cells #[.bool false, .string ⟨#[]⟩, .slice sl' ks'.length cap'] 39)) wr) (fun i _ => ks.length - (intOf i).toNat)
          case atStart => exact ⟨0, Nat.zero_le _, rfl, rfl, Below.refl _ _⟩
          case round =>
            obtain ⟨k, hk, rfl, htk, hb⟩ := hrel
            have c2 := (hb.cell (p := ⟨W.heap.size, 2, none⟩) (by show W.heap.size < _; omega)).trans p2
            have c3 := (hb.cell (p := ⟨W.heap.size + 1, 2, none⟩) (by show W.heap.size + 1 < _; omega)).trans p3
            have hbW := hX.trans (hb.mono (Nat.le_add_right _ 2))
            have hsm := HS.out
            have HTK := Lib.hid htk
            clear p2 p3 htk hX
            by_cases hlt : k < ks.length
            · obtain ⟨u, hu⟩ : ∃ u, ks[k]? = some u := ⟨ks[k], List.getElem?_eq_getElem hlt⟩
              obtain ⟨u', hu'⟩ : ∃ u', ks'[k]? = some u' := ⟨ks'[k]'(by rw [← HL.out]; exact hlt), List.getElem?_eq_getElem _⟩
              obtain ⟨b, a, rfl, hbl, h1, h2, h3⟩ := HC.out k u hu
              obtain ⟨b', a', rfl, hbl', h1', h2', h3'⟩ := HC'.out k u' hu'
              have hsame : ∀ b o, b < B → wr.cell? ⟨b, o, none⟩ = W.cell? ⟨b, o, none⟩ := fun b o hb => hbW.cell (p := ⟨b, o, none⟩) (by show b < _; omega)
              have g1 := ext_cell ((hsame b _ hbl).trans h1)
              have g2 := ext_cell ((hsame b _ hbl).trans h2)
              have g3 := ext_cell ((hsame b _ hbl).trans h3)
              have g1' := ext_cell ((hsame b' _ hbl').trans h1')
              have g2' := ext_cell ((hsame b' _ hbl').trans h2')
              have g3' := ext_cell ((hsame b' _ hbl').trans h3')
              have d2 := ext_cell c2
              have d3 := ext_cell c3
              have hBw : B ≤ wr.heap.size := Nat.le_trans hB hbW.size
              have hsame2 : ∀ Y b o, b < B → (ext wr Y).cell? ⟨b, o, none⟩ = W.cell? ⟨b, o, none⟩ := fun Y b o hb => ((ext_below wr Y).cell (p := ⟨b, o, none⟩) (by show b < _; omega)).trans (hsame b o hb)
              have hk0 := fun Y => ih (ext wr Y) _ u u' _ _ (Nat.le_trans hBw (ext_below wr Y).size) (hkl2 k u hu) ((HR.out k u hu).same (hsame2 Y)) ((HR'.out k u' hu').same (hsame2 Y))
              clear hsame hsame2 h1 h2 h3 h1' h2' h3' c2 c3
              by_cases he : u = u'
              · rw [eqT_tt he] at hk0
                have HT := Lib.hid (take_eq HTK.out hu hu' he)
                clear hu hu' he
                go_wp2_with fail
                refine wp_region_ext (X := wr) (by kernel_rfl) (by kernel_rfl) ?_
                repeat (go_big_quiet_step ((go_at_call 16; exact calls_ext (hk0 _))))
                refine wpQuiet_nil ?_
                intro _ hw'
                obtain ⟨Y, hw''⟩ := hw'
                subst hw''
                have hb2 := hb.trans ((ext_below wr Y).mono (by have := hb.size; simp at this; omega))
                clear g1 g2 g3 g1' g2' g3' d2 d3 hk0
                go_wp2_with fail
                go_roundw
                case rel => exact ⟨k + 1, by omega, by go_num, HT.out, hb2⟩
                case measure => simp [intOf]; omega
              · rw [eqT_ff he] at hk0
                have hx := Lib.hid (eqT_ff (a := .list ks) (b := .list ks') (fun e => he (by
                  injection e with e
                  rw [e] at hu
                  exact Option.some.inj (hu.symm.trans hu'))))
                clear hu hu' he
                go_wp2_with fail
                refine wp_region_ext (X := wr) (by kernel_rfl) (by kernel_rfl) ?_
                repeat (go_big_quiet_step ((go_at_call 16; exact calls_ext (hk0 _))))
                refine wpQuiet_nil ?_
                intro _ hw'
                obtain ⟨Y, hw''⟩ := hw'
                subst hw''
                have hb2 := hbW.trans ((ext_below wr Y).mono hbW.size)
                clear g1 g2 g3 g1' g2' g3' d2 d3 hk0
                go_wp2_with fail
                go_ret
                exact ⟨ret_bool hx.out.symm, hb2⟩
            · obtain rfl : k = ks.length := by omega
              have hx := Lib.hid (eqT_tt (a := .list ks) (b := .list ks') (by
                have e := HTK.out
                rw [List.take_length, HL.out, List.take_length] at e
                rw [e]))
              go_wp2_with fail
              go_ret
              exact ⟨ret_bool hx.out.symm, hbW⟩
        · have hx := Lib.hid (eqT_ff (a := .list ks) (b := .list ks') (fun e => hl (by injection e with e; rw [e])))
          have k1 : ((ks.length : Int) == ks'.length) = false := by simp; omega
          have k2 : ((ks.length : Int) != ks'.length) = true := by simp; omega
          clear hl hc hc' hrk hrk'
          go_enter Tryz.func16, Tryz.ntmps16
          go_wp2_with fail
          go_ret
          exact ⟨ret_bool hx.out.symm, hX⟩
end Sx
end Go.Proofs.YtbhngjhfeejeiaaGreatDoor
