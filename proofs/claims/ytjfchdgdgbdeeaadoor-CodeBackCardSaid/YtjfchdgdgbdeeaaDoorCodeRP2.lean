/-
  Walk: the reference's Decode of a program, for every text. (printed by gen_RP.py)
-/
import Derived.Test.YtjfchdgdgbdeeaaDoorCodeRO
namespace Go.Proofs.YtjfchdgdgbdeeaaDoor
open Go.RowKit
namespace Cd

theorem lit1 (W : World) (x y z : Value) (t : TypeId) : ∀ j u, [x, y, z][j]? = some u → (W.alloc (.cells #[x, y, z] t)).cell? ((⟨W.heap.size, 0, none⟩ : Addr).add j) = some u :=
  World.news_of_block (heap_alloc_new W _)
theorem lit1s (W : World) (p : Addr) (q x y z : Value) (t : TypeId) : ∀ j u, [x, y, z][j]? = some u → ((W.setCell p q).alloc (.cells #[x, y, z] t)).cell? ((⟨W.heap.size, 0, none⟩ : Addr).add j) = some u := by
  have h := lit1 (W.setCell p q) x y z t
  rw [show (W.setCell p q).heap.size = W.heap.size by simp [World.setCell]] at h
  exact h
theorem size_al (W : World) (o : Obj) : (W.alloc o).heap.size = W.heap.size + 1 := by simp
theorem size_sc (W : World) (p : Addr) (v : Value) : (W.setCell p v).heap.size = W.heap.size := by simp [World.setCell]
theorem keep_cellX {X w : World} {n j : Nat} {v : Value} (hb : Below (n + 1) X w) (h : X.cell? ⟨n, j, none⟩ = some v) : w.cell? ⟨n, j, none⟩ = some v := (hb.cell (p := ⟨n, j, none⟩) (Nat.lt_succ_self n)).trans h
theorem own_step {wr w2 : World} {B k : Nat} {v : Value} {xs : List Value} (h : wr.ownsRow B 31 3 v k xs) (hb : Below wr.heap.size wr w2) (o : Obj) : (w2.alloc o).ownsRow B 31 3 v k xs :=
  (own_block h (fun g hg => hb.block g (h.lt g hg).2)).alloc o

set_option maxHeartbeats 8000000 in
set_option maxRecDepth 100000 in
theorem rdecode_any (s : ByteArray) (W : World) (hE : Env2 W) :
    Calls Tryd.prog 21 #[.string s] W fun e W' => DC W s.data.toList e W' := by
  have hcall := decoder_any s W
  cases hO : parse s.data.toList with
  | bad f =>
    rw [hO] at hcall
    have hD := Lib.hid (dec_bad hO)
    clear hO
    go_enter Tryd.func21, Tryd.ntmps21
    go_wp2_with fail
    refine hcall.mono ?_
    rintro e w1 ⟨⟨β, σ, sl, n, cap, f', rfl, rfl, hf0⟩, hb1⟩
    have j0 : (f' == 0) = false := by rw [beq_eq_false_iff_ne]; exact hf0
    have j1 : (f' != 0) = true := by rw [bne_iff_ne]; exact hf0
    have hB := hb1.alloc hb1.size (.cells #[.bool β, .string σ, .slice sl n cap] 46)
    clear hf0
    go_wp2_with fail
    go_ret2
    exact dc_nil hD.out rfl hB
  | ok t n0 =>
    rw [hO] at hcall
    obtain ⟨henc, hlen⟩ := parse_enc hO
    have hkl : kidsLe t := by unfold kidsLe; rw [henc]; exact hlen
    obtain ⟨hk1, hk2⟩ := kids_le hkl
    have HOK := Lib.hid hO
    have HKL := Lib.hid hkl
    clear hO henc hlen hkl
    obtain ⟨i0, hi0, hz0, hz1, hz2⟩ := info_parts info_ins
    go_enter Tryd.func21, Tryd.ntmps21
    go_wp2_with fail
    refine hcall.mono ?_
    rintro e w1 ⟨⟨β, σ, sl, n, cap, f', rfl, rfl, hrep⟩, hb1⟩
    have hrep1 := hrep.rep (B := w1.heap.size) (fun b hb => hb.2)
    obtain ⟨rfl, rfl, h', x, y, z, hc, hr⟩ := hrep1.kids
    have HC := Lib.hid hc
    have HR := Lib.hid hr
    have HRT := Lib.hid hrep1
    have HK2 := Lib.hid hk2
    obtain ⟨β, hβ⟩ : ∃ β, β = !isL t := ⟨_, rfl⟩
    have HBT := Lib.hid hβ
    rw [← hβ]
    have hA1 : Below w1.heap.size w1 (w1.alloc (.cells #[.bool β, .string σ, .slice sl (kids t).length cap] 46)) := (Below.refl _ _).alloc (Nat.le_refl _) _
    have HL0 := Lib.hid (⟨rfl, World.ownsRow_nil _ _ _ _, by simp, fun j u x y hu hx => by simp at hx, hA1⟩ : RL W w1 (w1.alloc (.cells #[.bool β, .string σ, .slice sl (kids t).length cap] 46)) t (.slice none 0 0) [] 0)
    have c00 : (w1.alloc (.cells #[.bool β, .string σ, .slice sl (kids t).length cap] 46)).cell? ⟨w1.heap.size, 0, none⟩ = some (.bool β) := by go_simp
    have c01 : (w1.alloc (.cells #[.bool β, .string σ, .slice sl (kids t).length cap] 46)).cell? ⟨w1.heap.size, 1, none⟩ = some (.string σ) := by go_simp
    have c02 : (w1.alloc (.cells #[.bool β, .string σ, .slice sl (kids t).length cap] 46)).cell? ⟨w1.heap.size, 2, none⟩ = some (.slice sl (kids t).length cap) := by go_simp
    have HQ := Lib.hid (show (w1.alloc (.cells #[.bool β, .string σ, .slice sl (kids t).length cap] 46)).cell? ⟨w1.heap.size, 0, none⟩ = some (.bool β) ∧ (w1.alloc (.cells #[.bool β, .string σ, .slice sl (kids t).length cap] 46)).cell? ⟨w1.heap.size, 1, none⟩ = some (.string σ) ∧ (w1.alloc (.cells #[.bool β, .string σ, .slice sl (kids t).length cap] 46)).cell? ⟨w1.heap.size, 2, none⟩ = some (.slice sl (kids t).length cap) from ⟨c00, c01, c02⟩)
    clear hcall hrep hrep1 hc hr hk2 hA1 hβ c00 c01 c02
    go_wp2_with fail
    go_loopw [6, 22] (fun kv i wr => ∃ (v : Value) (ps : List I) (k : Nat), v = kv ∧ i = .int .i64 k ∧ k ≤ (kids t).length ∧ k ≤ 257 ∧ RL W w1 wr t v ps k ∧ Below (w1.heap.size + 1) (w1.alloc (.cells #[.bool β, .string σ, .slice sl (kids t).length cap] 46)) wr) (fun _ i _ => (kids t).length - (intOf i).toNat)
    case atStart => exact ⟨_, [], 0, rfl, rfl, Nat.zero_le _, by omega, HL0.out, Below.refl _ _⟩
    case round =>
      obtain ⟨v, ps, k, rfl, rfl, hk, hk257, L, hbX⟩ := hrel
      have HL := Lib.hid L
      have hlw : w1.heap.size ≤ wr.heap.size := L.old.size
      have hlw1 : w1.heap.size < wr.heap.size := by have := hbX.size; simp at this; omega
      have hWr := hb1.trans (L.old.mono hb1.size)
      have hEr : Env2 wr := hE.below hWr
      have HBB := Lib.hid (show ∀ w2, Below wr.heap.size wr w2 → Below W.heap.size W w2 from fun w2 h => hWr.trans (h.mono hWr.size))
      obtain ⟨slv, capv, rfl⟩ := own_form L.own
      clear L hWr
      by_cases hlt : k < (kids t).length
      · obtain ⟨u, hu⟩ : ∃ u, (kids t)[k]? = some u := ⟨(kids t)[k], List.getElem?_eq_getElem hlt⟩
        obtain ⟨bb, o, rfl, hbl, h1, h2, h3⟩ := HC.out k u hu
        have hrk := HR.out k u hu
        obtain ⟨e1, e2, sl', cap', e3⟩ := hrk.vals
        rw [e1] at h1
        rw [e2] at h2
        rw [e3] at h3
        rw [e1, e2, e3] at hrk
        have g1 := ((bcell HL.out.old).1 bb _ hbl).trans h1
        have g2 := ((bcell HL.out.old).1 bb _ hbl).trans h2
        have g3 := ((bcell HL.out.old).1 bb _ hbl).trans h3
        have hA : Below wr.heap.size wr (wr.alloc (.cells #[.bool (!isL u), .string (txt u), .slice sl' (kids u).length cap'] 46)) := (Below.refl _ _).alloc (Nat.le_refl _) _
        have b2 : (wr.alloc (.cells #[.bool (!isL u), .string (txt u), .slice sl' (kids u).length cap'] 46)).cell? ⟨wr.heap.size, 2, none⟩ = some (.slice sl' (kids u).length cap') := by go_simp
        obtain ⟨-, -, h'', x', y', z', hc', hr'⟩ := hrk.kids
        have HU := Lib.hid hu
        have hkn := (kids_le (HK2.out k u hu)).1
        have HKN := Lib.hid (kids_le (HK2.out k u hu)).2
        have HC' := Lib.hid hc'
        have HR' := Lib.hid hr'
        have HIS := Lib.hid (fun y (hy : InsP u y) => ins_some hy)
        clear h1 h2 h3 e1 e2 e3 hrk hu hc' hr'
        by_cases gn : (kids u).length < 1
        · have hD := Lib.hid (dec_no HOK.out (fun p hp => by
            have ht := hp.tree
            subst ht
            have hu := HU.out
            rw [progT_kids, List.getElem?_map] at hu
            obtain ⟨y, hy', rfl⟩ := Option.map_eq_some_iff.1 hu
            have := HIS.out y (hp.ins y (List.mem_of_getElem? hy'))
            omega))
          have j1 : ((kids u).length : Int) < 1 := by omega
          go_wp2_with fail
          go_ret2
          exact dc_nil hD.out rfl (HBB.out _ hA)
        · have j1 : ¬ ((kids u).length : Int) < 1 := by omega
          by_cases g256 : 256 < k
          · have hD := Lib.hid (dec_no HOK.out (fun p hp => by
              have h1 := (check_len hp.chk).2
              have ht := hp.tree
              subst ht
              rw [progT_kids, List.length_map] at hlt
              omega))
            have j2 : (256 : Int) < k := by omega
            go_wp2_with fail
            go_ret2
            exact dc_nil hD.out rfl (HBB.out _ hA)
          · have j2 : ¬ (256 : Int) < k := by omega
            obtain ⟨k0, hk0⟩ : ∃ k0, (kids u)[0]? = some k0 := ⟨(kids u)[0]'(by omega), List.getElem?_eq_getElem _⟩
            obtain ⟨b0, o0, rfl, hbl0, -, hx0, -⟩ := HC'.out 0 k0 hk0
            obtain ⟨-, ey, -⟩ := (HR'.out 0 k0 hk0).vals
            rw [ey] at hx0
            simp only [Nat.zero_mul, Nat.add_zero] at hx0
            have t0 := ((bcell HL.out.old).1 b0 _ hbl0).trans hx0
            have t0A := ((bcell hA).1 b0 _ (by omega)).trans t0
            have HK0 := Lib.hid hk0
            clear ey hx0 hk0 t0
            go_wp2_with fail
            refine (opr_any (txt k0) _).mono ?_
            rintro e w2 ⟨rfl, hb2⟩
            have hBw2 := hA.trans (hb2.mono hA.size)
            have b22 := keep_cell hb2 b2
            have hN2 := NI.new w2 ⟨(opN (txt k0).data.toList : Int), 0, ⟨#[]⟩⟩
            have hA2 : Below w2.heap.size w2 (w2.alloc (.cells #[.int .i64 (opN (txt k0).data.toList : Int), .int .i64 0, .string ⟨#[]⟩] 31)) := (Below.refl _ _).alloc (Nat.le_refl _) _
            clear b2 t0A g1 g2 g3
            go_wp2_with fail
            refine (takesr_any _ _).mono ?_
            rintro e w3 ⟨rfl, hb3⟩
            have hN3 := hN2.keep hb3
            have b23 := keep_cell hb3 (keep_cell hA2 b22)
            have hAw3 := hA2.trans (hb3.mono hA2.size)
            have hBw3 := hBw2.trans (hAw3.mono hBw2.size)
            have l3 : wr.heap.size ≤ w2.heap.size := hBw2.size
            have hl1 : w1.heap.size + 1 ≤ w3.heap.size := Nat.le_trans hlw1 hBw3.size
            obtain ⟨n1, n2, n3, n4, nf⟩ := id hN3
            have HN3 := Lib.hid hN3
            clear hN2 hA2 b22 hBw2 hb2 hb3 hN3
            by_cases gl : (kids u).length = 1
            · have j3 : ¬ (1 : Int) < (kids u).length := by omega
              have hloose := fun y (hy : InsP u y) => loose1 hy gl HK0.out
              have HLO := Lib.hid hloose
              clear hloose gl gn
              have hBZ := hBw3
              go_wp2_with (first
                | (at_builtin; refine wpList_append_own _ rfl _ _ 22 rfl (w1.heap.size + 1) 31 i0 _ 3 32 Tryd.underlying22 hi0 hz0 hz1 hz2 rfl (by decide) (.slice slv k capv) k (rowI ps) rfl (own_step HL.out.own hBZ _) ⟨w3.heap.size, 0, none⟩ 1 1 [.int .i64 (opN (txt k0).data.toList : Int), .int .i64 0, .string ⟨#[]⟩] rfl rfl (lit1 _ _ _ _ _) (one3 ⟨rfl, rfl, rfl⟩) ?c3 ?c4 ?c5 ?_))
              case c3 => unfold maxLen; omega
              case c4 => omega
              case c5 => omega
              intro v' w9 hown9 hgr9 _
              have hAZ : Below w3.heap.size w3 (w3.alloc (.cells #[.int .i64 (opN (txt k0).data.toList : Int), .int .i64 0, .string ⟨#[]⟩] 31)) := (Below.refl _ _).alloc (Nat.le_refl _) _
              have hBZ2 := hBZ.trans (hAZ.mono hBZ.size)
              have HLN := Lib.hid (HL.out.snoc (x := ⟨(opN (txt k0).data.toList : Int), 0, ⟨#[]⟩⟩) HU.out (by unfold N64; simp) HLO.out hBZ2 hgr9 hown9)
              have HX9 := Lib.hid ((hbX.trans (hBZ2.mono hlw1)).grown hgr9 (Nat.le_trans hlw1 hBZ2.size) (fun g hg => (HL.out.own.lt g hg).1))
              clear hown9 hgr9 hAZ hBZ hBZ2
              go_wp2_with fail
              go_roundw
              case rel => exact ⟨v', _, k + 1, rfl, by go_num, by omega, by omega, HLN.out, HX9.out⟩
              case measure => simp [intOf]; omega
            · have j3 : (1 : Int) < (kids u).length := by omega
              obtain ⟨k1, hk1'⟩ : ∃ k1, (kids u)[1]? = some k1 := ⟨(kids u)[1]'(by omega), List.getElem?_eq_getElem _⟩
              obtain ⟨b1, o1, eb, hbl1, -, hx1, -⟩ := HC'.out 1 k1 hk1'
              obtain ⟨-, ey, -⟩ := (HR'.out 1 k1 hk1').vals
              rw [ey] at hx1
              cases eb
              have t1 : w1.cell? ⟨b0, o0 + 4, none⟩ = some (.string (txt k1)) := hx1
              have t1w := ((bcell hBw3).1 b0 _ (by omega)).trans (((bcell HL.out.old).1 b0 _ hbl0).trans t1)
              have HK1 := Lib.hid hk1'
              have hsz1 : (txt k1).size ≤ 65536 := by
                have h := HKN.out 1 k1 hk1'
                cases k1 with
                | list l => show 0 ≤ 65536; omega
                | leaf c =>
                  unfold kidsLe at h
                  have h' := Lib.size_eq c
                  simp only [enc, List.length_append, List.length_cons] at h
                  show c.size ≤ 65536
                  omega
              clear ey hx1 hk1' t1
              have HGL : 1 < (kids u).length := by omega
              by_cases gt : takes (opN (txt k0).data.toList : Int) = 2
              · have hloose := fun y (hy : InsP u y) => loose2t hy HGL HK0.out HK1.out gt
                have HLO := Lib.hid hloose
                rw [gt]
                clear hloose gl gn gt HGL
                have hBZ := hBw3.setCell (p := ⟨w2.heap.size, 2, none⟩) l3 (.string (txt k1))
                have hl1' : w1.heap.size + 1 ≤ (w3.setCell ⟨w2.heap.size, 2, none⟩ (.string (txt k1))).heap.size := by simp [World.setCell]; exact hl1
                go_wp2_with (first
                  | (at_builtin; refine wpList_append_own _ rfl _ _ 22 rfl (w1.heap.size + 1) 31 i0 _ 3 32 Tryd.underlying22 hi0 hz0 hz1 hz2 rfl (by decide) (.slice slv k capv) k (rowI ps) rfl (own_step HL.out.own hBZ _) ⟨w3.heap.size, 0, none⟩ 1 1 [.int .i64 (opN (txt k0).data.toList : Int), .int .i64 0, .string (txt k1)] rfl rfl (lit1s _ _ _ _ _ _ _) (one3 ⟨rfl, rfl, rfl⟩) ?c3 ?c4 ?c5 ?_))
                case c3 => unfold maxLen; omega
                case c4 => omega
                case c5 => rw [size_al, size_sc]; omega
                intro v' w9 hown9 hgr9 _
                have hAZ : Below (w3.setCell ⟨w2.heap.size, 2, none⟩ (.string (txt k1))).heap.size (w3.setCell ⟨w2.heap.size, 2, none⟩ (.string (txt k1))) ((w3.setCell ⟨w2.heap.size, 2, none⟩ (.string (txt k1))).alloc (.cells #[.int .i64 (opN (txt k0).data.toList : Int), .int .i64 0, .string (txt k1)] 31)) := (Below.refl _ _).alloc (Nat.le_refl _) _
                have hBZ2 := hBZ.trans (hAZ.mono hBZ.size)
                have HLN := Lib.hid (HL.out.snoc (x := ⟨(opN (txt k0).data.toList : Int), 0, txt k1⟩) HU.out (by unfold N64; simp) HLO.out hBZ2 hgr9 hown9)
                have HX9 := Lib.hid ((hbX.trans (hBZ2.mono hlw1)).grown hgr9 (Nat.le_trans hlw1 hBZ2.size) (fun g hg => (HL.out.own.lt g hg).1))
                clear hown9 hgr9 hAZ hBZ hBZ2
                go_wp2_with fail
                go_roundw
                case rel => exact ⟨v', _, k + 1, rfl, by go_num, by omega, by omega, HLN.out, HX9.out⟩
                case measure => simp [intOf]; omega
              · have jt : (takes (opN (txt k0).data.toList : Int) == 2) = false := by rw [beq_eq_false_iff_ne]; exact gt
                have hloose := fun y (hy : InsP u y) => loose2n hy HGL HK0.out HK1.out gt
                have HLO := Lib.hid hloose
                clear hloose gl gn gt HGL
                by_cases hat : ∃ n, Lib.atoiAll (txt k1).data.toList = .ok n
                · obtain ⟨nn, hat⟩ := hat
                  obtain ⟨nb1, nb2⟩ := Lib.atoiAll_bounds hat
                  have hA4 := atoi_ok (txt k1) (by omega) nn hat w3
                  have HLO2 := Lib.hid (show ∀ y, InsP u y → y = ⟨opN (txt k0).data.toList, nn, ⟨#[]⟩⟩ from fun y hy => by
                    obtain ⟨h1, h2⟩ := HLO.out y hy
                    rw [hat] at h1
                    injection h1 with h1
                    rw [h2, h1])
                  have HNB := Lib.hid (show N64 ⟨opN (txt k0).data.toList, nn, ⟨#[]⟩⟩ from ⟨nb1, nb2⟩)
                  clear hat nb1 nb2 HLO
                  go_wp2_with fail
                  refine hA4.mono ?_
                  rintro e w4 ⟨rfl, hb4⟩
                  obtain ⟨n1, n2, n3, n4, nf⟩ := HN3.out.keep hb4
                  have hBw4 := hBw3.trans (hb4.mono hBw3.size)
                  have hBZ := hBw4.setCell (p := ⟨w2.heap.size, 1, none⟩) l3 (.int .i64 nn)
                  have hl4 : w1.heap.size + 1 ≤ w4.heap.size := Nat.le_trans hl1 hb4.size
                  clear hA4
                  go_wp2_with (first
                    | (at_builtin; refine wpList_append_own _ rfl _ _ 22 rfl (w1.heap.size + 1) 31 i0 _ 3 32 Tryd.underlying22 hi0 hz0 hz1 hz2 rfl (by decide) (.slice slv k capv) k (rowI ps) rfl (own_step HL.out.own hBZ _) ⟨w4.heap.size, 0, none⟩ 1 1 [.int .i64 (opN (txt k0).data.toList : Int), .int .i64 nn, .string ⟨#[]⟩] rfl rfl (lit1s _ _ _ _ _ _ _) (one3 ⟨rfl, rfl, rfl⟩) ?c3 ?c4 ?c5 ?_))
                  case c3 => unfold maxLen; omega
                  case c4 => omega
                  case c5 => rw [size_al, size_sc]; omega
                  intro v' w9 hown9 hgr9 _
                  have hAZ : Below (w4.setCell ⟨w2.heap.size, 1, none⟩ (.int .i64 nn)).heap.size (w4.setCell ⟨w2.heap.size, 1, none⟩ (.int .i64 nn)) ((w4.setCell ⟨w2.heap.size, 1, none⟩ (.int .i64 nn)).alloc (.cells #[.int .i64 (opN (txt k0).data.toList : Int), .int .i64 nn, .string ⟨#[]⟩] 31)) := (Below.refl _ _).alloc (Nat.le_refl _) _
                  have hBZ2 := hBZ.trans (hAZ.mono hBZ.size)
                  have HLN := Lib.hid (HL.out.snoc (x := ⟨(opN (txt k0).data.toList : Int), nn, ⟨#[]⟩⟩) HU.out HNB.out HLO2.out hBZ2 hgr9 hown9)
                  have HX9 := Lib.hid ((hbX.trans (hBZ2.mono hlw1)).grown hgr9 (Nat.le_trans hlw1 hBZ2.size) (fun g hg => (HL.out.own.lt g hg).1))
                  clear hown9 hgr9 hAZ hBZ hBZ2
                  go_wp2_with fail
                  go_roundw
                  case rel => exact ⟨v', _, k + 1, rfl, by go_num, by omega, by omega, HLN.out, HX9.out⟩
                  case measure => simp [intOf]; omega
                · have hbad : ∀ v, Lib.atoiAll (txt k1).data.toList ≠ .ok v := fun v hv => hat ⟨v, hv⟩
                  have hA4 := atoi_bad (txt k1) (by omega) hbad w3 (hEr.below hBw3)
                  have HLB := Lib.hid (show ∀ y, ¬ InsP u y from fun y hy => hbad _ (HLO.out y hy).1)
                  clear hat hbad HLO
                  go_wp2_with fail
                  refine hA4.mono ?_
                  rintro e w4 ⟨nn, Nn, rfl, nb1, nb2, hb4⟩
                  have HLO2 := Lib.hid (show ∀ y, InsP u y → y = ⟨opN (txt k0).data.toList, nn, ⟨#[]⟩⟩ from fun y hy => absurd hy (HLB.out y))
                  have HNB := Lib.hid (show N64 ⟨opN (txt k0).data.toList, nn, ⟨#[]⟩⟩ from ⟨nb1, nb2⟩)
                  clear nb1 nb2 HLB
                  obtain ⟨n1, n2, n3, n4, nf⟩ := HN3.out.keep hb4
                  have hBw4 := hBw3.trans (hb4.mono hBw3.size)
                  have hBZ := hBw4.setCell (p := ⟨w2.heap.size, 1, none⟩) l3 (.int .i64 nn)
                  have hl4 : w1.heap.size + 1 ≤ w4.heap.size := Nat.le_trans hl1 hb4.size
                  clear hA4
                  go_wp2_with (first
                    | (at_builtin; refine wpList_append_own _ rfl _ _ 22 rfl (w1.heap.size + 1) 31 i0 _ 3 32 Tryd.underlying22 hi0 hz0 hz1 hz2 rfl (by decide) (.slice slv k capv) k (rowI ps) rfl (own_step HL.out.own hBZ _) ⟨w4.heap.size, 0, none⟩ 1 1 [.int .i64 (opN (txt k0).data.toList : Int), .int .i64 nn, .string ⟨#[]⟩] rfl rfl (lit1s _ _ _ _ _ _ _) (one3 ⟨rfl, rfl, rfl⟩) ?c3 ?c4 ?c5 ?_))
                  case c3 => unfold maxLen; omega
                  case c4 => omega
                  case c5 => rw [size_al, size_sc]; omega
                  intro v' w9 hown9 hgr9 _
                  have hAZ : Below (w4.setCell ⟨w2.heap.size, 1, none⟩ (.int .i64 nn)).heap.size (w4.setCell ⟨w2.heap.size, 1, none⟩ (.int .i64 nn)) ((w4.setCell ⟨w2.heap.size, 1, none⟩ (.int .i64 nn)).alloc (.cells #[.int .i64 (opN (txt k0).data.toList : Int), .int .i64 nn, .string ⟨#[]⟩] 31)) := (Below.refl _ _).alloc (Nat.le_refl _) _
                  have hBZ2 := hBZ.trans (hAZ.mono hBZ.size)
                  have HLN := Lib.hid (HL.out.snoc (x := ⟨(opN (txt k0).data.toList : Int), nn, ⟨#[]⟩⟩) HU.out HNB.out HLO2.out hBZ2 hgr9 hown9)
                  have HX9 := Lib.hid ((hbX.trans (hBZ2.mono hlw1)).grown hgr9 (Nat.le_trans hlw1 hBZ2.size) (fun g hg => (HL.out.own.lt g hg).1))
                  clear hown9 hgr9 hAZ hBZ hBZ2
                  go_wp2_with fail
                  go_roundw
                  case rel => exact ⟨v', _, k + 1, rfl, by go_num, by omega, by omega, HLN.out, HX9.out⟩
                  case measure => simp [intOf]; omega
      · obtain rfl : k = (kids t).length := by omega
        have hlenp := HL.out.len
        have hown := HL.out.own
        have HOW := Lib.hid hown
        rw [← hlenp] at hown
        have hPS := PS.of_own hown (by omega) HL.out.nb
        have hck := checkr_any ps _ wr hPS
        unfold CKV at hck
        rw [hlenp] at hck hPS
        have HLP := Lib.hid hlenp
        have c00 := keep_cellX hbX HQ.out.1
        have c01 := keep_cellX hbX HQ.out.2.1
        have c02 := keep_cellX hbX HQ.out.2.2
        clear hown hlenp
        by_cases hc0 : (check ps).2 = 0
        · obtain ⟨hp0, hp1⟩ := check_len hc0
          have HC0 := Lib.hid hc0
          rw [hc0] at hck
          clear hc0
          go_wp2_with fail
          refine hck.mono ?_
          rintro e w5 ⟨rfl, hb5⟩
          have hE5 := hEr.below hb5
          have hPS5 := hPS.below hb5
          have hl5 : w1.heap.size ≤ w5.heap.size := Nat.le_trans hlw hb5.size
          have d00 := ext_cell (keep_cell hb5 c00)
          have d01 := ext_cell (keep_cell hb5 c01)
          have d02 := ext_cell (keep_cell hb5 c02)
          have c00' := keep_cell hb5 c00
          have c01' := keep_cell hb5 c01
          have c02' := keep_cell hb5 c02
          clear hck c00 c01 c02
          have HRN : ∀ wn un, Below w5.heap.size w5 wn → Rep wn wn.heap.size 2 (progT ps) un → Calls Tryd.prog 38 #[.agg #[.bool β, .string σ, .slice sl (kids t).length cap], un] wn fun e w' => e = .returned (.bool (eqT t (progT ps))) ∧ Below wn.heap.size wn w' := fun wn un h1 h2 => by
            refine samer_any wn.heap.size 32 wn 2 t (progT ps) _ un (Nat.le_refl _) HKL.out ?_ h2
            rw [HBT.out]
            refine (HRT.out.same (fun b o hb => ?_)).lift (Nat.le_trans hl5 h1.size)
            rw [h1.cell (p := ⟨b, o, none⟩) (by show b < _; omega), hb5.cell (p := ⟨b, o, none⟩) (by show b < _; omega)]
            exact HL.out.old.cell (p := ⟨b, o, none⟩) hb
          by_cases heq : t = progT ps
          · have hIs : IsP t ps := ⟨heq.symm, HC0.out, HL.out.nb⟩
            have hD := Lib.hid (dec_ok HOK.out hIs)
            rw [eqT_tt heq] at HRN
            have HSM := Lib.hid HRN
            clear HRN heq hIs
            go_wp2_with fail
            go_region_with (first
              | (go_at_call 31; refine (node8_any ps _ _ (hPS5.below (by first | exact Below.refl _ _ | exact below_drewN (Below.refl _ _) _)) (hE5.env.below (by first | exact Below.refl _ _ | exact below_drewN (Below.refl _ _) _)) hp0 hp1).mono ?_; rintro e wn ⟨un, rfl, hrepn, hbn⟩; have hbn2 : Below w5.heap.size w5 wn := ⟨hbn.os, hbn.tape, hbn.output, hbn.size, hbn.block⟩; have m0 := keep_cell hbn2 c00'; have m1 := keep_cell hbn2 c01'; have m2 := keep_cell hbn2 c02')
              | (go_at_call 38; refine (HSM.out _ _ hbn2 hrepn).mono ?_; rintro e w6 ⟨rfl, hb6⟩))
            all_goals
              have hB6 := HBB.out _ (hb5.trans ((hbn2.trans (hb6.mono hbn2.size)).mono hb5.size))
              have hb56 := hb5.trans ((hbn2.trans (hb6.mono hbn2.size)).mono hb5.size)
              clear hrepn hbn hbn2 hb6 m0 m1 m2 hE5 hPS5 c00' c01' c02' d00 d01 d02
              go_wp2_with fail
              go_ret2
              unfold DC
              rw [hD.out]
              refine ⟨⟨slv, capv, ?_, ?_, hp1, HL.out.nb⟩, hB6⟩
              · show _ = Ending.returned (.tuple #[.slice slv ps.length capv, .int .i64 0])
                rw [HLP.out]
                rfl
              · rw [HLP.out]
                exact own_mono (Nat.le_succ_of_le hb1.size) (own_block HOW.out (fun g hg => hb56.block g (HOW.out.lt g hg).2))
          · have hD := Lib.hid (dec_no HOK.out (fun p hp => heq (by rw [HL.out.all hp]; exact hp.tree.symm)))
            rw [eqT_ff heq] at HRN
            have HSM := Lib.hid HRN
            clear HRN heq
            go_wp2_with fail
            go_region_with (first
              | (go_at_call 31; refine (node8_any ps _ _ (hPS5.below (by first | exact Below.refl _ _ | exact below_drewN (Below.refl _ _) _)) (hE5.env.below (by first | exact Below.refl _ _ | exact below_drewN (Below.refl _ _) _)) hp0 hp1).mono ?_; rintro e wn ⟨un, rfl, hrepn, hbn⟩; have hbn2 : Below w5.heap.size w5 wn := ⟨hbn.os, hbn.tape, hbn.output, hbn.size, hbn.block⟩; have m0 := keep_cell hbn2 c00'; have m1 := keep_cell hbn2 c01'; have m2 := keep_cell hbn2 c02')
              | (go_at_call 38; refine (HSM.out _ _ hbn2 hrepn).mono ?_; rintro e w6 ⟨rfl, hb6⟩))
            all_goals
              have hB6 := HBB.out _ (hb5.trans ((hbn2.trans (hb6.mono hbn2.size)).mono hb5.size))
              have hb56 := hb5.trans ((hbn2.trans (hb6.mono hbn2.size)).mono hb5.size)
              clear hrepn hbn hbn2 hb6 m0 m1 m2 hE5 hPS5 c00' c01' c02' d00 d01 d02
              go_wp2_with fail
              go_ret2
              exact dc_nil hD.out rfl hB6
        · have hD := Lib.hid (dec_no HOK.out (fun p hp => hc0 (by rw [HL.out.all hp]; exact hp.chk)))
          have j1 : ((check ps).2 == 0) = false := by rw [beq_eq_false_iff_ne]; exact hc0
          have j2 : ((check ps).2 != 0) = true := by rw [bne_iff_ne]; exact hc0
          clear hc0
          go_wp2_with fail
          refine hck.mono ?_
          rintro e w5 ⟨rfl, hb5⟩
          clear hck
          go_wp2_with fail
          go_quiet (fail)
          go_wp2_with fail
          go_ret2
          exact dc_nil hD.out rfl (below_drewN (HBB.out _ hb5) _)
end Cd
end Go.Proofs.YtjfchdgdgbdeeaaDoor
