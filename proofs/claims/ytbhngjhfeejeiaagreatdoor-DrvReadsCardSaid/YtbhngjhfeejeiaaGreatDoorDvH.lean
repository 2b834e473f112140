/-
  Walk: drv.atoms.
-/
import Derived.Test.YtbhngjhfeejeiaaGreatDoorDvT
import Derived.Test.YtbhngjhfeejeiaaGreatDoorSxRC
namespace Go.Proofs.YtbhngjhfeejeiaaGreatDoor
open Go.RowKit Sx
namespace Dv

theorem info_str : (Tryz.prog.info? 9).map (fun i => (i.zero, i.size, i.bytes)) = some (some (.string ⟨#[]⟩), 1, 16) := by kernel_rfl
theorem strs_snoc {ks : List T} {k : Nat} {u : T} (hu : ks[k]? = some u) : List.take k (List.map (fun t => Value.string (txt t)) ks) ++ [.string (txt u)] = List.take (k + 1) (List.map (fun t => Value.string (txt t)) ks) := by
  rw [List.take_add_one, List.getElem?_map, hu]
  simp
set_option maxHeartbeats 1000000 in
theorem atoms_any (ks : List T) (sl : Option Addr) (cap : Nat) (x y z : Nat → Value) (B h : Nat) (n : Int) (w : World) (hB : B ≤ w.heap.size) (hk : ks.length ≤ 65536)
    (hc : ∀ i k, ks[i]? = some k → ∃ b o, sl = some ⟨b, o, none⟩ ∧ b < B ∧ w.cell? ⟨b, o + i * 3, none⟩ = some (x i) ∧ w.cell? ⟨b, o + i * 3 + 1, none⟩ = some (y i) ∧ w.cell? ⟨b, o + i * 3 + 2, none⟩ = some (z i))
    (hr : ∀ i k, ks[i]? = some k → Rep w B h k (.agg #[x i, y i, z i])) :
    Calls Tryz.prog 10 #[.slice sl ks.length cap, .int .i64 n] w fun e w' => ∃ o, e = .returned (.tuple #[o, .bool (decide ((ks.length : Int) = n) && !decide (0 ≤ fL ks))]) ∧ w'.ownsRow w.heap.size 9 1 o ks.length (ks.map fun t => .string (txt t)) ∧ Below w.heap.size w w' := by
  obtain ⟨i0, hi0, hz0, hz1, hz2⟩ := info_parts info_str
  have HC := Lib.hid hc
  have HR := Lib.hid hr
  clear hc hr
  go_enter Tryz.func10, Tryz.ntmps10
  go_wp2_with fail
  go_loopw [6, 8, 11] (fun v _ i wr => ∃ k : Nat, k ≤ ks.length ∧ i = .int .i64 k ∧ wr.ownsRow w.heap.size 9 1 v k (List.take k (List.map (fun t => .string (txt t)) ks)) ∧ Below w.heap.size w wr) (fun _ _ i _ => ks.length - (intOf i).toNat)
  case atStart => exact ⟨0, Nat.zero_le _, rfl, World.ownsRow_nil _ _ _ _, Below.refl _ _⟩
  case round =>
    obtain ⟨k, hk', rfl, hown, hb⟩ := hrel
    by_cases hlt : k < ks.length
    · obtain ⟨u, hu⟩ : ∃ u, ks[k]? = some u := ⟨ks[k], List.getElem?_eq_getElem hlt⟩
      obtain ⟨b, a, rfl, hbl, h1, h2, h3⟩ := HC.out k u hu
      have hrk := HR.out k u hu
      obtain ⟨e1, e2, sl', cap', e3⟩ := hrk.vals
      rw [e1] at h1
      rw [e2] at h2
      rw [e3] at h3
      have hlb : b < w.heap.size := by omega
      have g1 := ((bcell hb).1 b _ hlb).trans h1
      have g2 := ((bcell hb).1 b _ hlb).trans h2
      have g3 := ((bcell hb).1 b _ hlb).trans h3
      have HU := Lib.hid hu
      have HO := Lib.hid hown
      have hbs := hb.size
      clear h1 h2 h3 e1 e2 e3 hrk hu hown
      go_wp2_with (first
        | (at_builtin; refine wpList_append_own _ rfl _ _ 42 rfl w.heap.size 9 i0 _ 1 16 Tryz.underlying42 hi0 hz0 hz1 hz2 rfl (by decide) _ k _ rfl ((HO.out.alloc _).alloc _) ⟨wr.heap.size + 1, 0, none⟩ 1 1 [.string (txt u)] rfl rfl ?d1 ?d2 ?d3 ?d4 ?d5 ?_))
      case d1 =>
        intro j q hj
        match j, hj with
        | 0, hj => simp at hj; subst hj; simp [Addr.add]
      case d2 => intro q hq; simp at hq; subst hq; rfl
      case d3 => unfold maxLen; omega
      case d4 => omega
      case d5 => simp; omega
      intro v' w9 hown9 hg9 _
      rw [strs_snoc HU.out] at hown9
      have hB2 : Below w.heap.size w ((wr.alloc (.cells #[.bool (!isL u), .string (txt u), .slice sl' (kidsT u).length cap'] 39)).alloc (.cells #[.string (txt u)] 9)) := (hb.alloc hb.size _).alloc (by simp; omega) _
      have hBn : Below w.heap.size w w9 := hB2.grown hg9 hB2.size (fun g hg => (HO.out.lt g hg).1)
      clear hg9 hB2
      go_wp2
      go_roundw
      case rel => exact ⟨k + 1, by omega, by go_num, hown9, hBn⟩
      case measure => simp [intOf]; omega
    · obtain rfl : k = ks.length := by omega
      rw [List.take_of_length_le (by simp)] at hown
      have hcl := containsl_any ks sl cap x y z B h wr (Nat.le_trans hB hb.size) hk
        (fun i k hk => by
          obtain ⟨b, o, e, hb', h1, h2, h3⟩ := HC.out i k hk
          exact ⟨b, o, e, hb', ((bcell hb).1 b _ (by omega)).trans h1, ((bcell hb).1 b _ (by omega)).trans h2, ((bcell hb).1 b _ (by omega)).trans h3⟩) (fun i k hk => (HR.out i k hk).same (fun b o hb' => (bcell hb).1 b _ (by omega)))
      have HO := Lib.hid hown
      clear hown
      by_cases hn : (ks.length : Int) = n
      · have t1 : decide ((ks.length : Int) = n) = true := decide_eq_true hn
        have t2 : ((ks.length : Int) == n) = true := by rw [beq_iff_eq]; exact hn
        have HT := Lib.hid t1
        clear hn t1
        obtain ⟨q, hq⟩ : ∃ q, q = decide (0 ≤ fL ks) := ⟨_, rfl⟩
        have HQ := Lib.hid hq
        rw [← hq] at hcl
        clear hq
        go_wp2_with fail
        refine hcl.mono ?_
        rintro e w2 ⟨rfl, hb2⟩
        clear hcl
        go_wp2_with fail
        go_ret2
        refine ⟨_, ?_, own_block HO.out (fun g hg => hb2.block g (HO.out.lt g hg).2), hb.trans (hb2.mono hb.size)⟩
        rw [HT.out, ← HQ.out]
        clear HQ
        cases q <;> rfl
      · have t1 : decide ((ks.length : Int) = n) = false := decide_eq_false hn
        have t2 : ((ks.length : Int) == n) = false := by rw [beq_eq_false_iff_ne]; exact hn
        have HT := Lib.hid t1
        clear hn t1 hcl
        go_wp2_with fail
        go_ret2
        refine ⟨_, ?_, HO.out, hb⟩
        rw [HT.out]
        rfl
end Dv
end Go.Proofs.YtbhngjhfeejeiaaGreatDoor
