/-
  Small lemmas for the walks of the machine's texts; what stands between quotes, byte by byte.
-/
import Derived.Test.YtipcockcndnipaaDoorMNmP
import Derived.Test.YtipcockcndnipaaDoorShelf
import Derived.Test.YtipcockcndnipaaDoorSxExt
import Derived.Test.YtipcockcndnipaaDoorMix
import Derived.Lib.AppendStr
import Derived.Laws.AppendOwn
import Derived.Deep.AppendLies
import Derived.Laws.IdiomStrings
import Derived.Laws.BitsAllLaws
import Derived.Outline
namespace Go.Proofs.YtipcockcndnipaaDoor
open Go.RowKit
namespace Aw
open As

def u8s (l : List UInt8) : List Value := l.map fun b => Value.int .u8 (b.toNat : Int)
theorem u8s_app (a b : List UInt8) : u8s (a ++ b) = u8s a ++ u8s b := List.map_append
theorem info_u8 : (Tryd.prog.info? 5).map (fun i => (i.zero, i.size, i.bytes)) = some (some (.int .u8 0), 1, 1) := by kernel_rfl
theorem own_block {w w' : World} {B e size n : Nat} {v : Value} {xs : List Value} (h : w.ownsRow B e size v n xs) (hb : ∀ k, v.ownBlock = some k → w'.heap[k]? = w.heap[k]?) : w'.ownsRow B e size v n xs := by
  refine ⟨h.1, ?_⟩
  rcases h.2 with hn | ⟨g, cap, cur, rfl, hg, hgg, rest⟩
  · exact .inl hn
  · exact .inr ⟨g, cap, cur, rfl, hg, by rw [hb g rfl]; exact hgg, rest⟩
theorem own_form {W : World} {B e size n : Nat} {v : Value} {xs : List Value} (h : W.ownsRow B e size v n xs) : ∃ sl cap, v = .slice sl n cap := by
  rcases h.2 with ⟨rfl, rfl⟩ | ⟨g, cap, cur, rfl, hg, hgg, rest⟩
  · exact ⟨_, _, rfl⟩
  · exact ⟨_, _, rfl⟩
theorem own_mono {W : World} {B B' e size n : Nat} {v : Value} {xs : List Value} (hB : B ≤ B') (h : W.ownsRow B' e size v n xs) : W.ownsRow B e size v n xs := by
  refine ⟨h.1, ?_⟩
  rcases h.2 with hn | ⟨g, cap, cur, rfl, hg, rest⟩
  · exact .inl hn
  · exact .inr ⟨g, cap, cur, rfl, Nat.le_trans hB hg, rest⟩
theorem u8_snoc (acc : List UInt8) (c : UInt8) : u8s acc ++ [.int .u8 (c.toNat : Int)] = u8s (acc ++ [c]) := by simp [u8s]
theorem conv_any {W : World} {B : Nat} {v : Value} {l : List UInt8} (h : W.ownsRow B 5 1 v l.length (u8s l)) : (convert 35 9 v).run Tryd.prog W = .ok (.string ⟨l.toArray⟩) W := by
  by_cases hl : 0 < l.length
  · obtain ⟨g, cap, rfl, _, _⟩ := h.form hl
    refine run_convert_bytes_back W 35 9 5 ⟨g, 0, none⟩ cap l Tryd.underlying35 Tryd.underlying5 Tryd.underlying9 (fun j hj => ?_)
    refine h.cells (g := g) rfl j _ ?_
    simp [u8s, List.getElem?_eq_getElem hj]
  · have h0 : l = [] := List.length_eq_zero_iff.1 (by omega)
    subst h0
    rcases h.2 with ⟨rfl, -⟩ | ⟨g, cap, cur, rfl, -⟩
    · rw [run_convert_bytes_string W 35 9 5 none 0 0 Tryd.underlying35 Tryd.underlying5 Tryd.underlying9]
      rfl
    · exact run_convert_bytes_back W 35 9 5 ⟨g, 0, none⟩ cap [] Tryd.underlying35 Tryd.underlying5 Tryd.underlying9 (fun j hj => by simp at hj)
def hexD : ByteArray := ⟨#[48, 49, 50, 51, 52, 53, 54, 55, 56, 57, 97, 98, 99, 100, 101, 102]⟩
def hx (c : UInt8) : Int := if hexv c = 16 then -1 else (hexv c : Int)
theorem hx_all : ∀ n : Fin 256, Lib.indexByte hexD.data.toList (UInt8.ofNat n.1) = hx (UInt8.ofNat n.1) := by decide +kernel
theorem hx_eq (c : UInt8) : Lib.indexByte hexD.data.toList c = hx c := by
  have h := hx_all ⟨c.toNat, c.toNat_lt⟩
  simpa using h
theorem hexv_le (c : UInt8) : hexv c ≤ 16 := by unfold hexv; split <;> (try split) <;> omega
theorem hexi_any (c : UInt8) (w : World) : Calls Tryd.prog 67 #[.string ⟨#[48, 49, 50, 51, 52, 53, 54, 55, 56, 57, 97, 98, 99, 100, 101, 102]⟩, .int .u8 (c.toNat : Int)] w fun e w' => e = .returned (.int .i64 (hx c)) ∧ w' = w := by
  refine (Tryd.strings_IndexByte hexD (c.toNat : Int) w).mono ?_
  rintro e w' ⟨rfl, rfl⟩
  have e1 : ((c.toNat : Int)).toNat.toUInt8 = c := by simp
  rw [e1, hx_eq]
  exact ⟨rfl, rfl⟩
theorem or_hex : ∀ a b : Fin 16, bits BinOp.or IntKind.i64 ((a.val : Int) * 16) (b.val : Int) % 256 = ((16 * a.val + b.val : Nat) : Int) := by decide +kernel
theorem or_hexv {a b : Nat} (ha : a ≤ 15) (hb : b ≤ 15) : bits BinOp.or IntKind.i64 ((a : Int) * 16) (b : Int) % 256 = ((UInt8.ofNat (16 * a + b)).toNat : Int) := by
  rw [UInt8.toNat_ofNat_of_lt' (by show 16 * a + b < 256; omega)]
  exact or_hex ⟨a, by omega⟩ ⟨b, by omega⟩
theorem drop_at {s : ByteArray} {m : Nat} (h : m < s.size) : s.data.toList.drop m = s[m] :: s.data.toList.drop (m + 1) := by
  have hz := Lib.size_eq s
  rw [List.drop_eq_getElem_cons (by omega)]
  rfl
theorem drop_end {s : ByteArray} {m : Nat} (h : s.size ≤ m) : s.data.toList.drop m = [] := by
  have hz := Lib.size_eq s
  exact List.drop_of_length_le (by omega)
theorem u8_eq {c : UInt8} {n : Nat} (h : c.toNat = n) (hn : n < 256) : c = UInt8.ofNat n := by
  apply UInt8.toNat_inj.1
  rw [h, UInt8.toNat_ofNat_of_lt' (by exact hn)]
theorem quiet_at {P : Program} {f : FuncId} {args : Array Value} {v : Value} (h : ∀ w, Calls P f args w fun e w' => e = .returned v ∧ w' = w) (w : World) (a : Nat) : Calls P f args (w.drewN a) fun e w'' => e = .returned v ∧ ∃ n, w'' = w.drewN n :=
  (h _).mono fun _ _ ⟨he, hw⟩ => ⟨he, a, hw⟩

/-- the reading so far: acc was read, m bytes are gone -/
def QJ (t : ByteArray) (m : Nat) (acc : List UInt8) : Prop := ∃ f, (t.data.toList.drop m).length < f ∧ unqL t.data.toList = (unqF f (t.data.toList.drop m)).map (acc ++ ·)
theorem QJ.start (t : ByteArray) : QJ t 0 [] := ⟨_, Nat.lt_succ_self _, by simp [unqL, Option.map_id']⟩
theorem QJ.stop {t : ByteArray} {m : Nat} {acc : List UInt8} (h : QJ t m acc) (hm : t.size ≤ m) : unqL t.data.toList = some acc := by
  obtain ⟨f, hf, h⟩ := h
  rw [drop_end hm] at h hf
  obtain ⟨f, rfl⟩ : ∃ g, f = g + 1 := ⟨f - 1, by simp at hf; omega⟩
  rw [h]
  simp [unqF]
theorem QJ.bad {t : ByteArray} {m : Nat} {acc : List UInt8} (h : QJ t m acc) (hb : ∀ f, unqF f (t.data.toList.drop m) = none) : unqL t.data.toList = none := by
  obtain ⟨f, hf, h⟩ := h
  rw [h, hb]
  rfl
theorem bad_ctl {t : ByteArray} {m : Nat} (h : m < t.size) (hc : t[m].toNat < 32 ∨ 126 < t[m].toNat ∨ t[m] = 34) : ∀ f, unqF f (t.data.toList.drop m) = none := fun f => by
  cases f with
  | zero => rfl
  | succ f => rw [drop_at h, unqF.eq_def]; dsimp only; rw [if_pos hc]
theorem not_ctl : ¬ ((92 : UInt8).toNat < 32 ∨ 126 < (92 : UInt8).toNat ∨ (92 : UInt8) = 34) := by decide
theorem bad_hex {t : ByteArray} {m : Nat} (h : m < t.size) (hc : t[m] = 92) (hb : t.size ≤ m + 2 ∨ ∃ (h2 : m + 2 < t.size), hexv t[m + 1] = 16 ∨ hexv t[m + 2] = 16) : ∀ f, unqF f (t.data.toList.drop m) = none := fun f => by
  cases f with
  | zero => rfl
  | succ f =>
    rw [drop_at h, hc, unqF.eq_def]
    dsimp only
    rw [if_neg not_ctl, if_pos rfl]
    rcases hb with hb | ⟨h2, hb⟩
    · by_cases h1 : m + 1 < t.size
      · rw [drop_at h1, drop_end (m := m + 1 + 1) (by omega)]
      · rw [drop_end (m := m + 1) (by omega)]
    · rw [drop_at (m := m + 1) (by omega), drop_at (m := m + 1 + 1) (by omega)]
      dsimp only
      rw [if_pos hb]
theorem QJ.plain {t : ByteArray} {m : Nat} {acc : List UInt8} (h : QJ t m acc) (hm : m < t.size) (h1 : ¬ (t[m].toNat < 32 ∨ 126 < t[m].toNat ∨ t[m] = 34)) (h3 : t[m] ≠ 92) : QJ t (m + 1) (acc ++ [t[m]]) := by
  obtain ⟨f, hf, h⟩ := h
  rw [drop_at hm] at h hf
  obtain ⟨f, rfl⟩ : ∃ g, f = g + 1 := ⟨f - 1, by simp at hf; omega⟩
  refine ⟨f, by simp only [List.length_cons] at hf; omega, ?_⟩
  rw [h, unqF.eq_def]
  dsimp only
  rw [if_neg h1, if_neg h3, Option.map_map]
  congr 1
  funext x
  simp
theorem QJ.hex {t : ByteArray} {m : Nat} {acc : List UInt8} (h : QJ t m acc) (h2 : m + 2 < t.size) (hc : t[m] = 92) (ha : hexv t[m + 1] ≠ 16) (hb : hexv t[m + 2] ≠ 16) : QJ t (m + 3) (acc ++ [UInt8.ofNat (16 * hexv t[m + 1] + hexv t[m + 2])]) := by
  obtain ⟨f, hf, h⟩ := h
  rw [drop_at (m := m) (by omega), drop_at (m := m + 1) (by omega), drop_at (m := m + 1 + 1) (by omega)] at h hf
  obtain ⟨f, rfl⟩ : ∃ g, f = g + 1 := ⟨f - 1, by simp at hf; omega⟩
  refine ⟨f, (by simp only [List.length_cons] at hf; show (t.data.toList.drop (m + 1 + 1 + 1)).length < f; omega), ?_⟩
  rw [h, hc, unqF.eq_def]
  dsimp only
  rw [if_neg not_ctl, if_pos rfl, if_neg (by simp [ha, hb]), Option.map_map]
  congr 1
  funext x
  simp
/-- what unquoted answers -/
def UV : Option (List UInt8) → Value
  | some l => .tuple #[.string ⟨l.toArray⟩, .bool true]
  | none => .tuple #[.string ⟨#[]⟩, .bool false]
theorem unq_short {s : ByteArray} (h : s.size < 2) : unq s.data.toList = none := by
  unfold unq
  rw [if_pos (.inl (by rw [← Lib.size_eq]; exact h))]
theorem unq_head {s : ByteArray} (h : 2 ≤ s.size) (hc : s[0] ≠ 34) : unq s.data.toList = none := by
  have hz := Lib.size_eq s
  have hh : s.data.toList.head? ≠ some 34 := by
    rw [List.head?_eq_getElem?, List.getElem?_eq_getElem (by omega)]
    exact fun e => hc (Option.some.inj e)
  unfold unq
  rw [if_pos (.inr (.inl hh))]
theorem last_at {s : ByteArray} (h : 2 ≤ s.size) : s.data.toList.getLast? = some s[s.size - 1] := by
  have hz := Lib.size_eq s
  rw [List.getLast?_eq_getElem?, List.getElem?_eq_getElem (by omega)]
  congr 1
theorem unq_last {s : ByteArray} (h : 2 ≤ s.size) (hc : s[s.size - 1] ≠ 34) : unq s.data.toList = none := by
  have hh : s.data.toList.getLast? ≠ some 34 := by
    rw [last_at h]
    exact fun e => hc (Option.some.inj e)
  unfold unq
  rw [if_pos (.inr (.inr hh))]
theorem unq_in {s : ByteArray} (h : 2 ≤ s.size) (h0 : s[0] = 34) (h1 : s[s.size - 1] = 34) : unq s.data.toList = unqL (s.extract 1 (s.size - 1)).data.toList := by
  have hz := Lib.size_eq s
  unfold unq
  rw [if_neg]
  · congr 1
    rw [ByteArray.data_extract, Array.toList_extract, List.dropLast_eq_take, List.length_drop, hz]
  · rintro (g | g | g)
    · omega
    · rw [List.head?_eq_getElem?, List.getElem?_eq_getElem (by omega)] at g
      exact g (congrArg some h0)
    · rw [last_at h, h1] at g
      exact g rfl
end Aw
end Go.Proofs.YtipcockcndnipaaDoor
