/-
  The reference's terms and expressions at every depth.
-/
import Derived.Test.YtcigggffaofkhaaRrJ
namespace Go.Proofs.Ytcigggffaofkhaa
open Go.RowKit
namespace Rc

theorem rterm_any (s : ByteArray) (hs : s.size ≤ 4096) : ∀ (h : Nat) (dp : Int), 0 ≤ dp → dp + h = 32 → TermR s dp (termP s.data.toList h)
  | h, dp, h0, hd, W, b, .bad q e0, hk => bad_rterm W b s q e0 dp _ hk
  | 0, dp, h0, hd, W, b, .ok _ t, hk => by
    have hd : dp = 32 := by omega
    show Calls _ _ _ _ fun e W' => PE W b s (termP s.data.toList 0 t) e W'
    by_cases h3 : t.kind = 3
    · exact rdeep_text s hs dp h0 hd W b t hk h3
    · cases w1 : isW t [40] with
      | true => exact rdeep_par s hs dp h0 hd W b t hk w1
      | false =>
        cases w2 : isW t [105, 102] with
        | true => exact rdeep_cond s hs dp h0 hd W b t hk w1 w2
        | false =>
          cases w3 : isW t [108, 101, 116] with
          | true => exact rdeep_bind s hs dp h0 hd W b t hk w1 w2 w3
          | false =>
            by_cases hk1 : t.kind = 1
            · cases hn : nameL t.s.data.toList with
              | true => exact rdeep_word s hs dp h0 hd W b t hk w1 w2 w3 hk1 hn
              | false => exact rfail_name s hs dp h0 0 W b t hk w1 w2 w3 hk1 hn
            · exact rfail_kind s hs dp h0 0 W b t hk w1 w2 w3 h3 hk1
  | h + 1, dp, h0, hd, W, b, .ok _ t, hk => by
    have ih := rterm_any s hs h (dp + 1) (by omega) (by omega)
    have hf : ExprR s (dp + 1) (exprP s.data.toList (termP s.data.toList h)) := fun W b st hr => rexpr_any s hs (dp + 1) _ (term_prog _ h) ih W b st hr
    have h1 : dp < 32 := by omega
    show Calls _ _ _ _ fun e W' => PE W b s (termP s.data.toList (h + 1) t) e W'
    by_cases h3 : t.kind = 3
    · exact rterm_text s hs dp h0 h1 h W b t hk h3
    · cases w1 : isW t [40] with
      | true => exact rterm_par s hs dp h0 h1 h hf W b t hk w1
      | false =>
        cases w2 : isW t [105, 102] with
        | true => exact rterm_cond s hs dp h0 h1 h hf W b t hk w1 w2
        | false =>
          cases w3 : isW t [108, 101, 116] with
          | true => exact rterm_bind s hs dp h0 h1 h hf W b t hk w1 w2 w3
          | false =>
            by_cases hk1 : t.kind = 1
            · cases hn : nameL t.s.data.toList with
              | true => exact rterm_word s hs dp h0 h1 h W b t hk w1 w2 w3 hk1 hn
              | false => exact rfail_name s hs dp h0 (h + 1) W b t hk w1 w2 w3 hk1 hn
            · exact rfail_kind s hs dp h0 (h + 1) W b t hk w1 w2 w3 h3 hk1
/-- an expression at the top -/
theorem rtop_any (s : ByteArray) (hs : s.size ≤ 4096) : ExprR s 0 (exprP s.data.toList (termP s.data.toList 32)) := fun W b st hr =>
  rexpr_any s hs 0 _ (term_prog _ 32) (rterm_any s hs 32 0 (by omega) (by omega)) W b st hr
end Rc
end Go.Proofs.Ytcigggffaofkhaa
