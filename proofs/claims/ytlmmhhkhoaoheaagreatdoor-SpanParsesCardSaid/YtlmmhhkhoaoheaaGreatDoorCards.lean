/-
  DERIVED. GIVEN WITH THE SEED: THE CARDS: each row of YtlmmhhkhoaoheaaGreatDoorRows.lean that lists a variable, with what it lists TIED to the program's text (the seventh form; the later family's looks); each row that meets fmt, with fmt's text TOLD by the authors' own Lean function (tested against real Go, not proved from fmt's source: count such statements apart). THE CARD IS WHAT COUNTS. Prove the row's statement (the work); the ties are given (YtlmmhhkhoaoheaaGreatDoorTie.lean); close each card by the builder's one call (the guide's Derived/Test/ToyasCard.lean, 'card_holds'). Laid BY PROGRAM, IN A SANDBOX (cutbox-door.mjs). By AI agents, Wed Nov 11 2026. No macro, syntax, notation, axiom, sorry.
-/
import Derived.Test.YtlmmhhkhoaoheaaGreatDoorRows
import GoSem.ClaimSeven
namespace Go.Proofs.YtlmmhhkhoaoheaaGreatDoor
namespace Rows

/-- THE TIED CARD OF 'saplinglaw07.SpanParses'. -/
def spanParsesCard : Claim7 := { stood := { row := spanParsesRow, standIns := [], harness := (true, "fad45603744885193d399286c3d4aca0ec8e51f18d4d4d78552e59eb92d92bc0"), looks := true }, kinds := [], alts := [], laidByText := true, laidKinds := [.data, .data, .data, .data, .sentinel, .sentinel, .pinned], laidTests := true, laidLooks := .later }
def SpanParsesCardSaid : Prop := Claim7.holds Tryz.pinned (.plain (OpenSpec.ofChange spanParsesSpec)) spanParsesCard

/-- THE TIED CARD OF 'saplinglaw07.SpanSigns'. -/
def spanSignsCard : Claim7 := { stood := { row := spanSignsRow, standIns := [], harness := (true, "fad45603744885193d399286c3d4aca0ec8e51f18d4d4d78552e59eb92d92bc0"), looks := true }, kinds := [], alts := [], laidByText := true, laidKinds := [.data, .data, .data, .data, .sentinel, .sentinel, .pinned], laidTests := true, laidLooks := .later }
def SpanSignsCardSaid : Prop := Claim7.holds Tryz.pinned (.plain (OpenSpec.ofChange spanSignsSpec)) spanSignsCard

/-- THE TIED CARD OF 'saplinglaw07.SpanTerms'. -/
def spanTermsCard : Claim7 := { stood := { row := spanTermsRow, standIns := [], harness := (true, "fad45603744885193d399286c3d4aca0ec8e51f18d4d4d78552e59eb92d92bc0"), looks := true }, kinds := [], alts := [], laidByText := true, laidKinds := [.data, .data, .data, .data, .sentinel, .sentinel, .pinned], laidTests := true, laidLooks := .later }
def SpanTermsCardSaid : Prop := Claim7.holds Tryz.pinned (.plain (OpenSpec.ofChange spanTermsSpec)) spanTermsCard

/-- THE TIED CARD OF 'saplinglaw07.SpanKeeps'. -/
def spanKeepsCard : Claim7 := { stood := { row := spanKeepsRow, standIns := [], harness := (true, "fad45603744885193d399286c3d4aca0ec8e51f18d4d4d78552e59eb92d92bc0"), looks := true }, kinds := [], alts := [], laidByText := true, laidKinds := [.data, .data, .data, .data, .sentinel, .sentinel, .pinned], laidTests := true, laidLooks := .later }
def SpanKeepsCardSaid : Prop := Claim7.holds Tryz.pinned (.plain (OpenSpec.ofChange spanKeepsSpec)) spanKeepsCard

/-- THE TIED CARD OF 'saplinglaw07.SpanHas'. -/
def spanHasCard : Claim7 := { stood := { row := spanHasRow, standIns := [], harness := (true, "fad45603744885193d399286c3d4aca0ec8e51f18d4d4d78552e59eb92d92bc0"), looks := true }, kinds := [], alts := [], laidByText := true, laidKinds := [.data, .data, .data, .data, .sentinel, .sentinel, .pinned], laidTests := true, laidLooks := .later }
def SpanHasCardSaid : Prop := Claim7.holds Tryz.pinned (.plain (OpenSpec.ofChange spanHasSpec)) spanHasCard

/-- THE SECOND FORM's CARD OF 'saplinglaw07.SpanParses'. -/
def spanParsesUptoCard : Claim7 := { stood := { row := spanParsesUptoRow, standIns := [], harness := (true, "fad45603744885193d399286c3d4aca0ec8e51f18d4d4d78552e59eb92d92bc0"), looks := true }, kinds := [], alts := [], laidByText := true, laidKinds := [.data, .data, .data, .data, .sentinel, .sentinel, .pinned], laidTests := true, laidLooks := .later }
def SpanParsesUptoCardSaid : Prop := Claim7.holds Tryz.pinned (.plain (OpenSpec.upto spanParsesSpec)) spanParsesUptoCard

/-- THE SECOND FORM's CARD OF 'saplinglaw07.SpanSigns'. -/
def spanSignsUptoCard : Claim7 := { stood := { row := spanSignsUptoRow, standIns := [], harness := (true, "fad45603744885193d399286c3d4aca0ec8e51f18d4d4d78552e59eb92d92bc0"), looks := true }, kinds := [], alts := [], laidByText := true, laidKinds := [.data, .data, .data, .data, .sentinel, .sentinel, .pinned], laidTests := true, laidLooks := .later }
def SpanSignsUptoCardSaid : Prop := Claim7.holds Tryz.pinned (.plain (OpenSpec.upto spanSignsSpec)) spanSignsUptoCard

/-- THE SECOND FORM's CARD OF 'saplinglaw07.SpanTerms'. -/
def spanTermsUptoCard : Claim7 := { stood := { row := spanTermsUptoRow, standIns := [], harness := (true, "fad45603744885193d399286c3d4aca0ec8e51f18d4d4d78552e59eb92d92bc0"), looks := true }, kinds := [], alts := [], laidByText := true, laidKinds := [.data, .data, .data, .data, .sentinel, .sentinel, .pinned], laidTests := true, laidLooks := .later }
def SpanTermsUptoCardSaid : Prop := Claim7.holds Tryz.pinned (.plain (OpenSpec.upto spanTermsSpec)) spanTermsUptoCard

/-- THE SECOND FORM's CARD OF 'saplinglaw07.SpanKeeps'. -/
def spanKeepsUptoCard : Claim7 := { stood := { row := spanKeepsUptoRow, standIns := [], harness := (true, "fad45603744885193d399286c3d4aca0ec8e51f18d4d4d78552e59eb92d92bc0"), looks := true }, kinds := [], alts := [], laidByText := true, laidKinds := [.data, .data, .data, .data, .sentinel, .sentinel, .pinned], laidTests := true, laidLooks := .later }
def SpanKeepsUptoCardSaid : Prop := Claim7.holds Tryz.pinned (.plain (OpenSpec.upto spanKeepsSpec)) spanKeepsUptoCard

/-- THE SECOND FORM's CARD OF 'saplinglaw07.SpanHas'. -/
def spanHasUptoCard : Claim7 := { stood := { row := spanHasUptoRow, standIns := [], harness := (true, "fad45603744885193d399286c3d4aca0ec8e51f18d4d4d78552e59eb92d92bc0"), looks := true }, kinds := [], alts := [], laidByText := true, laidKinds := [.data, .data, .data, .data, .sentinel, .sentinel, .pinned], laidTests := true, laidLooks := .later }
def SpanHasUptoCardSaid : Prop := Claim7.holds Tryz.pinned (.plain (OpenSpec.upto spanHasSpec)) spanHasUptoCard
end Rows
end Go.Proofs.YtlmmhhkhoaoheaaGreatDoor
