/-
  DERIVED. GIVEN WITH THE SEED: THE CARDS: each row of YtjfchdgdgbdeeaaDoorRows.lean that lists a variable, with what it lists TIED to the program's text (the seventh form; the later family's looks); each row that meets fmt, with fmt's text TOLD by the authors' own Lean function (tested against real Go, not proved from fmt's source: count such statements apart). THE CARD IS WHAT COUNTS. Prove the row's statement (the work); the ties are given (YtjfchdgdgbdeeaaDoorTie.lean); close each card by the builder's one call (the guide's Derived/Test/ToyasCard.lean, 'card_holds'). Laid BY PROGRAM, IN A SANDBOX (cutbox-door.mjs). By AI agents, Wed Nov 11 2026. No macro, syntax, notation, axiom, sorry.
-/
import Derived.Test.YtjfchdgdgbdeeaaDoorRows
import GoSem.ClaimSeven
namespace Go.Proofs.YtjfchdgdgbdeeaaDoor
namespace Rows

/-- THE TIED CARD OF 'saplinglaw08.CodeChecks'. -/
def codeChecksCard : Claim7 := { stood := { row := codeChecksRow, standIns := [], harness := (true, "1cff5471c730367d1c5b8f0a6b61fe67c35d1308f410032fb16fdf92f270c0af"), looks := true }, kinds := [], alts := [], laidByText := true, laidKinds := [.data, .data, .data, .widerDeep], laidTests := true, laidLooks := .later }
def CodeChecksCardSaid : Prop := Claim7.holds Tryd.pinned (.plain (OpenSpec.ofChange codeChecksSpec)) codeChecksCard

/-- THE TIED CARD OF 'saplinglaw08.CodeAlone'. -/
def codeAloneCard : Claim7 := { stood := { row := codeAloneRow, standIns := [], harness := (true, "1cff5471c730367d1c5b8f0a6b61fe67c35d1308f410032fb16fdf92f270c0af"), looks := true }, kinds := [], alts := [], laidByText := true, laidKinds := [.data, .data, .data, .widerDeep], laidTests := true, laidLooks := .later }
def CodeAloneCardSaid : Prop := Claim7.holds Tryd.pinned (.plain (OpenSpec.ofChange codeAloneSpec)) codeAloneCard

/-- THE TIED CARD OF 'saplinglaw08.CodeWords'. -/
def codeWordsCard : Claim7 := { stood := { row := codeWordsRow, standIns := [], harness := (true, "1cff5471c730367d1c5b8f0a6b61fe67c35d1308f410032fb16fdf92f270c0af"), looks := true }, kinds := [], alts := [], laidByText := true, laidKinds := [.data, .data, .data, .widerDeep], laidTests := true, laidLooks := .later }
def CodeWordsCardSaid : Prop := Claim7.holds Tryd.pinned (.plain (OpenSpec.ofChange codeWordsSpec)) codeWordsCard

/-- THE TIED CARD OF 'saplinglaw08.CodeReads'. -/
def codeReadsCard : Claim7 := { stood := { row := codeReadsRow, standIns := [], harness := (true, "1cff5471c730367d1c5b8f0a6b61fe67c35d1308f410032fb16fdf92f270c0af"), looks := true }, kinds := [], alts := [], laidByText := true, laidKinds := [.data, .data, .data, .sentinel, .sentinel, .widerDeep], laidTests := true, laidLooks := .later }
def CodeReadsCardSaid : Prop := Claim7.holds Tryd.pinned (.plain (OpenSpec.ofChange codeReadsSpec)) codeReadsCard

/-- THE TIED CARD OF 'saplinglaw08.CodeBack'. -/
def codeBackCard : Claim7 := { stood := { row := codeBackRow, standIns := [], harness := (true, "1cff5471c730367d1c5b8f0a6b61fe67c35d1308f410032fb16fdf92f270c0af"), looks := true }, kinds := [], alts := [], laidByText := true, laidKinds := [.data, .data, .data, .sentinel, .sentinel, .widerDeep], laidTests := true, laidLooks := .later }
def CodeBackCardSaid : Prop := Claim7.holds Tryd.pinned (.plain (OpenSpec.ofChange codeBackSpec)) codeBackCard

/-- THE SECOND FORM's CARD OF 'saplinglaw08.CodeChecks'. -/
def codeChecksUptoCard : Claim7 := { stood := { row := codeChecksUptoRow, standIns := [], harness := (true, "1cff5471c730367d1c5b8f0a6b61fe67c35d1308f410032fb16fdf92f270c0af"), looks := true }, kinds := [], alts := [], laidByText := true, laidKinds := [.data, .data, .data, .widerDeep], laidTests := true, laidLooks := .later }
def CodeChecksUptoCardSaid : Prop := Claim7.holds Tryd.pinned (.plain (OpenSpec.upto codeChecksSpec)) codeChecksUptoCard

/-- THE SECOND FORM's CARD OF 'saplinglaw08.CodeAlone'. -/
def codeAloneUptoCard : Claim7 := { stood := { row := codeAloneUptoRow, standIns := [], harness := (true, "1cff5471c730367d1c5b8f0a6b61fe67c35d1308f410032fb16fdf92f270c0af"), looks := true }, kinds := [], alts := [], laidByText := true, laidKinds := [.data, .data, .data, .widerDeep], laidTests := true, laidLooks := .later }
def CodeAloneUptoCardSaid : Prop := Claim7.holds Tryd.pinned (.plain (OpenSpec.upto codeAloneSpec)) codeAloneUptoCard

/-- THE SECOND FORM's CARD OF 'saplinglaw08.CodeWords'. -/
def codeWordsUptoCard : Claim7 := { stood := { row := codeWordsUptoRow, standIns := [], harness := (true, "1cff5471c730367d1c5b8f0a6b61fe67c35d1308f410032fb16fdf92f270c0af"), looks := true }, kinds := [], alts := [], laidByText := true, laidKinds := [.data, .data, .data, .widerDeep], laidTests := true, laidLooks := .later }
def CodeWordsUptoCardSaid : Prop := Claim7.holds Tryd.pinned (.plain (OpenSpec.upto codeWordsSpec)) codeWordsUptoCard

/-- THE SECOND FORM's CARD OF 'saplinglaw08.CodeReads'. -/
def codeReadsUptoCard : Claim7 := { stood := { row := codeReadsUptoRow, standIns := [], harness := (true, "1cff5471c730367d1c5b8f0a6b61fe67c35d1308f410032fb16fdf92f270c0af"), looks := true }, kinds := [], alts := [], laidByText := true, laidKinds := [.data, .data, .data, .sentinel, .sentinel, .widerDeep], laidTests := true, laidLooks := .later }
def CodeReadsUptoCardSaid : Prop := Claim7.holds Tryd.pinned (.plain (OpenSpec.upto codeReadsSpec)) codeReadsUptoCard

/-- THE SECOND FORM's CARD OF 'saplinglaw08.CodeBack'. -/
def codeBackUptoCard : Claim7 := { stood := { row := codeBackUptoRow, standIns := [], harness := (true, "1cff5471c730367d1c5b8f0a6b61fe67c35d1308f410032fb16fdf92f270c0af"), looks := true }, kinds := [], alts := [], laidByText := true, laidKinds := [.data, .data, .data, .sentinel, .sentinel, .widerDeep], laidTests := true, laidLooks := .later }
def CodeBackUptoCardSaid : Prop := Claim7.holds Tryd.pinned (.plain (OpenSpec.upto codeBackSpec)) codeBackUptoCard
end Rows
end Go.Proofs.YtjfchdgdgbdeeaaDoor
