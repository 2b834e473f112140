/-
  DERIVED. GIVEN WITH THE SEED: THE CARDS: each row of YtbhngjhfeejeiaaDoorRows.lean that lists a variable, with what it lists TIED to the program's text (the seventh form; the later family's looks); each row that meets fmt, with fmt's text TOLD by the authors' own Lean function (tested against real Go, not proved from fmt's source: count such statements apart). THE CARD IS WHAT COUNTS. Prove the row's statement (the work); the ties are given (YtbhngjhfeejeiaaDoorTie.lean); close each card by the builder's one call (the guide's Derived/Test/ToyasCard.lean, 'card_holds'). Laid BY PROGRAM, IN A SANDBOX (cutbox-door.mjs). By AI agents, Wed Nov 11 2026. No macro, syntax, notation, axiom, sorry.
-/
import Derived.Test.YtbhngjhfeejeiaaDoorRows
import GoSem.ClaimSeven
namespace Go.Proofs.YtbhngjhfeejeiaaDoor
namespace Rows

/-- THE TIED CARD OF 'saplinglaw18.DrvWrites'. -/
def drvWritesCard : Claim7 := { stood := { row := drvWritesRow, standIns := [], harness := (true, "5cc813bd2af3009976ad7e83c6d7ed04faf454e9199cf750540c15f70c026c99"), looks := true }, kinds := [], alts := [], laidByText := true, laidKinds := [.data, .data, .data], laidTests := true, laidLooks := .later }
def DrvWritesCardSaid : Prop := Claim7.holds Tryd.pinned (.plain (OpenSpec.ofChange drvWritesSpec)) drvWritesCard

/-- THE TIED CARD OF 'saplinglaw18.DrvTells'. -/
def drvTellsCard : Claim7 := { stood := { row := drvTellsRow, standIns := [], harness := (true, "5cc813bd2af3009976ad7e83c6d7ed04faf454e9199cf750540c15f70c026c99"), looks := true }, kinds := [], alts := [], laidByText := true, laidKinds := [.data, .data, .data, .data, .sentinel, .sentinel, .pinned], laidTests := true, laidLooks := .later }
def DrvTellsCardSaid : Prop := Claim7.holds Tryd.pinned (.plain (OpenSpec.ofChange drvTellsSpec)) drvTellsCard

/-- THE SECOND FORM's CARD OF 'saplinglaw18.DrvWrites'. -/
def drvWritesUptoCard : Claim7 := { stood := { row := drvWritesUptoRow, standIns := [], harness := (true, "5cc813bd2af3009976ad7e83c6d7ed04faf454e9199cf750540c15f70c026c99"), looks := true }, kinds := [], alts := [], laidByText := true, laidKinds := [.data, .data, .data], laidTests := true, laidLooks := .later }
def DrvWritesUptoCardSaid : Prop := Claim7.holds Tryd.pinned (.plain (OpenSpec.upto drvWritesSpec)) drvWritesUptoCard

/-- THE SECOND FORM's CARD OF 'saplinglaw18.DrvTells'. -/
def drvTellsUptoCard : Claim7 := { stood := { row := drvTellsUptoRow, standIns := [], harness := (true, "5cc813bd2af3009976ad7e83c6d7ed04faf454e9199cf750540c15f70c026c99"), looks := true }, kinds := [], alts := [], laidByText := true, laidKinds := [.data, .data, .data, .data, .sentinel, .sentinel, .pinned], laidTests := true, laidLooks := .later }
def DrvTellsUptoCardSaid : Prop := Claim7.holds Tryd.pinned (.plain (OpenSpec.upto drvTellsSpec)) drvTellsUptoCard
end Rows
end Go.Proofs.YtbhngjhfeejeiaaDoor
