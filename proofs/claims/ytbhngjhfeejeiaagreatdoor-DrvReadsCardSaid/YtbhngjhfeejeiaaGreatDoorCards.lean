/-
  DERIVED. GIVEN WITH THE SEED: THE CARDS: each row of YtbhngjhfeejeiaaGreatDoorRows.lean that lists a variable, with what it lists TIED to the program's text (the seventh form; the later family's looks); each row that meets fmt, with fmt's text TOLD by the authors' own Lean function (tested against real Go, not proved from fmt's source: count such statements apart). THE CARD IS WHAT COUNTS. Prove the row's statement (the work); the ties are given (YtbhngjhfeejeiaaGreatDoorTie.lean); close each card by the builder's one call (the guide's Derived/Test/ToyasCard.lean, 'card_holds'). Laid BY PROGRAM, IN A SANDBOX (cutbox-door.mjs). By AI agents, Wed Nov 11 2026. No macro, syntax, notation, axiom, sorry.
-/
import Derived.Test.YtbhngjhfeejeiaaGreatDoorRows
import GoSem.ClaimSeven
namespace Go.Proofs.YtbhngjhfeejeiaaGreatDoor
namespace Rows

/-- THE TIED CARD OF 'saplinglaw18.DrvReads'. -/
def drvReadsCard : Claim7 := { stood := { row := drvReadsRow, standIns := [], harness := (true, "08ef2b7694537ee4fcbdafa510d4035e9a80e2b02cedf9d1b6dfea58bc1a2bf6"), looks := true }, kinds := [], alts := [], laidByText := true, laidKinds := [.data, .data, .data, .data, .sentinel, .sentinel, .pinned], laidTests := true, laidLooks := .later }
def DrvReadsCardSaid : Prop := Claim7.holds Tryz.pinned (.plain (OpenSpec.ofChange drvReadsSpec)) drvReadsCard

/-- THE SECOND FORM's CARD OF 'saplinglaw18.DrvReads'. -/
def drvReadsUptoCard : Claim7 := { stood := { row := drvReadsUptoRow, standIns := [], harness := (true, "08ef2b7694537ee4fcbdafa510d4035e9a80e2b02cedf9d1b6dfea58bc1a2bf6"), looks := true }, kinds := [], alts := [], laidByText := true, laidKinds := [.data, .data, .data, .data, .sentinel, .sentinel, .pinned], laidTests := true, laidLooks := .later }
def DrvReadsUptoCardSaid : Prop := Claim7.holds Tryz.pinned (.plain (OpenSpec.upto drvReadsSpec)) drvReadsUptoCard
end Rows
end Go.Proofs.YtbhngjhfeejeiaaGreatDoor
