/-
  DERIVED. GIVEN WITH THE SEED: THE CARDS: each row of YtbefgplaaghlbaaGreatDoorRows.lean that lists a variable, with what it lists TIED to the program's text (the seventh form; the later family's looks); each row that meets fmt, with fmt's text TOLD by the authors' own Lean function (tested against real Go, not proved from fmt's source: count such statements apart). THE CARD IS WHAT COUNTS. Prove the row's statement (the work); the ties are given (YtbefgplaaghlbaaGreatDoorTie.lean); close each card by the builder's one call (the guide's Derived/Test/ToyasCard.lean, 'card_holds'). Laid BY PROGRAM, IN A SANDBOX (cutbox-door.mjs). By AI agents, Wed Nov 11 2026. No macro, syntax, notation, axiom, sorry.
-/
import Derived.Test.YtbefgplaaghlbaaGreatDoorRows
import GoSem.ClaimSeven
namespace Go.Proofs.YtbefgplaaghlbaaGreatDoor
namespace Rows

/-- THE TIED CARD OF 'saplinglaw10.VmRuns'. -/
def vmRunsCard : Claim7 := { stood := { row := vmRunsRow, standIns := [], harness := (true, "6ecd81e739ecb7dc2fbf0f71aa40497074ccc5877776f4a3194d88f5690ba3e3"), looks := true }, kinds := [], alts := [], laidByText := true, laidKinds := [.data, .data, .data, .data, .sentinel, .sentinel, .widerDeep, .pinned], laidTests := true, laidLooks := .later }
def VmRunsCardSaid : Prop := Claim7.holds Tryz.pinned (.plain (OpenSpec.ofChange vmRunsSpec)) vmRunsCard

/-- THE TIED CARD OF 'saplinglaw10.VmFuel'. -/
def vmFuelCard : Claim7 := { stood := { row := vmFuelRow, standIns := [], harness := (true, "6ecd81e739ecb7dc2fbf0f71aa40497074ccc5877776f4a3194d88f5690ba3e3"), looks := true }, kinds := [], alts := [], laidByText := true, laidKinds := [.data, .data, .data, .data, .sentinel, .sentinel, .widerDeep, .pinned], laidTests := true, laidLooks := .later }
def VmFuelCardSaid : Prop := Claim7.holds Tryz.pinned (.plain (OpenSpec.ofChange vmFuelSpec)) vmFuelCard

/-- THE TIED CARD OF 'saplinglaw10.VmSees'. -/
def vmSeesCard : Claim7 := { stood := { row := vmSeesRow, standIns := [], harness := (true, "6ecd81e739ecb7dc2fbf0f71aa40497074ccc5877776f4a3194d88f5690ba3e3"), looks := true }, kinds := [], alts := [], laidByText := true, laidKinds := [.data, .data, .data, .data, .sentinel, .sentinel, .widerDeep, .pinned], laidTests := true, laidLooks := .later }
def VmSeesCardSaid : Prop := Claim7.holds Tryz.pinned (.plain (OpenSpec.ofChange vmSeesSpec)) vmSeesCard

/-- THE TIED CARD OF 'saplinglaw10.VmAlone'. -/
def vmAloneCard : Claim7 := { stood := { row := vmAloneRow, standIns := [], harness := (true, "6ecd81e739ecb7dc2fbf0f71aa40497074ccc5877776f4a3194d88f5690ba3e3"), looks := true }, kinds := [], alts := [], laidByText := true, laidKinds := [.data, .data, .data, .data, .sentinel, .sentinel, .widerDeep, .pinned], laidTests := true, laidLooks := .later }
def VmAloneCardSaid : Prop := Claim7.holds Tryz.pinned (.plain (OpenSpec.ofChange vmAloneSpec)) vmAloneCard

/-- THE TIED CARD OF 'saplinglaw10.VmKeeps'. -/
def vmKeepsCard : Claim7 := { stood := { row := vmKeepsRow, standIns := [], harness := (true, "6ecd81e739ecb7dc2fbf0f71aa40497074ccc5877776f4a3194d88f5690ba3e3"), looks := true }, kinds := [], alts := [], laidByText := true, laidKinds := [.data, .data, .data, .data, .sentinel, .sentinel, .widerDeep, .pinned], laidTests := true, laidLooks := .later }
def VmKeepsCardSaid : Prop := Claim7.holds Tryz.pinned (.plain (OpenSpec.ofChange vmKeepsSpec)) vmKeepsCard

/-- THE TIED CARD OF 'saplinglaw10.VmReckons'. -/
def vmReckonsCard : Claim7 := { stood := { row := vmReckonsRow, standIns := [], harness := (true, "6ecd81e739ecb7dc2fbf0f71aa40497074ccc5877776f4a3194d88f5690ba3e3"), looks := true }, kinds := [], alts := [], laidByText := true, laidKinds := [.data, .data, .data, .data, .sentinel, .sentinel, .widerDeep, .pinned], laidTests := true, laidLooks := .later }
def VmReckonsCardSaid : Prop := Claim7.holds Tryz.pinned (.plain (OpenSpec.ofChange vmReckonsSpec)) vmReckonsCard

/-- THE TIED CARD OF 'saplinglaw10.VmTexts'. -/
def vmTextsCard : Claim7 := { stood := { row := vmTextsRow, standIns := [], harness := (true, "6ecd81e739ecb7dc2fbf0f71aa40497074ccc5877776f4a3194d88f5690ba3e3"), looks := true }, kinds := [], alts := [], laidByText := true, laidKinds := [.data, .data, .data, .data, .sentinel, .sentinel, .widerDeep, .pinned], laidTests := true, laidLooks := .later }
def VmTextsCardSaid : Prop := Claim7.holds Tryz.pinned (.plain (OpenSpec.ofChange vmTextsSpec)) vmTextsCard

/-- THE TIED CARD OF 'saplinglaw10.VmLoops'. -/
def vmLoopsCard : Claim7 := { stood := { row := vmLoopsRow, standIns := [], harness := (true, "6ecd81e739ecb7dc2fbf0f71aa40497074ccc5877776f4a3194d88f5690ba3e3"), looks := true }, kinds := [], alts := [], laidByText := true, laidKinds := [.data, .data, .data, .data, .sentinel, .sentinel, .widerDeep, .pinned], laidTests := true, laidLooks := .later }
def VmLoopsCardSaid : Prop := Claim7.holds Tryz.pinned (.plain (OpenSpec.ofChange vmLoopsSpec)) vmLoopsCard

/-- THE TIED CARD OF 'saplinglaw10.VmDepths'. -/
def vmDepthsCard : Claim7 := { stood := { row := vmDepthsRow, standIns := [], harness := (true, "6ecd81e739ecb7dc2fbf0f71aa40497074ccc5877776f4a3194d88f5690ba3e3"), looks := true }, kinds := [], alts := [], laidByText := true, laidKinds := [.data, .data, .data, .data, .sentinel, .sentinel, .widerDeep, .pinned], laidTests := true, laidLooks := .later }
def VmDepthsCardSaid : Prop := Claim7.holds Tryz.pinned (.plain (OpenSpec.ofChange vmDepthsSpec)) vmDepthsCard

/-- THE TIED CARD OF 'saplinglaw10.VmSlices'. -/
def vmSlicesCard : Claim7 := { stood := { row := vmSlicesRow, standIns := [], harness := (true, "6ecd81e739ecb7dc2fbf0f71aa40497074ccc5877776f4a3194d88f5690ba3e3"), looks := true }, kinds := [], alts := [], laidByText := true, laidKinds := [.data, .data, .data, .data, .sentinel, .sentinel, .widerDeep, .pinned], laidTests := true, laidLooks := .later }
def VmSlicesCardSaid : Prop := Claim7.holds Tryz.pinned (.plain (OpenSpec.ofChange vmSlicesSpec)) vmSlicesCard

/-- THE SECOND FORM's CARD OF 'saplinglaw10.VmRuns'. -/
def vmRunsUptoCard : Claim7 := { stood := { row := vmRunsUptoRow, standIns := [], harness := (true, "6ecd81e739ecb7dc2fbf0f71aa40497074ccc5877776f4a3194d88f5690ba3e3"), looks := true }, kinds := [], alts := [], laidByText := true, laidKinds := [.data, .data, .data, .data, .sentinel, .sentinel, .widerDeep, .pinned], laidTests := true, laidLooks := .later }
def VmRunsUptoCardSaid : Prop := Claim7.holds Tryz.pinned (.plain (OpenSpec.upto vmRunsSpec)) vmRunsUptoCard

/-- THE SECOND FORM's CARD OF 'saplinglaw10.VmFuel'. -/
def vmFuelUptoCard : Claim7 := { stood := { row := vmFuelUptoRow, standIns := [], harness := (true, "6ecd81e739ecb7dc2fbf0f71aa40497074ccc5877776f4a3194d88f5690ba3e3"), looks := true }, kinds := [], alts := [], laidByText := true, laidKinds := [.data, .data, .data, .data, .sentinel, .sentinel, .widerDeep, .pinned], laidTests := true, laidLooks := .later }
def VmFuelUptoCardSaid : Prop := Claim7.holds Tryz.pinned (.plain (OpenSpec.upto vmFuelSpec)) vmFuelUptoCard

/-- THE SECOND FORM's CARD OF 'saplinglaw10.VmSees'. -/
def vmSeesUptoCard : Claim7 := { stood := { row := vmSeesUptoRow, standIns := [], harness := (true, "6ecd81e739ecb7dc2fbf0f71aa40497074ccc5877776f4a3194d88f5690ba3e3"), looks := true }, kinds := [], alts := [], laidByText := true, laidKinds := [.data, .data, .data, .data, .sentinel, .sentinel, .widerDeep, .pinned], laidTests := true, laidLooks := .later }
def VmSeesUptoCardSaid : Prop := Claim7.holds Tryz.pinned (.plain (OpenSpec.upto vmSeesSpec)) vmSeesUptoCard

/-- THE SECOND FORM's CARD OF 'saplinglaw10.VmAlone'. -/
def vmAloneUptoCard : Claim7 := { stood := { row := vmAloneUptoRow, standIns := [], harness := (true, "6ecd81e739ecb7dc2fbf0f71aa40497074ccc5877776f4a3194d88f5690ba3e3"), looks := true }, kinds := [], alts := [], laidByText := true, laidKinds := [.data, .data, .data, .data, .sentinel, .sentinel, .widerDeep, .pinned], laidTests := true, laidLooks := .later }
def VmAloneUptoCardSaid : Prop := Claim7.holds Tryz.pinned (.plain (OpenSpec.upto vmAloneSpec)) vmAloneUptoCard

/-- THE SECOND FORM's CARD OF 'saplinglaw10.VmKeeps'. -/
def vmKeepsUptoCard : Claim7 := { stood := { row := vmKeepsUptoRow, standIns := [], harness := (true, "6ecd81e739ecb7dc2fbf0f71aa40497074ccc5877776f4a3194d88f5690ba3e3"), looks := true }, kinds := [], alts := [], laidByText := true, laidKinds := [.data, .data, .data, .data, .sentinel, .sentinel, .widerDeep, .pinned], laidTests := true, laidLooks := .later }
def VmKeepsUptoCardSaid : Prop := Claim7.holds Tryz.pinned (.plain (OpenSpec.upto vmKeepsSpec)) vmKeepsUptoCard

/-- THE SECOND FORM's CARD OF 'saplinglaw10.VmReckons'. -/
def vmReckonsUptoCard : Claim7 := { stood := { row := vmReckonsUptoRow, standIns := [], harness := (true, "6ecd81e739ecb7dc2fbf0f71aa40497074ccc5877776f4a3194d88f5690ba3e3"), looks := true }, kinds := [], alts := [], laidByText := true, laidKinds := [.data, .data, .data, .data, .sentinel, .sentinel, .widerDeep, .pinned], laidTests := true, laidLooks := .later }
def VmReckonsUptoCardSaid : Prop := Claim7.holds Tryz.pinned (.plain (OpenSpec.upto vmReckonsSpec)) vmReckonsUptoCard

/-- THE SECOND FORM's CARD OF 'saplinglaw10.VmTexts'. -/
def vmTextsUptoCard : Claim7 := { stood := { row := vmTextsUptoRow, standIns := [], harness := (true, "6ecd81e739ecb7dc2fbf0f71aa40497074ccc5877776f4a3194d88f5690ba3e3"), looks := true }, kinds := [], alts := [], laidByText := true, laidKinds := [.data, .data, .data, .data, .sentinel, .sentinel, .widerDeep, .pinned], laidTests := true, laidLooks := .later }
def VmTextsUptoCardSaid : Prop := Claim7.holds Tryz.pinned (.plain (OpenSpec.upto vmTextsSpec)) vmTextsUptoCard

/-- THE SECOND FORM's CARD OF 'saplinglaw10.VmLoops'. -/
def vmLoopsUptoCard : Claim7 := { stood := { row := vmLoopsUptoRow, standIns := [], harness := (true, "6ecd81e739ecb7dc2fbf0f71aa40497074ccc5877776f4a3194d88f5690ba3e3"), looks := true }, kinds := [], alts := [], laidByText := true, laidKinds := [.data, .data, .data, .data, .sentinel, .sentinel, .widerDeep, .pinned], laidTests := true, laidLooks := .later }
def VmLoopsUptoCardSaid : Prop := Claim7.holds Tryz.pinned (.plain (OpenSpec.upto vmLoopsSpec)) vmLoopsUptoCard

/-- THE SECOND FORM's CARD OF 'saplinglaw10.VmDepths'. -/
def vmDepthsUptoCard : Claim7 := { stood := { row := vmDepthsUptoRow, standIns := [], harness := (true, "6ecd81e739ecb7dc2fbf0f71aa40497074ccc5877776f4a3194d88f5690ba3e3"), looks := true }, kinds := [], alts := [], laidByText := true, laidKinds := [.data, .data, .data, .data, .sentinel, .sentinel, .widerDeep, .pinned], laidTests := true, laidLooks := .later }
def VmDepthsUptoCardSaid : Prop := Claim7.holds Tryz.pinned (.plain (OpenSpec.upto vmDepthsSpec)) vmDepthsUptoCard

/-- THE SECOND FORM's CARD OF 'saplinglaw10.VmSlices'. -/
def vmSlicesUptoCard : Claim7 := { stood := { row := vmSlicesUptoRow, standIns := [], harness := (true, "6ecd81e739ecb7dc2fbf0f71aa40497074ccc5877776f4a3194d88f5690ba3e3"), looks := true }, kinds := [], alts := [], laidByText := true, laidKinds := [.data, .data, .data, .data, .sentinel, .sentinel, .widerDeep, .pinned], laidTests := true, laidLooks := .later }
def VmSlicesUptoCardSaid : Prop := Claim7.holds Tryz.pinned (.plain (OpenSpec.upto vmSlicesSpec)) vmSlicesUptoCard
end Rows
end Go.Proofs.YtbefgplaaghlbaaGreatDoor
