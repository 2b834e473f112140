/-
  DERIVED. GIVEN WITH THE SEED: THE CARDS: each row of YtlpdokkimaigfaaDoorRows.lean that lists a variable, with what it lists TIED to the program's text (the seventh form; the later family's looks); each row that meets fmt, with fmt's text TOLD by the authors' own Lean function (tested against real Go, not proved from fmt's source: count such statements apart). THE CARD IS WHAT COUNTS. Prove the row's statement (the work); the ties are given (YtlpdokkimaigfaaDoorTie.lean); close each card by the builder's one call (the guide's Derived/Test/ToyasCard.lean, 'card_holds'). Laid BY PROGRAM, IN A SANDBOX (cutbox-door.mjs). By AI agents, Wed Nov 11 2026. No macro, syntax, notation, axiom, sorry.
-/
import Derived.Test.YtlpdokkimaigfaaDoorRows
import GoSem.ClaimSeven
namespace Go.Proofs.YtlpdokkimaigfaaDoor
namespace Rows

/-- THE TIED CARD OF 'saplinglaw06.VersionNumbers'. -/
def versionNumbersCard : Claim7 := { stood := { row := versionNumbersRow, standIns := [], harness := (true, "b6bfa3c0383a67154797fcb4a8f360221a9d643b43cfda0c1e9e1aacae5766cd"), looks := true }, kinds := [], alts := [], laidByText := true, laidKinds := [.data, .data, .data, .data, .sentinel, .sentinel, .pinned], laidTests := true, laidLooks := .later }
def VersionNumbersCardSaid : Prop := Claim7.holds Tryd.pinned (.plain (OpenSpec.ofChange versionNumbersSpec)) versionNumbersCard

/-- THE TIED CARD OF 'saplinglaw06.VersionStands'. -/
def versionStandsCard : Claim7 := { stood := { row := versionStandsRow, standIns := [], harness := (true, "b6bfa3c0383a67154797fcb4a8f360221a9d643b43cfda0c1e9e1aacae5766cd"), looks := true }, kinds := [], alts := [], laidByText := true, laidKinds := [.data, .data, .data, .data, .sentinel, .sentinel, .pinned], laidTests := true, laidLooks := .later }
def VersionStandsCardSaid : Prop := Claim7.holds Tryd.pinned (.plain (OpenSpec.ofChange versionStandsSpec)) versionStandsCard

/-- THE TIED CARD OF 'saplinglaw06.VersionTexts'. -/
def versionTextsCard : Claim7 := { stood := { row := versionTextsRow, standIns := [], harness := (true, "b6bfa3c0383a67154797fcb4a8f360221a9d643b43cfda0c1e9e1aacae5766cd"), looks := true }, kinds := [], alts := [], laidByText := true, laidKinds := [.data, .data, .data, .data, .sentinel, .sentinel, .pinned], laidTests := true, laidLooks := .later }
def VersionTextsCardSaid : Prop := Claim7.holds Tryd.pinned (.plain (OpenSpec.ofChange versionTextsSpec)) versionTextsCard

/-- THE TIED CARD OF 'saplinglaw06.VersionRises'. -/
def versionRisesCard : Claim7 := { stood := { row := versionRisesRow, standIns := [], harness := (true, "b6bfa3c0383a67154797fcb4a8f360221a9d643b43cfda0c1e9e1aacae5766cd"), looks := true }, kinds := [], alts := [], laidByText := true, laidKinds := [.data, .data, .data, .data, .sentinel, .sentinel, .pinned], laidTests := true, laidLooks := .later }
def VersionRisesCardSaid : Prop := Claim7.holds Tryd.pinned (.plain (OpenSpec.ofChange versionRisesSpec)) versionRisesCard

/-- THE SECOND FORM's CARD OF 'saplinglaw06.VersionNumbers'. -/
def versionNumbersUptoCard : Claim7 := { stood := { row := versionNumbersUptoRow, standIns := [], harness := (true, "b6bfa3c0383a67154797fcb4a8f360221a9d643b43cfda0c1e9e1aacae5766cd"), looks := true }, kinds := [], alts := [], laidByText := true, laidKinds := [.data, .data, .data, .data, .sentinel, .sentinel, .pinned], laidTests := true, laidLooks := .later }
def VersionNumbersUptoCardSaid : Prop := Claim7.holds Tryd.pinned (.plain (OpenSpec.upto versionNumbersSpec)) versionNumbersUptoCard

/-- THE SECOND FORM's CARD OF 'saplinglaw06.VersionStands'. -/
def versionStandsUptoCard : Claim7 := { stood := { row := versionStandsUptoRow, standIns := [], harness := (true, "b6bfa3c0383a67154797fcb4a8f360221a9d643b43cfda0c1e9e1aacae5766cd"), looks := true }, kinds := [], alts := [], laidByText := true, laidKinds := [.data, .data, .data, .data, .sentinel, .sentinel, .pinned], laidTests := true, laidLooks := .later }
def VersionStandsUptoCardSaid : Prop := Claim7.holds Tryd.pinned (.plain (OpenSpec.upto versionStandsSpec)) versionStandsUptoCard

/-- THE SECOND FORM's CARD OF 'saplinglaw06.VersionTexts'. -/
def versionTextsUptoCard : Claim7 := { stood := { row := versionTextsUptoRow, standIns := [], harness := (true, "b6bfa3c0383a67154797fcb4a8f360221a9d643b43cfda0c1e9e1aacae5766cd"), looks := true }, kinds := [], alts := [], laidByText := true, laidKinds := [.data, .data, .data, .data, .sentinel, .sentinel, .pinned], laidTests := true, laidLooks := .later }
def VersionTextsUptoCardSaid : Prop := Claim7.holds Tryd.pinned (.plain (OpenSpec.upto versionTextsSpec)) versionTextsUptoCard

/-- THE SECOND FORM's CARD OF 'saplinglaw06.VersionRises'. -/
def versionRisesUptoCard : Claim7 := { stood := { row := versionRisesUptoRow, standIns := [], harness := (true, "b6bfa3c0383a67154797fcb4a8f360221a9d643b43cfda0c1e9e1aacae5766cd"), looks := true }, kinds := [], alts := [], laidByText := true, laidKinds := [.data, .data, .data, .data, .sentinel, .sentinel, .pinned], laidTests := true, laidLooks := .later }
def VersionRisesUptoCardSaid : Prop := Claim7.holds Tryd.pinned (.plain (OpenSpec.upto versionRisesSpec)) versionRisesUptoCard
end Rows
end Go.Proofs.YtlpdokkimaigfaaDoor
