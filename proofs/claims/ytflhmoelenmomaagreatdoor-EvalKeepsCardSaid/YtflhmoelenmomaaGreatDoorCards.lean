/-
  DERIVED. GIVEN WITH THE SEED: THE CARDS: each row of YtflhmoelenmomaaGreatDoorRows.lean that lists a variable, with what it lists TIED to the program's text (the seventh form; the later family's looks); each row that meets fmt, with fmt's text TOLD by the authors' own Lean function (tested against real Go, not proved from fmt's source: count such statements apart). THE CARD IS WHAT COUNTS. Prove the row's statement (the work); the ties are given (YtflhmoelenmomaaGreatDoorTie.lean); close each card by the builder's one call (the guide's Derived/Test/ToyasCard.lean, 'card_holds'). Laid BY PROGRAM, IN A SANDBOX (cutbox-door.mjs). By AI agents, Wed Nov 11 2026. No macro, syntax, notation, axiom, sorry.
-/
import Derived.Test.YtflhmoelenmomaaGreatDoorRows
import GoSem.ClaimSeven
namespace Go.Proofs.YtflhmoelenmomaaGreatDoor
namespace Rows

/-- THE TIED CARD OF 'saplinglaw13.EvalMeans'. -/
def evalMeansCard : Claim7 := { stood := { row := evalMeansRow, standIns := [], harness := (true, "a87c7c7d6e03f7f620c6aa6f69961bf93d6bb221f8840803ae700e244f44bbe7"), looks := true }, kinds := [], alts := [], laidByText := true, laidKinds := [.data, .data, .data, .data, .sentinel, .sentinel, .pinned], laidTests := true, laidLooks := .later }
def EvalMeansCardSaid : Prop := Claim7.holds Tryz.pinned (.plain (OpenSpec.ofChange evalMeansSpec)) evalMeansCard

/-- THE TIED CARD OF 'saplinglaw13.EvalRecipes'. -/
def evalRecipesCard : Claim7 := { stood := { row := evalRecipesRow, standIns := [], harness := (true, "a87c7c7d6e03f7f620c6aa6f69961bf93d6bb221f8840803ae700e244f44bbe7"), looks := true }, kinds := [], alts := [], laidByText := true, laidKinds := [.data, .data, .data, .data, .sentinel, .sentinel, .pinned], laidTests := true, laidLooks := .later }
def EvalRecipesCardSaid : Prop := Claim7.holds Tryz.pinned (.plain (OpenSpec.ofChange evalRecipesSpec)) evalRecipesCard

/-- THE TIED CARD OF 'saplinglaw13.EvalSums'. -/
def evalSumsCard : Claim7 := { stood := { row := evalSumsRow, standIns := [], harness := (true, "a87c7c7d6e03f7f620c6aa6f69961bf93d6bb221f8840803ae700e244f44bbe7"), looks := true }, kinds := [], alts := [], laidByText := true, laidKinds := [.data, .data, .data, .data, .sentinel, .sentinel, .pinned], laidTests := true, laidLooks := .later }
def EvalSumsCardSaid : Prop := Claim7.holds Tryz.pinned (.plain (OpenSpec.ofChange evalSumsSpec)) evalSumsCard

/-- THE TIED CARD OF 'saplinglaw13.EvalLets'. -/
def evalLetsCard : Claim7 := { stood := { row := evalLetsRow, standIns := [], harness := (true, "a87c7c7d6e03f7f620c6aa6f69961bf93d6bb221f8840803ae700e244f44bbe7"), looks := true }, kinds := [], alts := [], laidByText := true, laidKinds := [.data, .data, .data, .data, .sentinel, .sentinel, .pinned], laidTests := true, laidLooks := .later }
def EvalLetsCardSaid : Prop := Claim7.holds Tryz.pinned (.plain (OpenSpec.ofChange evalLetsSpec)) evalLetsCard

/-- THE TIED CARD OF 'saplinglaw13.EvalKeeps'. -/
def evalKeepsCard : Claim7 := { stood := { row := evalKeepsRow, standIns := [], harness := (true, "a87c7c7d6e03f7f620c6aa6f69961bf93d6bb221f8840803ae700e244f44bbe7"), looks := true }, kinds := [], alts := [], laidByText := true, laidKinds := [.data, .data, .data, .data, .sentinel, .sentinel, .pinned], laidTests := true, laidLooks := .later }
def EvalKeepsCardSaid : Prop := Claim7.holds Tryz.pinned (.plain (OpenSpec.ofChange evalKeepsSpec)) evalKeepsCard

/-- THE TIED CARD OF 'saplinglaw13.EvalIfs'. -/
def evalIfsCard : Claim7 := { stood := { row := evalIfsRow, standIns := [], harness := (true, "a87c7c7d6e03f7f620c6aa6f69961bf93d6bb221f8840803ae700e244f44bbe7"), looks := true }, kinds := [], alts := [], laidByText := true, laidKinds := [.data, .data, .data, .data, .sentinel, .sentinel, .pinned], laidTests := true, laidLooks := .later }
def EvalIfsCardSaid : Prop := Claim7.holds Tryz.pinned (.plain (OpenSpec.ofChange evalIfsSpec)) evalIfsCard

/-- THE TIED CARD OF 'saplinglaw13.EvalPure'. -/
def evalPureCard : Claim7 := { stood := { row := evalPureRow, standIns := [], harness := (true, "a87c7c7d6e03f7f620c6aa6f69961bf93d6bb221f8840803ae700e244f44bbe7"), looks := true }, kinds := [], alts := [], laidByText := true, laidKinds := [.data, .data, .data, .data, .sentinel, .sentinel, .pinned], laidTests := true, laidLooks := .later }
def EvalPureCardSaid : Prop := Claim7.holds Tryz.pinned (.plain (OpenSpec.ofChange evalPureSpec)) evalPureCard

/-- THE SECOND FORM's CARD OF 'saplinglaw13.EvalMeans'. -/
def evalMeansUptoCard : Claim7 := { stood := { row := evalMeansUptoRow, standIns := [], harness := (true, "a87c7c7d6e03f7f620c6aa6f69961bf93d6bb221f8840803ae700e244f44bbe7"), looks := true }, kinds := [], alts := [], laidByText := true, laidKinds := [.data, .data, .data, .data, .sentinel, .sentinel, .pinned], laidTests := true, laidLooks := .later }
def EvalMeansUptoCardSaid : Prop := Claim7.holds Tryz.pinned (.plain (OpenSpec.upto evalMeansSpec)) evalMeansUptoCard

/-- THE SECOND FORM's CARD OF 'saplinglaw13.EvalRecipes'. -/
def evalRecipesUptoCard : Claim7 := { stood := { row := evalRecipesUptoRow, standIns := [], harness := (true, "a87c7c7d6e03f7f620c6aa6f69961bf93d6bb221f8840803ae700e244f44bbe7"), looks := true }, kinds := [], alts := [], laidByText := true, laidKinds := [.data, .data, .data, .data, .sentinel, .sentinel, .pinned], laidTests := true, laidLooks := .later }
def EvalRecipesUptoCardSaid : Prop := Claim7.holds Tryz.pinned (.plain (OpenSpec.upto evalRecipesSpec)) evalRecipesUptoCard

/-- THE SECOND FORM's CARD OF 'saplinglaw13.EvalSums'. -/
def evalSumsUptoCard : Claim7 := { stood := { row := evalSumsUptoRow, standIns := [], harness := (true, "a87c7c7d6e03f7f620c6aa6f69961bf93d6bb221f8840803ae700e244f44bbe7"), looks := true }, kinds := [], alts := [], laidByText := true, laidKinds := [.data, .data, .data, .data, .sentinel, .sentinel, .pinned], laidTests := true, laidLooks := .later }
def EvalSumsUptoCardSaid : Prop := Claim7.holds Tryz.pinned (.plain (OpenSpec.upto evalSumsSpec)) evalSumsUptoCard

/-- THE SECOND FORM's CARD OF 'saplinglaw13.EvalLets'. -/
def evalLetsUptoCard : Claim7 := { stood := { row := evalLetsUptoRow, standIns := [], harness := (true, "a87c7c7d6e03f7f620c6aa6f69961bf93d6bb221f8840803ae700e244f44bbe7"), looks := true }, kinds := [], alts := [], laidByText := true, laidKinds := [.data, .data, .data, .data, .sentinel, .sentinel, .pinned], laidTests := true, laidLooks := .later }
def EvalLetsUptoCardSaid : Prop := Claim7.holds Tryz.pinned (.plain (OpenSpec.upto evalLetsSpec)) evalLetsUptoCard

/-- THE SECOND FORM's CARD OF 'saplinglaw13.EvalKeeps'. -/
def evalKeepsUptoCard : Claim7 := { stood := { row := evalKeepsUptoRow, standIns := [], harness := (true, "a87c7c7d6e03f7f620c6aa6f69961bf93d6bb221f8840803ae700e244f44bbe7"), looks := true }, kinds := [], alts := [], laidByText := true, laidKinds := [.data, .data, .data, .data, .sentinel, .sentinel, .pinned], laidTests := true, laidLooks := .later }
def EvalKeepsUptoCardSaid : Prop := Claim7.holds Tryz.pinned (.plain (OpenSpec.upto evalKeepsSpec)) evalKeepsUptoCard

/-- THE SECOND FORM's CARD OF 'saplinglaw13.EvalIfs'. -/
def evalIfsUptoCard : Claim7 := { stood := { row := evalIfsUptoRow, standIns := [], harness := (true, "a87c7c7d6e03f7f620c6aa6f69961bf93d6bb221f8840803ae700e244f44bbe7"), looks := true }, kinds := [], alts := [], laidByText := true, laidKinds := [.data, .data, .data, .data, .sentinel, .sentinel, .pinned], laidTests := true, laidLooks := .later }
def EvalIfsUptoCardSaid : Prop := Claim7.holds Tryz.pinned (.plain (OpenSpec.upto evalIfsSpec)) evalIfsUptoCard

/-- THE SECOND FORM's CARD OF 'saplinglaw13.EvalPure'. -/
def evalPureUptoCard : Claim7 := { stood := { row := evalPureUptoRow, standIns := [], harness := (true, "a87c7c7d6e03f7f620c6aa6f69961bf93d6bb221f8840803ae700e244f44bbe7"), looks := true }, kinds := [], alts := [], laidByText := true, laidKinds := [.data, .data, .data, .data, .sentinel, .sentinel, .pinned], laidTests := true, laidLooks := .later }
def EvalPureUptoCardSaid : Prop := Claim7.holds Tryz.pinned (.plain (OpenSpec.upto evalPureSpec)) evalPureUptoCard
end Rows
end Go.Proofs.YtflhmoelenmomaaGreatDoor
