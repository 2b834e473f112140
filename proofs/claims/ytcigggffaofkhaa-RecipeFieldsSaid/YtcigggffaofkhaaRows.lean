/-
  NARROWER THAN 'FOR EVERY INPUT', by the rows' own cells (each row's printed sentence says how): RecipePrints: loops · RecipeBack: loops · RecipeFields: loops.
  DERIVED. THE GIVEN ROWS OF THIS SEAT. 6 by the template 'for every input the law returns true; each argument reads behind the call as it read before'; 0 by the template 'total and deterministic' (their statements: YtcigggffaofkhaaTotals.lean).
  GIVEN WITH THE SEED: the statements are not yours to turn. If you find one false, say at which input.
  Laid BY PROGRAM, IN A SANDBOX (cutbox-rows.mjs): the forced cells as the released guide's own fill.sh prints them over the translation 2ba3c38cafcc7e83… (all of the seat's roots in one cut). By AI agents, Wed Nov 11 2026. No macro, syntax, notation, axiom, sorry.
-/
import Derived.Test.YtcigggffaofkhaaChecked
import GoSem.Claim
import GoSem.ClaimJoined
import GoSem.ClaimMapViews
import Derived.JoinedTies
import Derived.KernelRfl
namespace Go.Proofs.Ytcigggffaofkhaa
/- THE CELL 'sum', in the pinned program and in every row, IS THE sha256 OF THE DUMP (.gsa) THAT YtcigggffaofkhaaProg.lean LOADS. Nothing in Lean hashes anything: it is a label: what it is worth is what the hold of that sum in a sandbox is worth. -/
noncomputable def Try.pinned : Pinned := { name := "ytcigggffaofkhaa", sum := "2ba3c38cafcc7e836f9ccc75a86a48399bb97c2328fd6f217a0f47fdf99692d5", checked := Try.checked }
namespace Rows
def none {H : Type} : Left H := { results := [], args := [] }

/-- 'saplinglaw12.RecipeNames': WHATEVER THE INPUT: true; the input reads as it did. -/
def recipeNamesSpec : ChangeSpec := { name := "recipeNames", fn := fun _ => fun
  | [d] => { results := [.lit (.bool true)], args := [d] }
  | _ => none }
def recipeNamesRow : OpenClaim := { program := "ytcigggffaofkhaa", sum := "2ba3c38cafcc7e836f9ccc75a86a48399bb97c2328fd6f217a0f47fdf99692d5", func := "sapling/saplinglaw12.RecipeNames", spec := "recipeNames", inPlace := ["internal/bytealg.IndexByteString"], unfollowed := true, recurses := true, apart := false }
def RecipeNamesSaid : Prop := recipeNamesRow.holds Try.pinned (OpenSpec.ofChange recipeNamesSpec)

/-- ITS FALSE NEIGHBOUR: 'it returns false'. Refute it at one input. -/
def recipeNamesWrong : ChangeSpec := { name := "recipeNames", fn := fun _ => fun
  | [d] => { results := [.lit (.bool false)], args := [d] }
  | _ => none }
def RecipeNamesWrongFalsely : Prop := recipeNamesRow.holds Try.pinned (OpenSpec.ofChange recipeNamesWrong)

/-- 'saplinglaw12.RecipeParses': WHATEVER THE INPUT: true; the input reads as it did. -/
def recipeParsesSpec : ChangeSpec := { name := "recipeParses", fn := fun _ => fun
  | [d] => { results := [.lit (.bool true)], args := [d] }
  | _ => none }
def recipeParsesRow : OpenClaim := { program := "ytcigggffaofkhaa", sum := "2ba3c38cafcc7e836f9ccc75a86a48399bb97c2328fd6f217a0f47fdf99692d5", func := "sapling/saplinglaw12.RecipeParses", spec := "recipeParses", inPlace := ["internal/bytealg.IndexByteString"], unfollowed := true, recurses := true, apart := false }
def RecipeParsesSaid : Prop := recipeParsesRow.holds Try.pinned (OpenSpec.ofChange recipeParsesSpec)

/-- ITS FALSE NEIGHBOUR: 'it returns false'. Refute it at one input. -/
def recipeParsesWrong : ChangeSpec := { name := "recipeParses", fn := fun _ => fun
  | [d] => { results := [.lit (.bool false)], args := [d] }
  | _ => none }
def RecipeParsesWrongFalsely : Prop := recipeParsesRow.holds Try.pinned (OpenSpec.ofChange recipeParsesWrong)

/-- 'saplinglaw12.RecipeNotes': WHATEVER THE INPUT: true; the input reads as it did. -/
def recipeNotesSpec : ChangeSpec := { name := "recipeNotes", fn := fun _ => fun
  | [d1, d2, d3] => { results := [.lit (.bool true)], args := [d1, d2, d3] }
  | _ => none }
def recipeNotesRow : OpenClaim := { program := "ytcigggffaofkhaa", sum := "2ba3c38cafcc7e836f9ccc75a86a48399bb97c2328fd6f217a0f47fdf99692d5", func := "sapling/saplinglaw12.RecipeNotes", spec := "recipeNotes", inPlace := ["internal/bytealg.IndexByteString"], unfollowed := true, recurses := true, apart := false }
def RecipeNotesSaid : Prop := recipeNotesRow.holds Try.pinned (OpenSpec.ofChange recipeNotesSpec)

/-- ITS FALSE NEIGHBOUR: 'it returns false'. Refute it at one input. -/
def recipeNotesWrong : ChangeSpec := { name := "recipeNotes", fn := fun _ => fun
  | [d1, d2, d3] => { results := [.lit (.bool false)], args := [d1, d2, d3] }
  | _ => none }
def RecipeNotesWrongFalsely : Prop := recipeNotesRow.holds Try.pinned (OpenSpec.ofChange recipeNotesWrong)

/-- 'saplinglaw12.RecipePrints': WHATEVER THE INPUT: true; the input reads as it did. -/
def recipePrintsSpec : ChangeSpec := { name := "recipePrints", fn := fun _ => fun
  | [d] => { results := [.lit (.bool true)], args := [d] }
  | _ => none }
def recipePrintsRow : OpenClaim := { program := "ytcigggffaofkhaa", sum := "2ba3c38cafcc7e836f9ccc75a86a48399bb97c2328fd6f217a0f47fdf99692d5", func := "sapling/saplinglaw12.RecipePrints", spec := "recipePrints", inPlace := ["internal/bytealg.IndexByteString"], unfollowed := true, recurses := true, loops := true, apart := false }
def RecipePrintsSaid : Prop := recipePrintsRow.holds Try.pinned (OpenSpec.ofChange recipePrintsSpec)

/-- ITS FALSE NEIGHBOUR: 'it returns false'. Refute it at one input. -/
def recipePrintsWrong : ChangeSpec := { name := "recipePrints", fn := fun _ => fun
  | [d] => { results := [.lit (.bool false)], args := [d] }
  | _ => none }
def RecipePrintsWrongFalsely : Prop := recipePrintsRow.holds Try.pinned (OpenSpec.ofChange recipePrintsWrong)

/-- 'saplinglaw12.RecipeBack': WHATEVER THE INPUT: true; the input reads as it did. -/
def recipeBackSpec : ChangeSpec := { name := "recipeBack", fn := fun _ => fun
  | [d1, d2] => { results := [.lit (.bool true)], args := [d1, d2] }
  | _ => none }
def recipeBackRow : OpenClaim := { program := "ytcigggffaofkhaa", sum := "2ba3c38cafcc7e836f9ccc75a86a48399bb97c2328fd6f217a0f47fdf99692d5", func := "sapling/saplinglaw12.RecipeBack", spec := "recipeBack", inPlace := ["internal/bytealg.IndexByteString"], unfollowed := true, recurses := true, loops := true, apart := false }
def RecipeBackSaid : Prop := recipeBackRow.holds Try.pinned (OpenSpec.ofChange recipeBackSpec)

/-- ITS FALSE NEIGHBOUR: 'it returns false'. Refute it at one input. -/
def recipeBackWrong : ChangeSpec := { name := "recipeBack", fn := fun _ => fun
  | [d1, d2] => { results := [.lit (.bool false)], args := [d1, d2] }
  | _ => none }
def RecipeBackWrongFalsely : Prop := recipeBackRow.holds Try.pinned (OpenSpec.ofChange recipeBackWrong)

/-- 'saplinglaw12.RecipeFields': WHATEVER THE INPUT: true; the input reads as it did. -/
def recipeFieldsSpec : ChangeSpec := { name := "recipeFields", fn := fun _ => fun
  | [d1, d2] => { results := [.lit (.bool true)], args := [d1, d2] }
  | _ => none }
def recipeFieldsRow : OpenClaim := { program := "ytcigggffaofkhaa", sum := "2ba3c38cafcc7e836f9ccc75a86a48399bb97c2328fd6f217a0f47fdf99692d5", func := "sapling/saplinglaw12.RecipeFields", spec := "recipeFields", inPlace := ["internal/bytealg.IndexByteString"], unfollowed := true, recurses := true, loops := true, apart := false }
def RecipeFieldsSaid : Prop := recipeFieldsRow.holds Try.pinned (OpenSpec.ofChange recipeFieldsSpec)

/-- ITS FALSE NEIGHBOUR: 'it returns false'. Refute it at one input. -/
def recipeFieldsWrong : ChangeSpec := { name := "recipeFields", fn := fun _ => fun
  | [d1, d2] => { results := [.lit (.bool false)], args := [d1, d2] }
  | _ => none }
def RecipeFieldsWrongFalsely : Prop := recipeFieldsRow.holds Try.pinned (OpenSpec.ofChange recipeFieldsWrong)

/- THE SECOND FORM. 'bulk': how many values and letters a reading holds, each counted each time it is reached (what is shared counts as often as it is met; a slice's spare places count too). A statement '..UptoSaid' is the law's where the arguments, and the package variables that the reading takes, are together of bulk at most 1048576: NARROWER than '..Said'. Prove '..Said' where nothing that the law and all that it calls make is longer than what came in: it says more and counts as full. Else prove '..UptoSaid'. A law counts once. -/
mutual
def uptoBulk {H : Type} : DataW H → Nat
  | .lit (.string bytes) => bytes.length + 1
  | .lit _ => 1
  | .nil => 1
  | .ptr d => uptoBulk d + 1
  | .slice elems spare => uptoBulkAll elems + uptoBulkAll spare + 1
  | .agg parts => uptoBulkAll parts + 1
  | .iface _ d => uptoBulk d + 1
  | .map entries => uptoBulkEntries entries + 1
  | .held _ => 1
def uptoBulkAll {H : Type} : List (DataW H) → Nat
  | [] => 0
  | d :: r => uptoBulk d + uptoBulkAll r
def uptoBulkEntries {H : Type} : List (Lit × DataW H) → Nat
  | [] => 0
  | x :: r => uptoBulkEntry x + uptoBulkEntries r
def uptoBulkEntry {H : Type} : Lit × DataW H → Nat
  | (.string bytes, d) => bytes.length + uptoBulk d + 1
  | (_, d) => uptoBulk d + 1
 end
def uptoSmall : (H : Type) → List (DataW H) → Bool := fun _ ds => decide (uptoBulkAll ds ≤ 1048576)
def OpenSpec.upto (s : _root_.Go.ChangeSpec) : _root_.Go.OpenSpec := { _root_.Go.OpenSpec.ofChange s with cond := some uptoSmall }

/-- 'saplinglaw12.RecipeNames', WHERE WHAT IT READS IS OF BULK AT MOST 1048576: true; the input reads as it did. -/
def recipeNamesUptoRow : OpenClaim := { program := "ytcigggffaofkhaa", sum := "2ba3c38cafcc7e836f9ccc75a86a48399bb97c2328fd6f217a0f47fdf99692d5", func := "sapling/saplinglaw12.RecipeNames", spec := "recipeNames", inPlace := ["internal/bytealg.IndexByteString"], unfollowed := true, recurses := true, apart := false, narrowed := true }
def RecipeNamesUptoSaid : Prop := recipeNamesUptoRow.holds Try.pinned (OpenSpec.upto recipeNamesSpec)

/-- 'saplinglaw12.RecipeParses', WHERE WHAT IT READS IS OF BULK AT MOST 1048576: true; the input reads as it did. -/
def recipeParsesUptoRow : OpenClaim := { program := "ytcigggffaofkhaa", sum := "2ba3c38cafcc7e836f9ccc75a86a48399bb97c2328fd6f217a0f47fdf99692d5", func := "sapling/saplinglaw12.RecipeParses", spec := "recipeParses", inPlace := ["internal/bytealg.IndexByteString"], unfollowed := true, recurses := true, apart := false, narrowed := true }
def RecipeParsesUptoSaid : Prop := recipeParsesUptoRow.holds Try.pinned (OpenSpec.upto recipeParsesSpec)

/-- 'saplinglaw12.RecipeNotes', WHERE WHAT IT READS IS OF BULK AT MOST 1048576: true; the input reads as it did. -/
def recipeNotesUptoRow : OpenClaim := { program := "ytcigggffaofkhaa", sum := "2ba3c38cafcc7e836f9ccc75a86a48399bb97c2328fd6f217a0f47fdf99692d5", func := "sapling/saplinglaw12.RecipeNotes", spec := "recipeNotes", inPlace := ["internal/bytealg.IndexByteString"], unfollowed := true, recurses := true, apart := false, narrowed := true }
def RecipeNotesUptoSaid : Prop := recipeNotesUptoRow.holds Try.pinned (OpenSpec.upto recipeNotesSpec)

/-- 'saplinglaw12.RecipePrints', WHERE WHAT IT READS IS OF BULK AT MOST 1048576: true; the input reads as it did. -/
def recipePrintsUptoRow : OpenClaim := { program := "ytcigggffaofkhaa", sum := "2ba3c38cafcc7e836f9ccc75a86a48399bb97c2328fd6f217a0f47fdf99692d5", func := "sapling/saplinglaw12.RecipePrints", spec := "recipePrints", inPlace := ["internal/bytealg.IndexByteString"], unfollowed := true, recurses := true, loops := true, apart := false, narrowed := true }
def RecipePrintsUptoSaid : Prop := recipePrintsUptoRow.holds Try.pinned (OpenSpec.upto recipePrintsSpec)

/-- 'saplinglaw12.RecipeBack', WHERE WHAT IT READS IS OF BULK AT MOST 1048576: true; the input reads as it did. -/
def recipeBackUptoRow : OpenClaim := { program := "ytcigggffaofkhaa", sum := "2ba3c38cafcc7e836f9ccc75a86a48399bb97c2328fd6f217a0f47fdf99692d5", func := "sapling/saplinglaw12.RecipeBack", spec := "recipeBack", inPlace := ["internal/bytealg.IndexByteString"], unfollowed := true, recurses := true, loops := true, apart := false, narrowed := true }
def RecipeBackUptoSaid : Prop := recipeBackUptoRow.holds Try.pinned (OpenSpec.upto recipeBackSpec)

/-- 'saplinglaw12.RecipeFields', WHERE WHAT IT READS IS OF BULK AT MOST 1048576: true; the input reads as it did. -/
def recipeFieldsUptoRow : OpenClaim := { program := "ytcigggffaofkhaa", sum := "2ba3c38cafcc7e836f9ccc75a86a48399bb97c2328fd6f217a0f47fdf99692d5", func := "sapling/saplinglaw12.RecipeFields", spec := "recipeFields", inPlace := ["internal/bytealg.IndexByteString"], unfollowed := true, recurses := true, loops := true, apart := false, narrowed := true }
def RecipeFieldsUptoSaid : Prop := recipeFieldsUptoRow.holds Try.pinned (OpenSpec.upto recipeFieldsSpec)

end Rows
end Go.Proofs.Ytcigggffaofkhaa
