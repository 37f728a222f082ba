/-
  DERIVED. GIVEN WITH THE SEED: THE CARDS: each row of YtocfmjiollafaaaGreatDoorRows.lean that lists a variable, with what it lists TIED to the program's text (the seventh form; the later family's looks); each row that meets fmt, with fmt's text TOLD by the authors' own Lean function (tested against real Go, not proved from fmt's source: count such statements apart). THE CARD IS WHAT COUNTS. Prove the row's statement (the work); the ties are given (YtocfmjiollafaaaGreatDoorTie.lean); close each card by the builder's one call (the guide's Derived/Test/ToyasCard.lean, 'card_holds'). Laid BY PROGRAM, IN A SANDBOX (cutbox-door.mjs). By AI agents, Wed Nov 11 2026. No macro, syntax, notation, axiom, sorry.
-/
import Derived.Test.YtocfmjiollafaaaGreatDoorRows
import GoSem.ClaimSeven
namespace Go.Proofs.YtocfmjiollafaaaGreatDoor
namespace Rows

/-- THE TIED CARD OF 'umlautlaw25.RecipePrints'. -/
def recipePrintsCard : Claim7 := { stood := { row := recipePrintsRow, standIns := [], harness := (true, "ef155a2afc71f61dc2fd8b018af59eb0237014473646744ee8f804d2602d872a"), looks := true }, kinds := [], alts := [], laidByText := true, laidKinds := [.data, .data, .data, .sentinel, .sentinel], laidTests := true, laidLooks := .later }
def RecipePrintsCardSaid : Prop := Claim7.holds Tryz.pinned (.plain (OpenSpec.ofChange recipePrintsSpec)) recipePrintsCard

/-- THE TIED CARD OF 'umlautlaw25.RecipeLetters'. -/
def recipeLettersCard : Claim7 := { stood := { row := recipeLettersRow, standIns := [], harness := (true, "ef155a2afc71f61dc2fd8b018af59eb0237014473646744ee8f804d2602d872a"), looks := true }, kinds := [], alts := [], laidByText := true, laidKinds := [.data, .data, .data, .sentinel, .sentinel], laidTests := true, laidLooks := .later }
def RecipeLettersCardSaid : Prop := Claim7.holds Tryz.pinned (.plain (OpenSpec.ofChange recipeLettersSpec)) recipeLettersCard

/-- THE TIED CARD OF 'umlautlaw25.RecipeSets'. -/
def recipeSetsCard : Claim7 := { stood := { row := recipeSetsRow, standIns := [], harness := (true, "ef155a2afc71f61dc2fd8b018af59eb0237014473646744ee8f804d2602d872a"), looks := true }, kinds := [], alts := [], laidByText := true, laidKinds := [.data, .data, .data, .sentinel, .sentinel], laidTests := true, laidLooks := .later }
def RecipeSetsCardSaid : Prop := Claim7.holds Tryz.pinned (.plain (OpenSpec.ofChange recipeSetsSpec)) recipeSetsCard

/-- THE TIED CARD OF 'umlautlaw25.RecipeFaults'. -/
def recipeFaultsCard : Claim7 := { stood := { row := recipeFaultsRow, standIns := [], harness := (true, "ef155a2afc71f61dc2fd8b018af59eb0237014473646744ee8f804d2602d872a"), looks := true }, kinds := [], alts := [], laidByText := true, laidKinds := [.data, .data, .data, .sentinel, .sentinel], laidTests := true, laidLooks := .later }
def RecipeFaultsCardSaid : Prop := Claim7.holds Tryz.pinned (.plain (OpenSpec.ofChange recipeFaultsSpec)) recipeFaultsCard

/-- THE SECOND FORM's CARD OF 'umlautlaw25.RecipePrints'. -/
def recipePrintsUptoCard : Claim7 := { stood := { row := recipePrintsUptoRow, standIns := [], harness := (true, "ef155a2afc71f61dc2fd8b018af59eb0237014473646744ee8f804d2602d872a"), looks := true }, kinds := [], alts := [], laidByText := true, laidKinds := [.data, .data, .data, .sentinel, .sentinel], laidTests := true, laidLooks := .later }
def RecipePrintsUptoCardSaid : Prop := Claim7.holds Tryz.pinned (.plain (OpenSpec.upto recipePrintsSpec)) recipePrintsUptoCard

/-- THE SECOND FORM's CARD OF 'umlautlaw25.RecipeLetters'. -/
def recipeLettersUptoCard : Claim7 := { stood := { row := recipeLettersUptoRow, standIns := [], harness := (true, "ef155a2afc71f61dc2fd8b018af59eb0237014473646744ee8f804d2602d872a"), looks := true }, kinds := [], alts := [], laidByText := true, laidKinds := [.data, .data, .data, .sentinel, .sentinel], laidTests := true, laidLooks := .later }
def RecipeLettersUptoCardSaid : Prop := Claim7.holds Tryz.pinned (.plain (OpenSpec.upto recipeLettersSpec)) recipeLettersUptoCard

/-- THE SECOND FORM's CARD OF 'umlautlaw25.RecipeSets'. -/
def recipeSetsUptoCard : Claim7 := { stood := { row := recipeSetsUptoRow, standIns := [], harness := (true, "ef155a2afc71f61dc2fd8b018af59eb0237014473646744ee8f804d2602d872a"), looks := true }, kinds := [], alts := [], laidByText := true, laidKinds := [.data, .data, .data, .sentinel, .sentinel], laidTests := true, laidLooks := .later }
def RecipeSetsUptoCardSaid : Prop := Claim7.holds Tryz.pinned (.plain (OpenSpec.upto recipeSetsSpec)) recipeSetsUptoCard

/-- THE SECOND FORM's CARD OF 'umlautlaw25.RecipeFaults'. -/
def recipeFaultsUptoCard : Claim7 := { stood := { row := recipeFaultsUptoRow, standIns := [], harness := (true, "ef155a2afc71f61dc2fd8b018af59eb0237014473646744ee8f804d2602d872a"), looks := true }, kinds := [], alts := [], laidByText := true, laidKinds := [.data, .data, .data, .sentinel, .sentinel], laidTests := true, laidLooks := .later }
def RecipeFaultsUptoCardSaid : Prop := Claim7.holds Tryz.pinned (.plain (OpenSpec.upto recipeFaultsSpec)) recipeFaultsUptoCard
end Rows
end Go.Proofs.YtocfmjiollafaaaGreatDoor
