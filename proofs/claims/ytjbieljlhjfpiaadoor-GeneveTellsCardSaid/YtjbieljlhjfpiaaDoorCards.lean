/-
  DERIVED. GIVEN WITH THE SEED: THE CARDS: each row of YtjbieljlhjfpiaaDoorRows.lean that lists a variable, with what it lists TIED to the program's text (the seventh form; the later family's looks); each row that meets fmt, with fmt's text TOLD by the authors' own Lean function (tested against real Go, not proved from fmt's source: count such statements apart). THE CARD IS WHAT COUNTS. Prove the row's statement (the work); the ties are given (YtjbieljlhjfpiaaDoorTie.lean); close each card by the builder's one call (the guide's Derived/Test/ToyasCard.lean, 'card_holds'). Laid BY PROGRAM, IN A SANDBOX (cutbox-door.mjs). By AI agents, Wed Nov 11 2026. No macro, syntax, notation, axiom, sorry.
-/
import Derived.Test.YtjbieljlhjfpiaaDoorRows
import GoSem.ClaimSeven
namespace Go.Proofs.YtjbieljlhjfpiaaDoor
namespace Rows

/-- THE TIED CARD OF 'underpasslaw12.GeneveTells'. -/
def geneveTellsCard : Claim7 := { stood := { row := geneveTellsRow, standIns := [], harness := (true, "359dc64ab45e72e892bb00de9bd85794835fdd36b41726ad97639b46cc994ef7"), looks := true }, kinds := [], alts := [], laidByText := true, laidKinds := [.data, .data, .data, .handle], laidTests := true, laidLooks := .later }
def GeneveTellsCardSaid : Prop := Claim7.holds Tryd.pinned (.plain (OpenSpec.ofChange geneveTellsSpec)) geneveTellsCard

/-- THE TIED CARD OF 'underpasslaw12.GeneveRight'. -/
def geneveRightCard : Claim7 := { stood := { row := geneveRightRow, standIns := [], harness := (true, "359dc64ab45e72e892bb00de9bd85794835fdd36b41726ad97639b46cc994ef7"), looks := true }, kinds := [], alts := [], laidByText := true, laidKinds := [.handle], laidTests := true, laidLooks := .later }
def GeneveRightCardSaid : Prop := Claim7.holds Tryd.pinned (.plain (OpenSpec.ofChange geneveRightSpec)) geneveRightCard

/-- THE SECOND FORM's CARD OF 'underpasslaw12.GeneveTells'. -/
def geneveTellsUptoCard : Claim7 := { stood := { row := geneveTellsUptoRow, standIns := [], harness := (true, "359dc64ab45e72e892bb00de9bd85794835fdd36b41726ad97639b46cc994ef7"), looks := true }, kinds := [], alts := [], laidByText := true, laidKinds := [.data, .data, .data, .handle], laidTests := true, laidLooks := .later }
def GeneveTellsUptoCardSaid : Prop := Claim7.holds Tryd.pinned (.plain (OpenSpec.upto geneveTellsSpec)) geneveTellsUptoCard

/-- THE SECOND FORM's CARD OF 'underpasslaw12.GeneveRight'. -/
def geneveRightUptoCard : Claim7 := { stood := { row := geneveRightUptoRow, standIns := [], harness := (true, "359dc64ab45e72e892bb00de9bd85794835fdd36b41726ad97639b46cc994ef7"), looks := true }, kinds := [], alts := [], laidByText := true, laidKinds := [.handle], laidTests := true, laidLooks := .later }
def GeneveRightUptoCardSaid : Prop := Claim7.holds Tryd.pinned (.plain (OpenSpec.upto geneveRightSpec)) geneveRightUptoCard
end Rows
end Go.Proofs.YtjbieljlhjfpiaaDoor
