/-
  DERIVED. GIVEN WITH THE SEED: THE CARDS: each row of YticebdoiahadoaaDoorRows.lean that lists a variable, with what it lists TIED to the program's text (the seventh form; the later family's looks); each row that meets fmt, with fmt's text TOLD by the authors' own Lean function (tested against real Go, not proved from fmt's source: count such statements apart). THE CARD IS WHAT COUNTS. Prove the row's statement (the work); the ties are given (YticebdoiahadoaaDoorTie.lean); close each card by the builder's one call (the guide's Derived/Test/ToyasCard.lean, 'card_holds'). Laid BY PROGRAM, IN A SANDBOX (cutbox-door.mjs). By AI agents, Wed Nov 11 2026. No macro, syntax, notation, axiom, sorry.
-/
import Derived.Test.YticebdoiahadoaaDoorRows
import GoSem.ClaimSeven
namespace Go.Proofs.YticebdoiahadoaaDoor
namespace Rows

/-- THE TIED CARD OF 'underpasslaw16.BridgeMoves'. -/
def bridgeMovesCard : Claim7 := { stood := { row := bridgeMovesRow, standIns := [], harness := (true, "c163918c275f0028e745837acefcaf5844e2f86ef14a19470274749db65954b9"), looks := false }, kinds := [], alts := [], laidByText := true, laidKinds := [.data], laidTests := true, laidLooks := .later }
def BridgeMovesCardSaid : Prop := Claim7.holds Tryd.pinned (.plain (OpenSpec.ofChange bridgeMovesSpec)) bridgeMovesCard

/-- THE SECOND FORM's CARD OF 'underpasslaw16.BridgeMoves'. -/
def bridgeMovesUptoCard : Claim7 := { stood := { row := bridgeMovesUptoRow, standIns := [], harness := (true, "c163918c275f0028e745837acefcaf5844e2f86ef14a19470274749db65954b9"), looks := false }, kinds := [], alts := [], laidByText := true, laidKinds := [.data], laidTests := true, laidLooks := .later }
def BridgeMovesUptoCardSaid : Prop := Claim7.holds Tryd.pinned (.plain (OpenSpec.upto bridgeMovesSpec)) bridgeMovesUptoCard
end Rows
end Go.Proofs.YticebdoiahadoaaDoor
