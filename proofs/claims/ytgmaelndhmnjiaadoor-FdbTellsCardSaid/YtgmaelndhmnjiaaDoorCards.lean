/-
  DERIVED. GIVEN WITH THE SEED: THE CARDS: each row of YtgmaelndhmnjiaaDoorRows.lean that lists a variable, with what it lists TIED to the program's text (the seventh form; the later family's looks); each row that meets fmt, with fmt's text TOLD by the authors' own Lean function (tested against real Go, not proved from fmt's source: count such statements apart). THE CARD IS WHAT COUNTS. Prove the row's statement (the work); the ties are given (YtgmaelndhmnjiaaDoorTie.lean); close each card by the builder's one call (the guide's Derived/Test/ToyasCard.lean, 'card_holds'). Laid BY PROGRAM, IN A SANDBOX (cutbox-door.mjs). By AI agents, Wed Nov 11 2026. No macro, syntax, notation, axiom, sorry.
-/
import Derived.Test.YtgmaelndhmnjiaaDoorRows
import GoSem.ClaimSeven
namespace Go.Proofs.YtgmaelndhmnjiaaDoor
namespace Rows

/-- THE TIED CARD OF 'underpasslaw15.FdbRoom'. -/
def fdbRoomCard : Claim7 := { stood := { row := fdbRoomRow, standIns := [], harness := (true, "6c6271cd9dc6711dc061e094f66b321be0d574a6fce59af05f3f360709c5c907"), looks := false }, kinds := [], alts := [], laidByText := true, laidKinds := [.data], laidTests := true, laidLooks := .later }
def FdbRoomCardSaid : Prop := Claim7.holds Tryd.pinned (.plain (OpenSpec.ofChange fdbRoomSpec)) fdbRoomCard

/-- THE TIED CARD OF 'underpasslaw15.FdbAges'. -/
def fdbAgesCard : Claim7 := { stood := { row := fdbAgesRow, standIns := [], harness := (true, "6c6271cd9dc6711dc061e094f66b321be0d574a6fce59af05f3f360709c5c907"), looks := false }, kinds := [], alts := [], laidByText := true, laidKinds := [.data], laidTests := true, laidLooks := .later }
def FdbAgesCardSaid : Prop := Claim7.holds Tryd.pinned (.plain (OpenSpec.ofChange fdbAgesSpec)) fdbAgesCard

/-- THE TIED CARD OF 'underpasslaw15.FdbTells'. -/
def fdbTellsCard : Claim7 := { stood := { row := fdbTellsRow, standIns := [], harness := (true, "6c6271cd9dc6711dc061e094f66b321be0d574a6fce59af05f3f360709c5c907"), looks := false }, kinds := [], alts := [], laidByText := true, laidKinds := [.data], laidTests := true, laidLooks := .later }
def FdbTellsCardSaid : Prop := Claim7.holds Tryd.pinned (.plain (OpenSpec.ofChange fdbTellsSpec)) fdbTellsCard

/-- THE TIED CARD OF 'underpasslaw15.FdbStatic'. -/
def fdbStaticCard : Claim7 := { stood := { row := fdbStaticRow, standIns := [], harness := (true, "6c6271cd9dc6711dc061e094f66b321be0d574a6fce59af05f3f360709c5c907"), looks := false }, kinds := [], alts := [], laidByText := true, laidKinds := [.data], laidTests := true, laidLooks := .later }
def FdbStaticCardSaid : Prop := Claim7.holds Tryd.pinned (.plain (OpenSpec.ofChange fdbStaticSpec)) fdbStaticCard

/-- THE TIED CARD OF 'underpasslaw15.FdbForgets'. -/
def fdbForgetsCard : Claim7 := { stood := { row := fdbForgetsRow, standIns := [], harness := (true, "6c6271cd9dc6711dc061e094f66b321be0d574a6fce59af05f3f360709c5c907"), looks := false }, kinds := [], alts := [], laidByText := true, laidKinds := [.data], laidTests := true, laidLooks := .later }
def FdbForgetsCardSaid : Prop := Claim7.holds Tryd.pinned (.plain (OpenSpec.ofChange fdbForgetsSpec)) fdbForgetsCard

/-- THE SECOND FORM's CARD OF 'underpasslaw15.FdbRoom'. -/
def fdbRoomUptoCard : Claim7 := { stood := { row := fdbRoomUptoRow, standIns := [], harness := (true, "6c6271cd9dc6711dc061e094f66b321be0d574a6fce59af05f3f360709c5c907"), looks := false }, kinds := [], alts := [], laidByText := true, laidKinds := [.data], laidTests := true, laidLooks := .later }
def FdbRoomUptoCardSaid : Prop := Claim7.holds Tryd.pinned (.plain (OpenSpec.upto fdbRoomSpec)) fdbRoomUptoCard

/-- THE SECOND FORM's CARD OF 'underpasslaw15.FdbAges'. -/
def fdbAgesUptoCard : Claim7 := { stood := { row := fdbAgesUptoRow, standIns := [], harness := (true, "6c6271cd9dc6711dc061e094f66b321be0d574a6fce59af05f3f360709c5c907"), looks := false }, kinds := [], alts := [], laidByText := true, laidKinds := [.data], laidTests := true, laidLooks := .later }
def FdbAgesUptoCardSaid : Prop := Claim7.holds Tryd.pinned (.plain (OpenSpec.upto fdbAgesSpec)) fdbAgesUptoCard

/-- THE SECOND FORM's CARD OF 'underpasslaw15.FdbTells'. -/
def fdbTellsUptoCard : Claim7 := { stood := { row := fdbTellsUptoRow, standIns := [], harness := (true, "6c6271cd9dc6711dc061e094f66b321be0d574a6fce59af05f3f360709c5c907"), looks := false }, kinds := [], alts := [], laidByText := true, laidKinds := [.data], laidTests := true, laidLooks := .later }
def FdbTellsUptoCardSaid : Prop := Claim7.holds Tryd.pinned (.plain (OpenSpec.upto fdbTellsSpec)) fdbTellsUptoCard

/-- THE SECOND FORM's CARD OF 'underpasslaw15.FdbStatic'. -/
def fdbStaticUptoCard : Claim7 := { stood := { row := fdbStaticUptoRow, standIns := [], harness := (true, "6c6271cd9dc6711dc061e094f66b321be0d574a6fce59af05f3f360709c5c907"), looks := false }, kinds := [], alts := [], laidByText := true, laidKinds := [.data], laidTests := true, laidLooks := .later }
def FdbStaticUptoCardSaid : Prop := Claim7.holds Tryd.pinned (.plain (OpenSpec.upto fdbStaticSpec)) fdbStaticUptoCard

/-- THE SECOND FORM's CARD OF 'underpasslaw15.FdbForgets'. -/
def fdbForgetsUptoCard : Claim7 := { stood := { row := fdbForgetsUptoRow, standIns := [], harness := (true, "6c6271cd9dc6711dc061e094f66b321be0d574a6fce59af05f3f360709c5c907"), looks := false }, kinds := [], alts := [], laidByText := true, laidKinds := [.data], laidTests := true, laidLooks := .later }
def FdbForgetsUptoCardSaid : Prop := Claim7.holds Tryd.pinned (.plain (OpenSpec.upto fdbForgetsSpec)) fdbForgetsUptoCard
end Rows
end Go.Proofs.YtgmaelndhmnjiaaDoor
