/-
  DERIVED. GIVEN WITH THE SEED: THE CARDS: each row of YtapjajclmbpjmaaGreatDoorRows.lean that lists a variable, with what it lists TIED to the program's text (the seventh form; the later family's looks); each row that meets fmt, with fmt's text TOLD by the authors' own Lean function (tested against real Go, not proved from fmt's source: count such statements apart). THE CARD IS WHAT COUNTS. Prove the row's statement (the work); the ties are given (YtapjajclmbpjmaaGreatDoorTie.lean); close each card by the builder's one call (the guide's Derived/Test/ToyasCard.lean, 'card_holds'). Laid BY PROGRAM, IN A SANDBOX (cutbox-door.mjs). By AI agents, Wed Nov 11 2026. No macro, syntax, notation, axiom, sorry.
-/
import Derived.Test.YtapjajclmbpjmaaGreatDoorRows
import GoSem.ClaimSeven
namespace Go.Proofs.YtapjajclmbpjmaaGreatDoor
namespace Rows

/-- THE TIED CARD OF 'besomlaw20.KeeperNews'. -/
def keeperNewsCard : Claim7 := { stood := { row := keeperNewsRow, standIns := [], harness := (true, "48ef3b647706eb7dd12dc9ea71f2744efbd215fcc3d49af4d259fd18b60b88cb"), looks := false }, kinds := [], alts := [], laidByText := true, laidKinds := [.data], laidTests := true, laidLooks := .later }
def KeeperNewsCardSaid : Prop := Claim7.holds Tryz.pinned (.plain (OpenSpec.ofChange keeperNewsSpec)) keeperNewsCard

/-- THE TIED CARD OF 'besomlaw18.SystemNews'. -/
def systemNewsCard : Claim7 := { stood := { row := systemNewsRow, standIns := [], harness := (true, "48ef3b647706eb7dd12dc9ea71f2744efbd215fcc3d49af4d259fd18b60b88cb"), looks := false }, kinds := [], alts := [], laidByText := true, laidKinds := [.data], laidTests := true, laidLooks := .later }
def SystemNewsCardSaid : Prop := Claim7.holds Tryz.pinned (.plain (OpenSpec.ofChange systemNewsSpec)) systemNewsCard

/-- THE SECOND FORM's CARD OF 'besomlaw20.KeeperNews'. -/
def keeperNewsUptoCard : Claim7 := { stood := { row := keeperNewsUptoRow, standIns := [], harness := (true, "48ef3b647706eb7dd12dc9ea71f2744efbd215fcc3d49af4d259fd18b60b88cb"), looks := false }, kinds := [], alts := [], laidByText := true, laidKinds := [.data], laidTests := true, laidLooks := .later }
def KeeperNewsUptoCardSaid : Prop := Claim7.holds Tryz.pinned (.plain (OpenSpec.upto keeperNewsSpec)) keeperNewsUptoCard

/-- THE SECOND FORM's CARD OF 'besomlaw18.SystemNews'. -/
def systemNewsUptoCard : Claim7 := { stood := { row := systemNewsUptoRow, standIns := [], harness := (true, "48ef3b647706eb7dd12dc9ea71f2744efbd215fcc3d49af4d259fd18b60b88cb"), looks := false }, kinds := [], alts := [], laidByText := true, laidKinds := [.data], laidTests := true, laidLooks := .later }
def SystemNewsUptoCardSaid : Prop := Claim7.holds Tryz.pinned (.plain (OpenSpec.upto systemNewsSpec)) systemNewsUptoCard
end Rows
end Go.Proofs.YtapjajclmbpjmaaGreatDoor
