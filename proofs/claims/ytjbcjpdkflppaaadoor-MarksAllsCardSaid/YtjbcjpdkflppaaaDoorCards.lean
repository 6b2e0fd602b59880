/-
  DERIVED. GIVEN WITH THE SEED: THE CARDS: each row of YtjbcjpdkflppaaaDoorRows.lean that lists a variable, with what it lists TIED to the program's text (the seventh form; the later family's looks); each row that meets fmt, with fmt's text TOLD by the authors' own Lean function (tested against real Go, not proved from fmt's source: count such statements apart). THE CARD IS WHAT COUNTS. Prove the row's statement (the work); the ties are given (YtjbcjpdkflppaaaDoorTie.lean); close each card by the builder's one call (the guide's Derived/Test/ToyasCard.lean, 'card_holds'). Laid BY PROGRAM, IN A SANDBOX (cutbox-door.mjs). By AI agents, Wed Nov 11 2026. No macro, syntax, notation, axiom, sorry.
-/
import Derived.Test.YtjbcjpdkflppaaaDoorRows
import GoSem.ClaimSeven
namespace Go.Proofs.YtjbcjpdkflppaaaDoor
namespace Rows

/-- THE TIED CARD OF 'besomlaw04.MarksWalks'. -/
def marksWalksCard : Claim7 := { stood := { row := marksWalksRow, standIns := [], harness := (true, "58530b3983e14a7c16c2018d108825a721fe53ab6fd916fdc7f55c4f93bd7f6c"), looks := false }, kinds := [], alts := [], laidByText := true, laidKinds := [.data], laidTests := true, laidLooks := .later }
def MarksWalksCardSaid : Prop := Claim7.holds Tryd.pinned (.plain (OpenSpec.ofChange marksWalksSpec)) marksWalksCard

/-- THE TIED CARD OF 'besomlaw04.MarksPlays'. -/
def marksPlaysCard : Claim7 := { stood := { row := marksPlaysRow, standIns := [], harness := (true, "58530b3983e14a7c16c2018d108825a721fe53ab6fd916fdc7f55c4f93bd7f6c"), looks := false }, kinds := [], alts := [], laidByText := true, laidKinds := [.data], laidTests := true, laidLooks := .later }
def MarksPlaysCardSaid : Prop := Claim7.holds Tryd.pinned (.plain (OpenSpec.ofChange marksPlaysSpec)) marksPlaysCard

/-- THE TIED CARD OF 'besomlaw04.MarksAlls'. -/
def marksAllsCard : Claim7 := { stood := { row := marksAllsRow, standIns := [], harness := (true, "58530b3983e14a7c16c2018d108825a721fe53ab6fd916fdc7f55c4f93bd7f6c"), looks := false }, kinds := [], alts := [], laidByText := true, laidKinds := [.data], laidTests := true, laidLooks := .later }
def MarksAllsCardSaid : Prop := Claim7.holds Tryd.pinned (.plain (OpenSpec.ofChange marksAllsSpec)) marksAllsCard

/-- THE SECOND FORM's CARD OF 'besomlaw04.MarksWalks'. -/
def marksWalksUptoCard : Claim7 := { stood := { row := marksWalksUptoRow, standIns := [], harness := (true, "58530b3983e14a7c16c2018d108825a721fe53ab6fd916fdc7f55c4f93bd7f6c"), looks := false }, kinds := [], alts := [], laidByText := true, laidKinds := [.data], laidTests := true, laidLooks := .later }
def MarksWalksUptoCardSaid : Prop := Claim7.holds Tryd.pinned (.plain (OpenSpec.upto marksWalksSpec)) marksWalksUptoCard

/-- THE SECOND FORM's CARD OF 'besomlaw04.MarksPlays'. -/
def marksPlaysUptoCard : Claim7 := { stood := { row := marksPlaysUptoRow, standIns := [], harness := (true, "58530b3983e14a7c16c2018d108825a721fe53ab6fd916fdc7f55c4f93bd7f6c"), looks := false }, kinds := [], alts := [], laidByText := true, laidKinds := [.data], laidTests := true, laidLooks := .later }
def MarksPlaysUptoCardSaid : Prop := Claim7.holds Tryd.pinned (.plain (OpenSpec.upto marksPlaysSpec)) marksPlaysUptoCard

/-- THE SECOND FORM's CARD OF 'besomlaw04.MarksAlls'. -/
def marksAllsUptoCard : Claim7 := { stood := { row := marksAllsUptoRow, standIns := [], harness := (true, "58530b3983e14a7c16c2018d108825a721fe53ab6fd916fdc7f55c4f93bd7f6c"), looks := false }, kinds := [], alts := [], laidByText := true, laidKinds := [.data], laidTests := true, laidLooks := .later }
def MarksAllsUptoCardSaid : Prop := Claim7.holds Tryd.pinned (.plain (OpenSpec.upto marksAllsSpec)) marksAllsUptoCard
end Rows
end Go.Proofs.YtjbcjpdkflppaaaDoor
