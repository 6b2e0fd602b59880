/-
  DERIVED. GIVEN WITH THE SEED: THE CARDS: each row of YtlphlaenecidiaaDoorRows.lean that lists a variable, with what it lists TIED to the program's text (the seventh form; the later family's looks); each row that meets fmt, with fmt's text TOLD by the authors' own Lean function (tested against real Go, not proved from fmt's source: count such statements apart). THE CARD IS WHAT COUNTS. Prove the row's statement (the work); the ties are given (YtlphlaenecidiaaDoorTie.lean); close each card by the builder's one call (the guide's Derived/Test/ToyasCard.lean, 'card_holds'). Laid BY PROGRAM, IN A SANDBOX (cutbox-door.mjs). By AI agents, Wed Nov 11 2026. No macro, syntax, notation, axiom, sorry.
-/
import Derived.Test.YtlphlaenecidiaaDoorRows
import GoSem.ClaimSeven
namespace Go.Proofs.YtlphlaenecidiaaDoor
namespace Rows

/-- THE TIED CARD OF 'besomlaw17.ScriptParses'. -/
def scriptParsesCard : Claim7 := { stood := { row := scriptParsesRow, standIns := [], harness := (true, "b0625a82f3ab108ac06f3e5a00d453b2774ce6ced41bf7131daac876e44fe0c5"), looks := true }, kinds := [], alts := [], laidByText := true, laidKinds := [.data, .data, .data, .data, .sentinel, .sentinel, .widerDeep, .data, .pinned], laidTests := true, laidLooks := .later }
def ScriptParsesCardSaid : Prop := Claim7.holds Tryd.pinned (.plain (OpenSpec.ofChange scriptParsesSpec)) scriptParsesCard

/-- THE TIED CARD OF 'besomlaw17.ScriptTexts'. -/
def scriptTextsCard : Claim7 := { stood := { row := scriptTextsRow, standIns := [], harness := (true, "b0625a82f3ab108ac06f3e5a00d453b2774ce6ced41bf7131daac876e44fe0c5"), looks := true }, kinds := [], alts := [], laidByText := true, laidKinds := [.data, .data, .data, .data, .sentinel, .sentinel, .widerDeep, .data, .pinned], laidTests := true, laidLooks := .later }
def ScriptTextsCardSaid : Prop := Claim7.holds Tryd.pinned (.plain (OpenSpec.ofChange scriptTextsSpec)) scriptTextsCard

/-- THE TIED CARD OF 'besomlaw17.ScriptOthers'. -/
def scriptOthersCard : Claim7 := { stood := { row := scriptOthersRow, standIns := [], harness := (true, "b0625a82f3ab108ac06f3e5a00d453b2774ce6ced41bf7131daac876e44fe0c5"), looks := true }, kinds := [], alts := [], laidByText := true, laidKinds := [.data, .data, .data, .data, .sentinel, .sentinel, .widerDeep, .data, .pinned], laidTests := true, laidLooks := .later }
def ScriptOthersCardSaid : Prop := Claim7.holds Tryd.pinned (.plain (OpenSpec.ofChange scriptOthersSpec)) scriptOthersCard

/-- THE TIED CARD OF 'besomlaw17.ScriptAlls'. -/
def scriptAllsCard : Claim7 := { stood := { row := scriptAllsRow, standIns := [], harness := (true, "b0625a82f3ab108ac06f3e5a00d453b2774ce6ced41bf7131daac876e44fe0c5"), looks := true }, kinds := [], alts := [], laidByText := true, laidKinds := [.data, .data, .data, .data, .sentinel, .sentinel, .widerDeep, .data, .pinned], laidTests := true, laidLooks := .later }
def ScriptAllsCardSaid : Prop := Claim7.holds Tryd.pinned (.plain (OpenSpec.ofChange scriptAllsSpec)) scriptAllsCard

/-- THE TIED CARD OF 'besomlaw17.ScriptJoins'. -/
def scriptJoinsCard : Claim7 := { stood := { row := scriptJoinsRow, standIns := [], harness := (true, "b0625a82f3ab108ac06f3e5a00d453b2774ce6ced41bf7131daac876e44fe0c5"), looks := true }, kinds := [], alts := [], laidByText := true, laidKinds := [.data, .data, .data, .data, .sentinel, .sentinel, .widerDeep, .data, .pinned], laidTests := true, laidLooks := .later }
def ScriptJoinsCardSaid : Prop := Claim7.holds Tryd.pinned (.plain (OpenSpec.ofChange scriptJoinsSpec)) scriptJoinsCard

/-- THE SECOND FORM's CARD OF 'besomlaw17.ScriptParses'. -/
def scriptParsesUptoCard : Claim7 := { stood := { row := scriptParsesUptoRow, standIns := [], harness := (true, "b0625a82f3ab108ac06f3e5a00d453b2774ce6ced41bf7131daac876e44fe0c5"), looks := true }, kinds := [], alts := [], laidByText := true, laidKinds := [.data, .data, .data, .data, .sentinel, .sentinel, .widerDeep, .data, .pinned], laidTests := true, laidLooks := .later }
def ScriptParsesUptoCardSaid : Prop := Claim7.holds Tryd.pinned (.plain (OpenSpec.upto scriptParsesSpec)) scriptParsesUptoCard

/-- THE SECOND FORM's CARD OF 'besomlaw17.ScriptTexts'. -/
def scriptTextsUptoCard : Claim7 := { stood := { row := scriptTextsUptoRow, standIns := [], harness := (true, "b0625a82f3ab108ac06f3e5a00d453b2774ce6ced41bf7131daac876e44fe0c5"), looks := true }, kinds := [], alts := [], laidByText := true, laidKinds := [.data, .data, .data, .data, .sentinel, .sentinel, .widerDeep, .data, .pinned], laidTests := true, laidLooks := .later }
def ScriptTextsUptoCardSaid : Prop := Claim7.holds Tryd.pinned (.plain (OpenSpec.upto scriptTextsSpec)) scriptTextsUptoCard

/-- THE SECOND FORM's CARD OF 'besomlaw17.ScriptOthers'. -/
def scriptOthersUptoCard : Claim7 := { stood := { row := scriptOthersUptoRow, standIns := [], harness := (true, "b0625a82f3ab108ac06f3e5a00d453b2774ce6ced41bf7131daac876e44fe0c5"), looks := true }, kinds := [], alts := [], laidByText := true, laidKinds := [.data, .data, .data, .data, .sentinel, .sentinel, .widerDeep, .data, .pinned], laidTests := true, laidLooks := .later }
def ScriptOthersUptoCardSaid : Prop := Claim7.holds Tryd.pinned (.plain (OpenSpec.upto scriptOthersSpec)) scriptOthersUptoCard

/-- THE SECOND FORM's CARD OF 'besomlaw17.ScriptAlls'. -/
def scriptAllsUptoCard : Claim7 := { stood := { row := scriptAllsUptoRow, standIns := [], harness := (true, "b0625a82f3ab108ac06f3e5a00d453b2774ce6ced41bf7131daac876e44fe0c5"), looks := true }, kinds := [], alts := [], laidByText := true, laidKinds := [.data, .data, .data, .data, .sentinel, .sentinel, .widerDeep, .data, .pinned], laidTests := true, laidLooks := .later }
def ScriptAllsUptoCardSaid : Prop := Claim7.holds Tryd.pinned (.plain (OpenSpec.upto scriptAllsSpec)) scriptAllsUptoCard

/-- THE SECOND FORM's CARD OF 'besomlaw17.ScriptJoins'. -/
def scriptJoinsUptoCard : Claim7 := { stood := { row := scriptJoinsUptoRow, standIns := [], harness := (true, "b0625a82f3ab108ac06f3e5a00d453b2774ce6ced41bf7131daac876e44fe0c5"), looks := true }, kinds := [], alts := [], laidByText := true, laidKinds := [.data, .data, .data, .data, .sentinel, .sentinel, .widerDeep, .data, .pinned], laidTests := true, laidLooks := .later }
def ScriptJoinsUptoCardSaid : Prop := Claim7.holds Tryd.pinned (.plain (OpenSpec.upto scriptJoinsSpec)) scriptJoinsUptoCard
end Rows
end Go.Proofs.YtlphlaenecidiaaDoor
