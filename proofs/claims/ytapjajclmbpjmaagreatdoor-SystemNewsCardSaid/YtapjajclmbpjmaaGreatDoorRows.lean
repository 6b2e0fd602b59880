/-
  NARROWER THAN 'FOR EVERY INPUT', by the rows' own cells (each row's printed sentence says how): KeeperNews: laid · SystemNews: laid.
  DERIVED. THE GIVEN ROWS OF THIS SEAT. 2 by the template 'for every input the law returns true; each argument reads behind the call as it read before'; 0 by the template 'total and deterministic' (their statements: YtapjajclmbpjmaaGreatDoorTotals.lean).
  GIVEN WITH THE SEED: the statements are not yours to turn. If you find one false, say at which input.
  Laid BY PROGRAM, IN A SANDBOX (cutbox-rows.mjs): the forced cells as the released guide's own fill.sh prints them over the translation df1c32296b11a860… (all of the seat's roots in one cut). By AI agents, Wed Nov 11 2026. No macro, syntax, notation, axiom, sorry.
-/
import Derived.Test.YtapjajclmbpjmaaGreatDoorChecked
import GoSem.Claim
import GoSem.ClaimJoined
import GoSem.ClaimMapViews
import Derived.JoinedTies
import Derived.KernelRfl
namespace Go.Proofs.YtapjajclmbpjmaaGreatDoor
/- THE CELL 'sum', in the pinned program and in every row, IS THE sha256 OF THE DUMP (.gsa) THAT YtapjajclmbpjmaaGreatDoorProg.lean LOADS. Nothing in Lean hashes anything: it is a label: what it is worth is what the hold of that sum in a sandbox is worth. -/
noncomputable def Tryz.pinned : Pinned := { name := "ytapjajclmbpjmaagreatdoor", sum := "df1c32296b11a8600c3bc7fe803f1572a24d9fc2f175beced4c50b6ba5eed040", checked := Tryz.checked }
namespace Rows
def none {H : Type} : Left H := { results := [], args := [] }

/- WHAT THE LISTED PACKAGE-LEVEL VARIABLES READ AS WHEN THE CALL BEGINS. Each datum BY PROGRAM (the guide's laid-datum.mjs) off the statement by which the dump's own 'gosem.cut.vars' lays the variable. In a bare row this is a premise. The card (YtapjajclmbpjmaaGreatDoorCards.lean) ties it to the program's text. -/
def laid_besom_script_many {H : Type} : DataW H := .agg [.lit (.int .i64 0), .lit (.int .i64 4), .lit (.int .i64 0), .lit (.int .i64 1), .lit (.int .i64 0), .lit (.int .i64 2), .lit (.int .i64 3), .lit (.int .i64 3), .lit (.int .i64 2), .lit (.int .i64 0), .lit (.int .i64 2), .lit (.int .i64 0), .lit (.int .i64 0)]

/-- 'besomlaw20.KeeperNews': WHATEVER THE INPUT: true; the input reads as it did. -/
def keeperNewsSpec : ChangeSpec := { name := "keeperNews", fn := fun _ => fun
  | [d] => { results := [.lit (.bool true)], args := [d] }
  | _ => none }
def keeperNewsRow : OpenClaim := { program := "ytapjajclmbpjmaagreatdoor", sum := "df1c32296b11a8600c3bc7fe803f1572a24d9fc2f175beced4c50b6ba5eed040", func := "besom/besomlaw20.KeeperNews", spec := "keeperNews", unfollowed := true, recurses := true, named := ["besom/script.many"], apart := false, laid := [("besom/script.many", laid_besom_script_many)] }
def KeeperNewsSaid : Prop := keeperNewsRow.holds Tryz.pinned (OpenSpec.ofChange keeperNewsSpec)

/-- ITS FALSE NEIGHBOUR: 'it returns false'. Refute it at one input. -/
def keeperNewsWrong : ChangeSpec := { name := "keeperNews", fn := fun _ => fun
  | [d] => { results := [.lit (.bool false)], args := [d] }
  | _ => none }
def KeeperNewsWrongFalsely : Prop := keeperNewsRow.holds Tryz.pinned (OpenSpec.ofChange keeperNewsWrong)

/-- 'besomlaw18.SystemNews': WHATEVER THE INPUT: true; the input reads as it did. -/
def systemNewsSpec : ChangeSpec := { name := "systemNews", fn := fun _ => fun
  | [d] => { results := [.lit (.bool true)], args := [d] }
  | _ => none }
def systemNewsRow : OpenClaim := { program := "ytapjajclmbpjmaagreatdoor", sum := "df1c32296b11a8600c3bc7fe803f1572a24d9fc2f175beced4c50b6ba5eed040", func := "besom/besomlaw18.SystemNews", spec := "systemNews", inPlace := ["math.Float64bits", "math.Float64frombits"], unfollowed := true, recurses := true, named := ["besom/script.many"], apart := false, laid := [("besom/script.many", laid_besom_script_many)] }
def SystemNewsSaid : Prop := systemNewsRow.holds Tryz.pinned (OpenSpec.ofChange systemNewsSpec)

/-- ITS FALSE NEIGHBOUR: 'it returns false'. Refute it at one input. -/
def systemNewsWrong : ChangeSpec := { name := "systemNews", fn := fun _ => fun
  | [d] => { results := [.lit (.bool false)], args := [d] }
  | _ => none }
def SystemNewsWrongFalsely : Prop := systemNewsRow.holds Tryz.pinned (OpenSpec.ofChange systemNewsWrong)

/- THE SECOND FORM. 'bulk': how many values and letters a reading holds, each counted each time it is reached (what is shared counts as often as it is met; a slice's spare places count too). A statement '..UptoSaid' is the law's where the arguments, and the package variables that the reading takes, are together of bulk at most 1048576: NARROWER than '..Said'. Prove '..Said' where nothing that the law and all that it calls make is longer than what came in: it says more and counts as full. Else prove '..UptoSaid'. A law counts once. -/
mutual
def uptoBulk {H : Type} : DataW H → Nat
  | .lit (.string bytes) => bytes.length + 1
  | .lit _ => 1
  | .nil => 1
  | .ptr d => uptoBulk d + 1
  | .slice elems spare => uptoBulkAll elems + uptoBulkAll spare + 1
  | .agg parts => uptoBulkAll parts + 1
  | .iface _ d => uptoBulk d + 1
  | .map entries => uptoBulkEntries entries + 1
  | .held _ => 1
def uptoBulkAll {H : Type} : List (DataW H) → Nat
  | [] => 0
  | d :: r => uptoBulk d + uptoBulkAll r
def uptoBulkEntries {H : Type} : List (Lit × DataW H) → Nat
  | [] => 0
  | x :: r => uptoBulkEntry x + uptoBulkEntries r
def uptoBulkEntry {H : Type} : Lit × DataW H → Nat
  | (.string bytes, d) => bytes.length + uptoBulk d + 1
  | (_, d) => uptoBulk d + 1
 end
def uptoSmall : (H : Type) → List (DataW H) → Bool := fun _ ds => decide (uptoBulkAll ds ≤ 1048576)
def OpenSpec.upto (s : _root_.Go.ChangeSpec) : _root_.Go.OpenSpec := { _root_.Go.OpenSpec.ofChange s with cond := some uptoSmall }

/-- 'besomlaw20.KeeperNews', WHERE WHAT IT READS IS OF BULK AT MOST 1048576: true; the input reads as it did. -/
def keeperNewsUptoRow : OpenClaim := { program := "ytapjajclmbpjmaagreatdoor", sum := "df1c32296b11a8600c3bc7fe803f1572a24d9fc2f175beced4c50b6ba5eed040", func := "besom/besomlaw20.KeeperNews", spec := "keeperNews", unfollowed := true, recurses := true, named := ["besom/script.many"], apart := false, laid := [("besom/script.many", laid_besom_script_many)], narrowed := true }
def KeeperNewsUptoSaid : Prop := keeperNewsUptoRow.holds Tryz.pinned (OpenSpec.upto keeperNewsSpec)

/-- 'besomlaw18.SystemNews', WHERE WHAT IT READS IS OF BULK AT MOST 1048576: true; the input reads as it did. -/
def systemNewsUptoRow : OpenClaim := { program := "ytapjajclmbpjmaagreatdoor", sum := "df1c32296b11a8600c3bc7fe803f1572a24d9fc2f175beced4c50b6ba5eed040", func := "besom/besomlaw18.SystemNews", spec := "systemNews", inPlace := ["math.Float64bits", "math.Float64frombits"], unfollowed := true, recurses := true, named := ["besom/script.many"], apart := false, laid := [("besom/script.many", laid_besom_script_many)], narrowed := true }
def SystemNewsUptoSaid : Prop := systemNewsUptoRow.holds Tryz.pinned (OpenSpec.upto systemNewsSpec)

end Rows
end Go.Proofs.YtapjajclmbpjmaaGreatDoor
