/-
  No cell of these rows narrows 'for every input' (looked for: loops, veiled, ifaces, maps, wideKeys, modest, calm, conditions, laid).
  DERIVED. THE GIVEN ROWS OF THIS SEAT. 8 by the template 'for every input the law returns true; each argument reads behind the call as it read before'; 0 by the template 'total and deterministic' (their statements: YtjbcjpdkflppaaaTotals.lean).
  GIVEN WITH THE SEED: the statements are not yours to turn. If you find one false, say at which input.
  Laid BY PROGRAM, IN A SANDBOX (cutbox-rows.mjs): the forced cells as the released guide's own fill.sh prints them over the translation 6737b9d426759c3b… (all of the seat's roots in one cut). By AI agents, Wed Nov 11 2026. No macro, syntax, notation, axiom, sorry.
-/
import Derived.Test.YtjbcjpdkflppaaaChecked
import GoSem.Claim
import GoSem.ClaimJoined
import GoSem.ClaimMapViews
import Derived.JoinedTies
import Derived.KernelRfl
namespace Go.Proofs.Ytjbcjpdkflppaaa
/- THE CELL 'sum', in the pinned program and in every row, IS THE sha256 OF THE DUMP (.gsa) THAT YtjbcjpdkflppaaaProg.lean LOADS. Nothing in Lean hashes anything: it is a label: what it is worth is what the hold of that sum in a sandbox is worth. -/
noncomputable def Try.pinned : Pinned := { name := "ytjbcjpdkflppaaa", sum := "6737b9d426759c3b7dd911f23d005de7e7b0a6a4530d2d6dd6c32337850b2de6", checked := Try.checked }
namespace Rows
def none {H : Type} : Left H := { results := [], args := [] }

/-- 'besomlaw07.TaskOthers': WHATEVER THE INPUT: true; the input reads as it did. -/
def taskOthersSpec : ChangeSpec := { name := "taskOthers", fn := fun _ => fun
  | [d1, d2] => { results := [.lit (.bool true)], args := [d1, d2] }
  | _ => none }
def taskOthersRow : OpenClaim := { program := "ytjbcjpdkflppaaa", sum := "6737b9d426759c3b7dd911f23d005de7e7b0a6a4530d2d6dd6c32337850b2de6", func := "besom/besomlaw07.TaskOthers", spec := "taskOthers", apart := false }
def TaskOthersSaid : Prop := taskOthersRow.holds Try.pinned (OpenSpec.ofChange taskOthersSpec)

/-- ITS FALSE NEIGHBOUR: 'it returns false'. Refute it at one input. -/
def taskOthersWrong : ChangeSpec := { name := "taskOthers", fn := fun _ => fun
  | [d1, d2] => { results := [.lit (.bool false)], args := [d1, d2] }
  | _ => none }
def TaskOthersWrongFalsely : Prop := taskOthersRow.holds Try.pinned (OpenSpec.ofChange taskOthersWrong)

/-- 'besomlaw07.TaskWords': WHATEVER THE INPUT: true; the input reads as it did. -/
def taskWordsSpec : ChangeSpec := { name := "taskWords", fn := fun _ => fun
  | [d] => { results := [.lit (.bool true)], args := [d] }
  | _ => none }
def taskWordsRow : OpenClaim := { program := "ytjbcjpdkflppaaa", sum := "6737b9d426759c3b7dd911f23d005de7e7b0a6a4530d2d6dd6c32337850b2de6", func := "besom/besomlaw07.TaskWords", spec := "taskWords", apart := false }
def TaskWordsSaid : Prop := taskWordsRow.holds Try.pinned (OpenSpec.ofChange taskWordsSpec)

/-- ITS FALSE NEIGHBOUR: 'it returns false'. Refute it at one input. -/
def taskWordsWrong : ChangeSpec := { name := "taskWords", fn := fun _ => fun
  | [d] => { results := [.lit (.bool false)], args := [d] }
  | _ => none }
def TaskWordsWrongFalsely : Prop := taskWordsRow.holds Try.pinned (OpenSpec.ofChange taskWordsWrong)

/-- 'besomlaw07.TaskPacks': WHATEVER THE INPUT: true; the input reads as it did. -/
def taskPacksSpec : ChangeSpec := { name := "taskPacks", fn := fun _ => fun
  | [d] => { results := [.lit (.bool true)], args := [d] }
  | _ => none }
def taskPacksRow : OpenClaim := { program := "ytjbcjpdkflppaaa", sum := "6737b9d426759c3b7dd911f23d005de7e7b0a6a4530d2d6dd6c32337850b2de6", func := "besom/besomlaw07.TaskPacks", spec := "taskPacks", apart := false }
def TaskPacksSaid : Prop := taskPacksRow.holds Try.pinned (OpenSpec.ofChange taskPacksSpec)

/-- ITS FALSE NEIGHBOUR: 'it returns false'. Refute it at one input. -/
def taskPacksWrong : ChangeSpec := { name := "taskPacks", fn := fun _ => fun
  | [d] => { results := [.lit (.bool false)], args := [d] }
  | _ => none }
def TaskPacksWrongFalsely : Prop := taskPacksRow.holds Try.pinned (OpenSpec.ofChange taskPacksWrong)

/-- 'besomlaw04.MarksClears': WHATEVER THE INPUT: true; the input reads as it did. -/
def marksClearsSpec : ChangeSpec := { name := "marksClears", fn := fun _ => fun
  | [d1, d2, d3] => { results := [.lit (.bool true)], args := [d1, d2, d3] }
  | _ => none }
def marksClearsRow : OpenClaim := { program := "ytjbcjpdkflppaaa", sum := "6737b9d426759c3b7dd911f23d005de7e7b0a6a4530d2d6dd6c32337850b2de6", func := "besom/besomlaw04.MarksClears", spec := "marksClears", apart := false }
def MarksClearsSaid : Prop := marksClearsRow.holds Try.pinned (OpenSpec.ofChange marksClearsSpec)

/-- ITS FALSE NEIGHBOUR: 'it returns false'. Refute it at one input. -/
def marksClearsWrong : ChangeSpec := { name := "marksClears", fn := fun _ => fun
  | [d1, d2, d3] => { results := [.lit (.bool false)], args := [d1, d2, d3] }
  | _ => none }
def MarksClearsWrongFalsely : Prop := marksClearsRow.holds Try.pinned (OpenSpec.ofChange marksClearsWrong)

/-- 'besomlaw07.TaskSplits': WHATEVER THE INPUT: true; the input reads as it did. -/
def taskSplitsSpec : ChangeSpec := { name := "taskSplits", fn := fun _ => fun
  | [d1, d2] => { results := [.lit (.bool true)], args := [d1, d2] }
  | _ => none }
def taskSplitsRow : OpenClaim := { program := "ytjbcjpdkflppaaa", sum := "6737b9d426759c3b7dd911f23d005de7e7b0a6a4530d2d6dd6c32337850b2de6", func := "besom/besomlaw07.TaskSplits", spec := "taskSplits", apart := false }
def TaskSplitsSaid : Prop := taskSplitsRow.holds Try.pinned (OpenSpec.ofChange taskSplitsSpec)

/-- ITS FALSE NEIGHBOUR: 'it returns false'. Refute it at one input. -/
def taskSplitsWrong : ChangeSpec := { name := "taskSplits", fn := fun _ => fun
  | [d1, d2] => { results := [.lit (.bool false)], args := [d1, d2] }
  | _ => none }
def TaskSplitsWrongFalsely : Prop := taskSplitsRow.holds Try.pinned (OpenSpec.ofChange taskSplitsWrong)

/-- 'besomlaw07.TaskParts': WHATEVER THE INPUT: true; the input reads as it did. -/
def taskPartsSpec : ChangeSpec := { name := "taskParts", fn := fun _ => fun
  | [d1, d2] => { results := [.lit (.bool true)], args := [d1, d2] }
  | _ => none }
def taskPartsRow : OpenClaim := { program := "ytjbcjpdkflppaaa", sum := "6737b9d426759c3b7dd911f23d005de7e7b0a6a4530d2d6dd6c32337850b2de6", func := "besom/besomlaw07.TaskParts", spec := "taskParts", apart := false }
def TaskPartsSaid : Prop := taskPartsRow.holds Try.pinned (OpenSpec.ofChange taskPartsSpec)

/-- ITS FALSE NEIGHBOUR: 'it returns false'. Refute it at one input. -/
def taskPartsWrong : ChangeSpec := { name := "taskParts", fn := fun _ => fun
  | [d1, d2] => { results := [.lit (.bool false)], args := [d1, d2] }
  | _ => none }
def TaskPartsWrongFalsely : Prop := taskPartsRow.holds Try.pinned (OpenSpec.ofChange taskPartsWrong)

/-- 'besomlaw04.MarksParts': WHATEVER THE INPUT: true; the input reads as it did. -/
def marksPartsSpec : ChangeSpec := { name := "marksParts", fn := fun _ => fun
  | [d1, d2, d3] => { results := [.lit (.bool true)], args := [d1, d2, d3] }
  | _ => none }
def marksPartsRow : OpenClaim := { program := "ytjbcjpdkflppaaa", sum := "6737b9d426759c3b7dd911f23d005de7e7b0a6a4530d2d6dd6c32337850b2de6", func := "besom/besomlaw04.MarksParts", spec := "marksParts", apart := false }
def MarksPartsSaid : Prop := marksPartsRow.holds Try.pinned (OpenSpec.ofChange marksPartsSpec)

/-- ITS FALSE NEIGHBOUR: 'it returns false'. Refute it at one input. -/
def marksPartsWrong : ChangeSpec := { name := "marksParts", fn := fun _ => fun
  | [d1, d2, d3] => { results := [.lit (.bool false)], args := [d1, d2, d3] }
  | _ => none }
def MarksPartsWrongFalsely : Prop := marksPartsRow.holds Try.pinned (OpenSpec.ofChange marksPartsWrong)

/-- 'besomlaw04.MarksOnce': WHATEVER THE INPUT: true; the input reads as it did. -/
def marksOnceSpec : ChangeSpec := { name := "marksOnce", fn := fun _ => fun
  | [d1, d2] => { results := [.lit (.bool true)], args := [d1, d2] }
  | _ => none }
def marksOnceRow : OpenClaim := { program := "ytjbcjpdkflppaaa", sum := "6737b9d426759c3b7dd911f23d005de7e7b0a6a4530d2d6dd6c32337850b2de6", func := "besom/besomlaw04.MarksOnce", spec := "marksOnce", apart := false }
def MarksOnceSaid : Prop := marksOnceRow.holds Try.pinned (OpenSpec.ofChange marksOnceSpec)

/-- ITS FALSE NEIGHBOUR: 'it returns false'. Refute it at one input. -/
def marksOnceWrong : ChangeSpec := { name := "marksOnce", fn := fun _ => fun
  | [d1, d2] => { results := [.lit (.bool false)], args := [d1, d2] }
  | _ => none }
def MarksOnceWrongFalsely : Prop := marksOnceRow.holds Try.pinned (OpenSpec.ofChange marksOnceWrong)

/- THE SECOND FORM. 'bulk': how many values and letters a reading holds, each counted each time it is reached (what is shared counts as often as it is met; a slice's spare places count too). A statement '..UptoSaid' is the law's where the arguments, and the package variables that the reading takes, are together of bulk at most 1048576: NARROWER than '..Said'. Prove '..Said' where nothing that the law and all that it calls make is longer than what came in: it says more and counts as full. Else prove '..UptoSaid'. A law counts once. -/
mutual
def uptoBulk {H : Type} : DataW H → Nat
  | .lit (.string bytes) => bytes.length + 1
  | .lit _ => 1
  | .nil => 1
  | .ptr d => uptoBulk d + 1
  | .slice elems spare => uptoBulkAll elems + uptoBulkAll spare + 1
  | .agg parts => uptoBulkAll parts + 1
  | .iface _ d => uptoBulk d + 1
  | .map entries => uptoBulkEntries entries + 1
  | .held _ => 1
def uptoBulkAll {H : Type} : List (DataW H) → Nat
  | [] => 0
  | d :: r => uptoBulk d + uptoBulkAll r
def uptoBulkEntries {H : Type} : List (Lit × DataW H) → Nat
  | [] => 0
  | x :: r => uptoBulkEntry x + uptoBulkEntries r
def uptoBulkEntry {H : Type} : Lit × DataW H → Nat
  | (.string bytes, d) => bytes.length + uptoBulk d + 1
  | (_, d) => uptoBulk d + 1
 end
def uptoSmall : (H : Type) → List (DataW H) → Bool := fun _ ds => decide (uptoBulkAll ds ≤ 1048576)
def OpenSpec.upto (s : _root_.Go.ChangeSpec) : _root_.Go.OpenSpec := { _root_.Go.OpenSpec.ofChange s with cond := some uptoSmall }

/-- 'besomlaw07.TaskOthers', WHERE WHAT IT READS IS OF BULK AT MOST 1048576: true; the input reads as it did. -/
def taskOthersUptoRow : OpenClaim := { program := "ytjbcjpdkflppaaa", sum := "6737b9d426759c3b7dd911f23d005de7e7b0a6a4530d2d6dd6c32337850b2de6", func := "besom/besomlaw07.TaskOthers", spec := "taskOthers", apart := false, narrowed := true }
def TaskOthersUptoSaid : Prop := taskOthersUptoRow.holds Try.pinned (OpenSpec.upto taskOthersSpec)

/-- 'besomlaw07.TaskWords', WHERE WHAT IT READS IS OF BULK AT MOST 1048576: true; the input reads as it did. -/
def taskWordsUptoRow : OpenClaim := { program := "ytjbcjpdkflppaaa", sum := "6737b9d426759c3b7dd911f23d005de7e7b0a6a4530d2d6dd6c32337850b2de6", func := "besom/besomlaw07.TaskWords", spec := "taskWords", apart := false, narrowed := true }
def TaskWordsUptoSaid : Prop := taskWordsUptoRow.holds Try.pinned (OpenSpec.upto taskWordsSpec)

/-- 'besomlaw07.TaskPacks', WHERE WHAT IT READS IS OF BULK AT MOST 1048576: true; the input reads as it did. -/
def taskPacksUptoRow : OpenClaim := { program := "ytjbcjpdkflppaaa", sum := "6737b9d426759c3b7dd911f23d005de7e7b0a6a4530d2d6dd6c32337850b2de6", func := "besom/besomlaw07.TaskPacks", spec := "taskPacks", apart := false, narrowed := true }
def TaskPacksUptoSaid : Prop := taskPacksUptoRow.holds Try.pinned (OpenSpec.upto taskPacksSpec)

/-- 'besomlaw04.MarksClears', WHERE WHAT IT READS IS OF BULK AT MOST 1048576: true; the input reads as it did. -/
def marksClearsUptoRow : OpenClaim := { program := "ytjbcjpdkflppaaa", sum := "6737b9d426759c3b7dd911f23d005de7e7b0a6a4530d2d6dd6c32337850b2de6", func := "besom/besomlaw04.MarksClears", spec := "marksClears", apart := false, narrowed := true }
def MarksClearsUptoSaid : Prop := marksClearsUptoRow.holds Try.pinned (OpenSpec.upto marksClearsSpec)

/-- 'besomlaw07.TaskSplits', WHERE WHAT IT READS IS OF BULK AT MOST 1048576: true; the input reads as it did. -/
def taskSplitsUptoRow : OpenClaim := { program := "ytjbcjpdkflppaaa", sum := "6737b9d426759c3b7dd911f23d005de7e7b0a6a4530d2d6dd6c32337850b2de6", func := "besom/besomlaw07.TaskSplits", spec := "taskSplits", apart := false, narrowed := true }
def TaskSplitsUptoSaid : Prop := taskSplitsUptoRow.holds Try.pinned (OpenSpec.upto taskSplitsSpec)

/-- 'besomlaw07.TaskParts', WHERE WHAT IT READS IS OF BULK AT MOST 1048576: true; the input reads as it did. -/
def taskPartsUptoRow : OpenClaim := { program := "ytjbcjpdkflppaaa", sum := "6737b9d426759c3b7dd911f23d005de7e7b0a6a4530d2d6dd6c32337850b2de6", func := "besom/besomlaw07.TaskParts", spec := "taskParts", apart := false, narrowed := true }
def TaskPartsUptoSaid : Prop := taskPartsUptoRow.holds Try.pinned (OpenSpec.upto taskPartsSpec)

/-- 'besomlaw04.MarksParts', WHERE WHAT IT READS IS OF BULK AT MOST 1048576: true; the input reads as it did. -/
def marksPartsUptoRow : OpenClaim := { program := "ytjbcjpdkflppaaa", sum := "6737b9d426759c3b7dd911f23d005de7e7b0a6a4530d2d6dd6c32337850b2de6", func := "besom/besomlaw04.MarksParts", spec := "marksParts", apart := false, narrowed := true }
def MarksPartsUptoSaid : Prop := marksPartsUptoRow.holds Try.pinned (OpenSpec.upto marksPartsSpec)

/-- 'besomlaw04.MarksOnce', WHERE WHAT IT READS IS OF BULK AT MOST 1048576: true; the input reads as it did. -/
def marksOnceUptoRow : OpenClaim := { program := "ytjbcjpdkflppaaa", sum := "6737b9d426759c3b7dd911f23d005de7e7b0a6a4530d2d6dd6c32337850b2de6", func := "besom/besomlaw04.MarksOnce", spec := "marksOnce", apart := false, narrowed := true }
def MarksOnceUptoSaid : Prop := marksOnceUptoRow.holds Try.pinned (OpenSpec.upto marksOnceSpec)

end Rows
end Go.Proofs.Ytjbcjpdkflppaaa
