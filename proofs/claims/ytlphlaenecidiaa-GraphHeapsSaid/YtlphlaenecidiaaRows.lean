/-
  No cell of these rows narrows 'for every input' (looked for: loops, veiled, ifaces, maps, wideKeys, modest, calm, conditions, laid).
  DERIVED. THE GIVEN ROWS OF THIS SEAT. 6 by the template 'for every input the law returns true; each argument reads behind the call as it read before'; 0 by the template 'total and deterministic' (their statements: YtlphlaenecidiaaTotals.lean).
  GIVEN WITH THE SEED: the statements are not yours to turn. If you find one false, say at which input.
  Laid BY PROGRAM, IN A SANDBOX (cutbox-rows.mjs): the forced cells as the released guide's own fill.sh prints them over the translation 34a8540fe625dff5… (all of the seat's roots in one cut). By AI agents, Wed Nov 11 2026. No macro, syntax, notation, axiom, sorry.
-/
import Derived.Test.YtlphlaenecidiaaChecked
import GoSem.Claim
import GoSem.ClaimJoined
import GoSem.ClaimMapViews
import Derived.JoinedTies
import Derived.KernelRfl
namespace Go.Proofs.Ytlphlaenecidiaa
/- THE CELL 'sum', in the pinned program and in every row, IS THE sha256 OF THE DUMP (.gsa) THAT YtlphlaenecidiaaProg.lean LOADS. Nothing in Lean hashes anything: it is a label: what it is worth is what the hold of that sum in a sandbox is worth. -/
noncomputable def Try.pinned : Pinned := { name := "ytlphlaenecidiaa", sum := "34a8540fe625dff5ba9b4d39b753a694e5debcd2a134533775c6c5da6802e694", checked := Try.checked }
namespace Rows
def none {H : Type} : Left H := { results := [], args := [] }

/-- 'besomlaw16.GraphRaw': WHATEVER THE INPUT: true; the input reads as it did. -/
def graphRawSpec : ChangeSpec := { name := "graphRaw", fn := fun _ => fun
  | [d1, d2] => { results := [.lit (.bool true)], args := [d1, d2] }
  | _ => none }
def graphRawRow : OpenClaim := { program := "ytlphlaenecidiaa", sum := "34a8540fe625dff5ba9b4d39b753a694e5debcd2a134533775c6c5da6802e694", func := "besom/besomlaw16.GraphRaw", spec := "graphRaw", apart := false }
def GraphRawSaid : Prop := graphRawRow.holds Try.pinned (OpenSpec.ofChange graphRawSpec)

/-- ITS FALSE NEIGHBOUR: 'it returns false'. Refute it at one input. -/
def graphRawWrong : ChangeSpec := { name := "graphRaw", fn := fun _ => fun
  | [d1, d2] => { results := [.lit (.bool false)], args := [d1, d2] }
  | _ => none }
def GraphRawWrongFalsely : Prop := graphRawRow.holds Try.pinned (OpenSpec.ofChange graphRawWrong)

/-- 'besomlaw16.GraphReaches': WHATEVER THE INPUT: true; the input reads as it did. -/
def graphReachesSpec : ChangeSpec := { name := "graphReaches", fn := fun _ => fun
  | [d] => { results := [.lit (.bool true)], args := [d] }
  | _ => none }
def graphReachesRow : OpenClaim := { program := "ytlphlaenecidiaa", sum := "34a8540fe625dff5ba9b4d39b753a694e5debcd2a134533775c6c5da6802e694", func := "besom/besomlaw16.GraphReaches", spec := "graphReaches", apart := false }
def GraphReachesSaid : Prop := graphReachesRow.holds Try.pinned (OpenSpec.ofChange graphReachesSpec)

/-- ITS FALSE NEIGHBOUR: 'it returns false'. Refute it at one input. -/
def graphReachesWrong : ChangeSpec := { name := "graphReaches", fn := fun _ => fun
  | [d] => { results := [.lit (.bool false)], args := [d] }
  | _ => none }
def GraphReachesWrongFalsely : Prop := graphReachesRow.holds Try.pinned (OpenSpec.ofChange graphReachesWrong)

/-- 'besomlaw16.GraphOrders': WHATEVER THE INPUT: true; the input reads as it did. -/
def graphOrdersSpec : ChangeSpec := { name := "graphOrders", fn := fun _ => fun
  | [d1, d2] => { results := [.lit (.bool true)], args := [d1, d2] }
  | _ => none }
def graphOrdersRow : OpenClaim := { program := "ytlphlaenecidiaa", sum := "34a8540fe625dff5ba9b4d39b753a694e5debcd2a134533775c6c5da6802e694", func := "besom/besomlaw16.GraphOrders", spec := "graphOrders", unfollowed := true, recurses := true, apart := false }
def GraphOrdersSaid : Prop := graphOrdersRow.holds Try.pinned (OpenSpec.ofChange graphOrdersSpec)

/-- ITS FALSE NEIGHBOUR: 'it returns false'. Refute it at one input. -/
def graphOrdersWrong : ChangeSpec := { name := "graphOrders", fn := fun _ => fun
  | [d1, d2] => { results := [.lit (.bool false)], args := [d1, d2] }
  | _ => none }
def GraphOrdersWrongFalsely : Prop := graphOrdersRow.holds Try.pinned (OpenSpec.ofChange graphOrdersWrong)

/-- 'besomlaw16.GraphAgain': WHATEVER THE INPUT: true; the input reads as it did. -/
def graphAgainSpec : ChangeSpec := { name := "graphAgain", fn := fun _ => fun
  | [d1, d2] => { results := [.lit (.bool true)], args := [d1, d2] }
  | _ => none }
def graphAgainRow : OpenClaim := { program := "ytlphlaenecidiaa", sum := "34a8540fe625dff5ba9b4d39b753a694e5debcd2a134533775c6c5da6802e694", func := "besom/besomlaw16.GraphAgain", spec := "graphAgain", unfollowed := true, recurses := true, apart := false }
def GraphAgainSaid : Prop := graphAgainRow.holds Try.pinned (OpenSpec.ofChange graphAgainSpec)

/-- ITS FALSE NEIGHBOUR: 'it returns false'. Refute it at one input. -/
def graphAgainWrong : ChangeSpec := { name := "graphAgain", fn := fun _ => fun
  | [d1, d2] => { results := [.lit (.bool false)], args := [d1, d2] }
  | _ => none }
def GraphAgainWrongFalsely : Prop := graphAgainRow.holds Try.pinned (OpenSpec.ofChange graphAgainWrong)

/-- 'besomlaw16.GraphOfs': WHATEVER THE INPUT: true; the input reads as it did. -/
def graphOfsSpec : ChangeSpec := { name := "graphOfs", fn := fun _ => fun
  | [d1, d2] => { results := [.lit (.bool true)], args := [d1, d2] }
  | _ => none }
def graphOfsRow : OpenClaim := { program := "ytlphlaenecidiaa", sum := "34a8540fe625dff5ba9b4d39b753a694e5debcd2a134533775c6c5da6802e694", func := "besom/besomlaw16.GraphOfs", spec := "graphOfs", unfollowed := true, recurses := true, apart := false }
def GraphOfsSaid : Prop := graphOfsRow.holds Try.pinned (OpenSpec.ofChange graphOfsSpec)

/-- ITS FALSE NEIGHBOUR: 'it returns false'. Refute it at one input. -/
def graphOfsWrong : ChangeSpec := { name := "graphOfs", fn := fun _ => fun
  | [d1, d2] => { results := [.lit (.bool false)], args := [d1, d2] }
  | _ => none }
def GraphOfsWrongFalsely : Prop := graphOfsRow.holds Try.pinned (OpenSpec.ofChange graphOfsWrong)

/-- 'besomlaw16.GraphHeaps': WHATEVER THE INPUT: true; the input reads as it did. -/
def graphHeapsSpec : ChangeSpec := { name := "graphHeaps", fn := fun _ => fun
  | [d1, d2, d3] => { results := [.lit (.bool true)], args := [d1, d2, d3] }
  | _ => none }
def graphHeapsRow : OpenClaim := { program := "ytlphlaenecidiaa", sum := "34a8540fe625dff5ba9b4d39b753a694e5debcd2a134533775c6c5da6802e694", func := "besom/besomlaw16.GraphHeaps", spec := "graphHeaps", unfollowed := true, recurses := true, apart := false }
def GraphHeapsSaid : Prop := graphHeapsRow.holds Try.pinned (OpenSpec.ofChange graphHeapsSpec)

/-- ITS FALSE NEIGHBOUR: 'it returns false'. Refute it at one input. -/
def graphHeapsWrong : ChangeSpec := { name := "graphHeaps", fn := fun _ => fun
  | [d1, d2, d3] => { results := [.lit (.bool false)], args := [d1, d2, d3] }
  | _ => none }
def GraphHeapsWrongFalsely : Prop := graphHeapsRow.holds Try.pinned (OpenSpec.ofChange graphHeapsWrong)

/- THE SECOND FORM. 'bulk': how many values and letters a reading holds, each counted each time it is reached (what is shared counts as often as it is met; a slice's spare places count too). A statement '..UptoSaid' is the law's where the arguments, and the package variables that the reading takes, are together of bulk at most 1048576: NARROWER than '..Said'. Prove '..Said' where nothing that the law and all that it calls make is longer than what came in: it says more and counts as full. Else prove '..UptoSaid'. A law counts once. -/
mutual
def uptoBulk {H : Type} : DataW H → Nat
  | .lit (.string bytes) => bytes.length + 1
  | .lit _ => 1
  | .nil => 1
  | .ptr d => uptoBulk d + 1
  | .slice elems spare => uptoBulkAll elems + uptoBulkAll spare + 1
  | .agg parts => uptoBulkAll parts + 1
  | .iface _ d => uptoBulk d + 1
  | .map entries => uptoBulkEntries entries + 1
  | .held _ => 1
def uptoBulkAll {H : Type} : List (DataW H) → Nat
  | [] => 0
  | d :: r => uptoBulk d + uptoBulkAll r
def uptoBulkEntries {H : Type} : List (Lit × DataW H) → Nat
  | [] => 0
  | x :: r => uptoBulkEntry x + uptoBulkEntries r
def uptoBulkEntry {H : Type} : Lit × DataW H → Nat
  | (.string bytes, d) => bytes.length + uptoBulk d + 1
  | (_, d) => uptoBulk d + 1
 end
def uptoSmall : (H : Type) → List (DataW H) → Bool := fun _ ds => decide (uptoBulkAll ds ≤ 1048576)
def OpenSpec.upto (s : _root_.Go.ChangeSpec) : _root_.Go.OpenSpec := { _root_.Go.OpenSpec.ofChange s with cond := some uptoSmall }

/-- 'besomlaw16.GraphRaw', WHERE WHAT IT READS IS OF BULK AT MOST 1048576: true; the input reads as it did. -/
def graphRawUptoRow : OpenClaim := { program := "ytlphlaenecidiaa", sum := "34a8540fe625dff5ba9b4d39b753a694e5debcd2a134533775c6c5da6802e694", func := "besom/besomlaw16.GraphRaw", spec := "graphRaw", apart := false, narrowed := true }
def GraphRawUptoSaid : Prop := graphRawUptoRow.holds Try.pinned (OpenSpec.upto graphRawSpec)

/-- 'besomlaw16.GraphReaches', WHERE WHAT IT READS IS OF BULK AT MOST 1048576: true; the input reads as it did. -/
def graphReachesUptoRow : OpenClaim := { program := "ytlphlaenecidiaa", sum := "34a8540fe625dff5ba9b4d39b753a694e5debcd2a134533775c6c5da6802e694", func := "besom/besomlaw16.GraphReaches", spec := "graphReaches", apart := false, narrowed := true }
def GraphReachesUptoSaid : Prop := graphReachesUptoRow.holds Try.pinned (OpenSpec.upto graphReachesSpec)

/-- 'besomlaw16.GraphOrders', WHERE WHAT IT READS IS OF BULK AT MOST 1048576: true; the input reads as it did. -/
def graphOrdersUptoRow : OpenClaim := { program := "ytlphlaenecidiaa", sum := "34a8540fe625dff5ba9b4d39b753a694e5debcd2a134533775c6c5da6802e694", func := "besom/besomlaw16.GraphOrders", spec := "graphOrders", unfollowed := true, recurses := true, apart := false, narrowed := true }
def GraphOrdersUptoSaid : Prop := graphOrdersUptoRow.holds Try.pinned (OpenSpec.upto graphOrdersSpec)

/-- 'besomlaw16.GraphAgain', WHERE WHAT IT READS IS OF BULK AT MOST 1048576: true; the input reads as it did. -/
def graphAgainUptoRow : OpenClaim := { program := "ytlphlaenecidiaa", sum := "34a8540fe625dff5ba9b4d39b753a694e5debcd2a134533775c6c5da6802e694", func := "besom/besomlaw16.GraphAgain", spec := "graphAgain", unfollowed := true, recurses := true, apart := false, narrowed := true }
def GraphAgainUptoSaid : Prop := graphAgainUptoRow.holds Try.pinned (OpenSpec.upto graphAgainSpec)

/-- 'besomlaw16.GraphOfs', WHERE WHAT IT READS IS OF BULK AT MOST 1048576: true; the input reads as it did. -/
def graphOfsUptoRow : OpenClaim := { program := "ytlphlaenecidiaa", sum := "34a8540fe625dff5ba9b4d39b753a694e5debcd2a134533775c6c5da6802e694", func := "besom/besomlaw16.GraphOfs", spec := "graphOfs", unfollowed := true, recurses := true, apart := false, narrowed := true }
def GraphOfsUptoSaid : Prop := graphOfsUptoRow.holds Try.pinned (OpenSpec.upto graphOfsSpec)

/-- 'besomlaw16.GraphHeaps', WHERE WHAT IT READS IS OF BULK AT MOST 1048576: true; the input reads as it did. -/
def graphHeapsUptoRow : OpenClaim := { program := "ytlphlaenecidiaa", sum := "34a8540fe625dff5ba9b4d39b753a694e5debcd2a134533775c6c5da6802e694", func := "besom/besomlaw16.GraphHeaps", spec := "graphHeaps", unfollowed := true, recurses := true, apart := false, narrowed := true }
def GraphHeapsUptoSaid : Prop := graphHeapsUptoRow.holds Try.pinned (OpenSpec.upto graphHeapsSpec)

end Rows
end Go.Proofs.Ytlphlaenecidiaa
