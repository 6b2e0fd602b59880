/-
  No cell of these rows narrows 'for every input' (looked for: loops, veiled, ifaces, maps, wideKeys, modest, calm, conditions, laid).
  DERIVED. THE GIVEN ROWS OF THIS SEAT. 12 by the template 'for every input the law returns true; each argument reads behind the call as it read before'; 0 by the template 'total and deterministic' (their statements: YtjlcjcgoaakniaaTotals.lean).
  GIVEN WITH THE SEED: the statements are not yours to turn. If you find one false, say at which input.
  Laid BY PROGRAM, IN A SANDBOX (cutbox-rows.mjs): the forced cells as the released guide's own fill.sh prints them over the translation e44a3d90eade8f58… (all of the seat's roots in one cut). By AI agents, Wed Nov 11 2026. No macro, syntax, notation, axiom, sorry.
-/
import Derived.Test.YtjlcjcgoaakniaaChecked
import GoSem.Claim
import GoSem.ClaimJoined
import GoSem.ClaimMapViews
import Derived.JoinedTies
import Derived.KernelRfl
namespace Go.Proofs.Ytjlcjcgoaakniaa
/- THE CELL 'sum', in the pinned program and in every row, IS THE sha256 OF THE DUMP (.gsa) THAT YtjlcjcgoaakniaaProg.lean LOADS. Nothing in Lean hashes anything: it is a label: what it is worth is what the hold of that sum in a sandbox is worth. -/
noncomputable def Try.pinned : Pinned := { name := "ytjlcjcgoaakniaa", sum := "e44a3d90eade8f580262d89965ba263717548e8a1ad28973cd48c0732540a1e3", checked := Try.checked }
namespace Rows
def none {H : Type} : Left H := { results := [], args := [] }

/-- 'besomlaw02.GaugeShares': WHATEVER THE INPUT: true; the input reads as it did. -/
def gaugeSharesSpec : ChangeSpec := { name := "gaugeShares", fn := fun _ => fun
  | [d] => { results := [.lit (.bool true)], args := [d] }
  | _ => none }
def gaugeSharesRow : OpenClaim := { program := "ytjlcjcgoaakniaa", sum := "e44a3d90eade8f580262d89965ba263717548e8a1ad28973cd48c0732540a1e3", func := "besom/besomlaw02.GaugeShares", spec := "gaugeShares", inPlace := ["math.Float64bits", "math.Float64frombits"], apart := false }
def GaugeSharesSaid : Prop := gaugeSharesRow.holds Try.pinned (OpenSpec.ofChange gaugeSharesSpec)

/-- ITS FALSE NEIGHBOUR: 'it returns false'. Refute it at one input. -/
def gaugeSharesWrong : ChangeSpec := { name := "gaugeShares", fn := fun _ => fun
  | [d] => { results := [.lit (.bool false)], args := [d] }
  | _ => none }
def GaugeSharesWrongFalsely : Prop := gaugeSharesRow.holds Try.pinned (OpenSpec.ofChange gaugeSharesWrong)

/-- 'besomlaw02.GaugeSigns': WHATEVER THE INPUT: true; the input reads as it did. -/
def gaugeSignsSpec : ChangeSpec := { name := "gaugeSigns", fn := fun _ => fun
  | [d1, d2] => { results := [.lit (.bool true)], args := [d1, d2] }
  | _ => none }
def gaugeSignsRow : OpenClaim := { program := "ytjlcjcgoaakniaa", sum := "e44a3d90eade8f580262d89965ba263717548e8a1ad28973cd48c0732540a1e3", func := "besom/besomlaw02.GaugeSigns", spec := "gaugeSigns", inPlace := ["math.Float64bits", "math.Float64frombits"], apart := false }
def GaugeSignsSaid : Prop := gaugeSignsRow.holds Try.pinned (OpenSpec.ofChange gaugeSignsSpec)

/-- ITS FALSE NEIGHBOUR: 'it returns false'. Refute it at one input. -/
def gaugeSignsWrong : ChangeSpec := { name := "gaugeSigns", fn := fun _ => fun
  | [d1, d2] => { results := [.lit (.bool false)], args := [d1, d2] }
  | _ => none }
def GaugeSignsWrongFalsely : Prop := gaugeSignsRow.holds Try.pinned (OpenSpec.ofChange gaugeSignsWrong)

/-- 'besomlaw02.GaugeScales': WHATEVER THE INPUT: true; the input reads as it did. -/
def gaugeScalesSpec : ChangeSpec := { name := "gaugeScales", fn := fun _ => fun
  | [d1, d2, d3] => { results := [.lit (.bool true)], args := [d1, d2, d3] }
  | _ => none }
def gaugeScalesRow : OpenClaim := { program := "ytjlcjcgoaakniaa", sum := "e44a3d90eade8f580262d89965ba263717548e8a1ad28973cd48c0732540a1e3", func := "besom/besomlaw02.GaugeScales", spec := "gaugeScales", inPlace := ["math.Float64bits", "math.Float64frombits"], apart := false }
def GaugeScalesSaid : Prop := gaugeScalesRow.holds Try.pinned (OpenSpec.ofChange gaugeScalesSpec)

/-- ITS FALSE NEIGHBOUR: 'it returns false'. Refute it at one input. -/
def gaugeScalesWrong : ChangeSpec := { name := "gaugeScales", fn := fun _ => fun
  | [d1, d2, d3] => { results := [.lit (.bool false)], args := [d1, d2, d3] }
  | _ => none }
def GaugeScalesWrongFalsely : Prop := gaugeScalesRow.holds Try.pinned (OpenSpec.ofChange gaugeScalesWrong)

/-- 'besomlaw02.GaugeOrders': WHATEVER THE INPUT: true; the input reads as it did. -/
def gaugeOrdersSpec : ChangeSpec := { name := "gaugeOrders", fn := fun _ => fun
  | [d1, d2] => { results := [.lit (.bool true)], args := [d1, d2] }
  | _ => none }
def gaugeOrdersRow : OpenClaim := { program := "ytjlcjcgoaakniaa", sum := "e44a3d90eade8f580262d89965ba263717548e8a1ad28973cd48c0732540a1e3", func := "besom/besomlaw02.GaugeOrders", spec := "gaugeOrders", inPlace := ["math.Float64bits", "math.Float64frombits"], apart := false }
def GaugeOrdersSaid : Prop := gaugeOrdersRow.holds Try.pinned (OpenSpec.ofChange gaugeOrdersSpec)

/-- ITS FALSE NEIGHBOUR: 'it returns false'. Refute it at one input. -/
def gaugeOrdersWrong : ChangeSpec := { name := "gaugeOrders", fn := fun _ => fun
  | [d1, d2] => { results := [.lit (.bool false)], args := [d1, d2] }
  | _ => none }
def GaugeOrdersWrongFalsely : Prop := gaugeOrdersRow.holds Try.pinned (OpenSpec.ofChange gaugeOrdersWrong)

/-- 'besomlaw02.GaugeEnds': WHATEVER THE INPUT: true; the input reads as it did. -/
def gaugeEndsSpec : ChangeSpec := { name := "gaugeEnds", fn := fun _ => fun
  | [d] => { results := [.lit (.bool true)], args := [d] }
  | _ => none }
def gaugeEndsRow : OpenClaim := { program := "ytjlcjcgoaakniaa", sum := "e44a3d90eade8f580262d89965ba263717548e8a1ad28973cd48c0732540a1e3", func := "besom/besomlaw02.GaugeEnds", spec := "gaugeEnds", inPlace := ["math.Float64bits", "math.Float64frombits"], apart := false }
def GaugeEndsSaid : Prop := gaugeEndsRow.holds Try.pinned (OpenSpec.ofChange gaugeEndsSpec)

/-- ITS FALSE NEIGHBOUR: 'it returns false'. Refute it at one input. -/
def gaugeEndsWrong : ChangeSpec := { name := "gaugeEnds", fn := fun _ => fun
  | [d] => { results := [.lit (.bool false)], args := [d] }
  | _ => none }
def GaugeEndsWrongFalsely : Prop := gaugeEndsRow.holds Try.pinned (OpenSpec.ofChange gaugeEndsWrong)

/-- 'besomlaw02.GaugeRows': WHATEVER THE INPUT: true; the input reads as it did. -/
def gaugeRowsSpec : ChangeSpec := { name := "gaugeRows", fn := fun _ => fun
  | [d1, d2, d3] => { results := [.lit (.bool true)], args := [d1, d2, d3] }
  | _ => none }
def gaugeRowsRow : OpenClaim := { program := "ytjlcjcgoaakniaa", sum := "e44a3d90eade8f580262d89965ba263717548e8a1ad28973cd48c0732540a1e3", func := "besom/besomlaw02.GaugeRows", spec := "gaugeRows", inPlace := ["math.Float64bits", "math.Float64frombits"], apart := false }
def GaugeRowsSaid : Prop := gaugeRowsRow.holds Try.pinned (OpenSpec.ofChange gaugeRowsSpec)

/-- ITS FALSE NEIGHBOUR: 'it returns false'. Refute it at one input. -/
def gaugeRowsWrong : ChangeSpec := { name := "gaugeRows", fn := fun _ => fun
  | [d1, d2, d3] => { results := [.lit (.bool false)], args := [d1, d2, d3] }
  | _ => none }
def GaugeRowsWrongFalsely : Prop := gaugeRowsRow.holds Try.pinned (OpenSpec.ofChange gaugeRowsWrong)

/-- 'besomlaw02.GaugeTurns': WHATEVER THE INPUT: true; the input reads as it did. -/
def gaugeTurnsSpec : ChangeSpec := { name := "gaugeTurns", fn := fun _ => fun
  | [d1, d2] => { results := [.lit (.bool true)], args := [d1, d2] }
  | _ => none }
def gaugeTurnsRow : OpenClaim := { program := "ytjlcjcgoaakniaa", sum := "e44a3d90eade8f580262d89965ba263717548e8a1ad28973cd48c0732540a1e3", func := "besom/besomlaw02.GaugeTurns", spec := "gaugeTurns", inPlace := ["math.Float64bits", "math.Float64frombits"], apart := false }
def GaugeTurnsSaid : Prop := gaugeTurnsRow.holds Try.pinned (OpenSpec.ofChange gaugeTurnsSpec)

/-- ITS FALSE NEIGHBOUR: 'it returns false'. Refute it at one input. -/
def gaugeTurnsWrong : ChangeSpec := { name := "gaugeTurns", fn := fun _ => fun
  | [d1, d2] => { results := [.lit (.bool false)], args := [d1, d2] }
  | _ => none }
def GaugeTurnsWrongFalsely : Prop := gaugeTurnsRow.holds Try.pinned (OpenSpec.ofChange gaugeTurnsWrong)

/-- 'besomlaw02.GaugeKeys': WHATEVER THE INPUT: true; the input reads as it did. -/
def gaugeKeysSpec : ChangeSpec := { name := "gaugeKeys", fn := fun _ => fun
  | [d1, d2] => { results := [.lit (.bool true)], args := [d1, d2] }
  | _ => none }
def gaugeKeysRow : OpenClaim := { program := "ytjlcjcgoaakniaa", sum := "e44a3d90eade8f580262d89965ba263717548e8a1ad28973cd48c0732540a1e3", func := "besom/besomlaw02.GaugeKeys", spec := "gaugeKeys", inPlace := ["math.Float64bits", "math.Float64frombits"], apart := false }
def GaugeKeysSaid : Prop := gaugeKeysRow.holds Try.pinned (OpenSpec.ofChange gaugeKeysSpec)

/-- ITS FALSE NEIGHBOUR: 'it returns false'. Refute it at one input. -/
def gaugeKeysWrong : ChangeSpec := { name := "gaugeKeys", fn := fun _ => fun
  | [d1, d2] => { results := [.lit (.bool false)], args := [d1, d2] }
  | _ => none }
def GaugeKeysWrongFalsely : Prop := gaugeKeysRow.holds Try.pinned (OpenSpec.ofChange gaugeKeysWrong)

/-- 'besomlaw19.TallyAdds': WHATEVER THE INPUT: true; the input reads as it did. -/
def tallyAddsSpec : ChangeSpec := { name := "tallyAdds", fn := fun _ => fun
  | [d1, d2] => { results := [.lit (.bool true)], args := [d1, d2] }
  | _ => none }
def tallyAddsRow : OpenClaim := { program := "ytjlcjcgoaakniaa", sum := "e44a3d90eade8f580262d89965ba263717548e8a1ad28973cd48c0732540a1e3", func := "besom/besomlaw19.TallyAdds", spec := "tallyAdds", inPlace := ["math.Float64bits", "math.Float64frombits"], apart := false }
def TallyAddsSaid : Prop := tallyAddsRow.holds Try.pinned (OpenSpec.ofChange tallyAddsSpec)

/-- ITS FALSE NEIGHBOUR: 'it returns false'. Refute it at one input. -/
def tallyAddsWrong : ChangeSpec := { name := "tallyAdds", fn := fun _ => fun
  | [d1, d2] => { results := [.lit (.bool false)], args := [d1, d2] }
  | _ => none }
def TallyAddsWrongFalsely : Prop := tallyAddsRow.holds Try.pinned (OpenSpec.ofChange tallyAddsWrong)

/-- 'besomlaw19.TallyMeans': WHATEVER THE INPUT: true; the input reads as it did. -/
def tallyMeansSpec : ChangeSpec := { name := "tallyMeans", fn := fun _ => fun
  | [d1, d2] => { results := [.lit (.bool true)], args := [d1, d2] }
  | _ => none }
def tallyMeansRow : OpenClaim := { program := "ytjlcjcgoaakniaa", sum := "e44a3d90eade8f580262d89965ba263717548e8a1ad28973cd48c0732540a1e3", func := "besom/besomlaw19.TallyMeans", spec := "tallyMeans", inPlace := ["math.Float64bits", "math.Float64frombits"], apart := false }
def TallyMeansSaid : Prop := tallyMeansRow.holds Try.pinned (OpenSpec.ofChange tallyMeansSpec)

/-- ITS FALSE NEIGHBOUR: 'it returns false'. Refute it at one input. -/
def tallyMeansWrong : ChangeSpec := { name := "tallyMeans", fn := fun _ => fun
  | [d1, d2] => { results := [.lit (.bool false)], args := [d1, d2] }
  | _ => none }
def TallyMeansWrongFalsely : Prop := tallyMeansRow.holds Try.pinned (OpenSpec.ofChange tallyMeansWrong)

/-- 'besomlaw19.TallyCounts': WHATEVER THE INPUT: true; the input reads as it did. -/
def tallyCountsSpec : ChangeSpec := { name := "tallyCounts", fn := fun _ => fun
  | [d] => { results := [.lit (.bool true)], args := [d] }
  | _ => none }
def tallyCountsRow : OpenClaim := { program := "ytjlcjcgoaakniaa", sum := "e44a3d90eade8f580262d89965ba263717548e8a1ad28973cd48c0732540a1e3", func := "besom/besomlaw19.TallyCounts", spec := "tallyCounts", inPlace := ["math.Float64bits", "math.Float64frombits"], unfollowed := true, recurses := true, apart := false }
def TallyCountsSaid : Prop := tallyCountsRow.holds Try.pinned (OpenSpec.ofChange tallyCountsSpec)

/-- ITS FALSE NEIGHBOUR: 'it returns false'. Refute it at one input. -/
def tallyCountsWrong : ChangeSpec := { name := "tallyCounts", fn := fun _ => fun
  | [d] => { results := [.lit (.bool false)], args := [d] }
  | _ => none }
def TallyCountsWrongFalsely : Prop := tallyCountsRow.holds Try.pinned (OpenSpec.ofChange tallyCountsWrong)

/-- 'besomlaw19.TallyForms': WHATEVER THE INPUT: true; the input reads as it did. -/
def tallyFormsSpec : ChangeSpec := { name := "tallyForms", fn := fun _ => fun
  | [d1, d2] => { results := [.lit (.bool true)], args := [d1, d2] }
  | _ => none }
def tallyFormsRow : OpenClaim := { program := "ytjlcjcgoaakniaa", sum := "e44a3d90eade8f580262d89965ba263717548e8a1ad28973cd48c0732540a1e3", func := "besom/besomlaw19.TallyForms", spec := "tallyForms", inPlace := ["math.Float64bits", "math.Float64frombits"], unfollowed := true, recurses := true, apart := false }
def TallyFormsSaid : Prop := tallyFormsRow.holds Try.pinned (OpenSpec.ofChange tallyFormsSpec)

/-- ITS FALSE NEIGHBOUR: 'it returns false'. Refute it at one input. -/
def tallyFormsWrong : ChangeSpec := { name := "tallyForms", fn := fun _ => fun
  | [d1, d2] => { results := [.lit (.bool false)], args := [d1, d2] }
  | _ => none }
def TallyFormsWrongFalsely : Prop := tallyFormsRow.holds Try.pinned (OpenSpec.ofChange tallyFormsWrong)

/- THE SECOND FORM. 'bulk': how many values and letters a reading holds, each counted each time it is reached (what is shared counts as often as it is met; a slice's spare places count too). A statement '..UptoSaid' is the law's where the arguments, and the package variables that the reading takes, are together of bulk at most 1048576: NARROWER than '..Said'. Prove '..Said' where nothing that the law and all that it calls make is longer than what came in: it says more and counts as full. Else prove '..UptoSaid'. A law counts once. -/
mutual
def uptoBulk {H : Type} : DataW H → Nat
  | .lit (.string bytes) => bytes.length + 1
  | .lit _ => 1
  | .nil => 1
  | .ptr d => uptoBulk d + 1
  | .slice elems spare => uptoBulkAll elems + uptoBulkAll spare + 1
  | .agg parts => uptoBulkAll parts + 1
  | .iface _ d => uptoBulk d + 1
  | .map entries => uptoBulkEntries entries + 1
  | .held _ => 1
def uptoBulkAll {H : Type} : List (DataW H) → Nat
  | [] => 0
  | d :: r => uptoBulk d + uptoBulkAll r
def uptoBulkEntries {H : Type} : List (Lit × DataW H) → Nat
  | [] => 0
  | x :: r => uptoBulkEntry x + uptoBulkEntries r
def uptoBulkEntry {H : Type} : Lit × DataW H → Nat
  | (.string bytes, d) => bytes.length + uptoBulk d + 1
  | (_, d) => uptoBulk d + 1
 end
def uptoSmall : (H : Type) → List (DataW H) → Bool := fun _ ds => decide (uptoBulkAll ds ≤ 1048576)
def OpenSpec.upto (s : _root_.Go.ChangeSpec) : _root_.Go.OpenSpec := { _root_.Go.OpenSpec.ofChange s with cond := some uptoSmall }

/-- 'besomlaw02.GaugeShares', WHERE WHAT IT READS IS OF BULK AT MOST 1048576: true; the input reads as it did. -/
def gaugeSharesUptoRow : OpenClaim := { program := "ytjlcjcgoaakniaa", sum := "e44a3d90eade8f580262d89965ba263717548e8a1ad28973cd48c0732540a1e3", func := "besom/besomlaw02.GaugeShares", spec := "gaugeShares", inPlace := ["math.Float64bits", "math.Float64frombits"], apart := false, narrowed := true }
def GaugeSharesUptoSaid : Prop := gaugeSharesUptoRow.holds Try.pinned (OpenSpec.upto gaugeSharesSpec)

/-- 'besomlaw02.GaugeSigns', WHERE WHAT IT READS IS OF BULK AT MOST 1048576: true; the input reads as it did. -/
def gaugeSignsUptoRow : OpenClaim := { program := "ytjlcjcgoaakniaa", sum := "e44a3d90eade8f580262d89965ba263717548e8a1ad28973cd48c0732540a1e3", func := "besom/besomlaw02.GaugeSigns", spec := "gaugeSigns", inPlace := ["math.Float64bits", "math.Float64frombits"], apart := false, narrowed := true }
def GaugeSignsUptoSaid : Prop := gaugeSignsUptoRow.holds Try.pinned (OpenSpec.upto gaugeSignsSpec)

/-- 'besomlaw02.GaugeScales', WHERE WHAT IT READS IS OF BULK AT MOST 1048576: true; the input reads as it did. -/
def gaugeScalesUptoRow : OpenClaim := { program := "ytjlcjcgoaakniaa", sum := "e44a3d90eade8f580262d89965ba263717548e8a1ad28973cd48c0732540a1e3", func := "besom/besomlaw02.GaugeScales", spec := "gaugeScales", inPlace := ["math.Float64bits", "math.Float64frombits"], apart := false, narrowed := true }
def GaugeScalesUptoSaid : Prop := gaugeScalesUptoRow.holds Try.pinned (OpenSpec.upto gaugeScalesSpec)

/-- 'besomlaw02.GaugeOrders', WHERE WHAT IT READS IS OF BULK AT MOST 1048576: true; the input reads as it did. -/
def gaugeOrdersUptoRow : OpenClaim := { program := "ytjlcjcgoaakniaa", sum := "e44a3d90eade8f580262d89965ba263717548e8a1ad28973cd48c0732540a1e3", func := "besom/besomlaw02.GaugeOrders", spec := "gaugeOrders", inPlace := ["math.Float64bits", "math.Float64frombits"], apart := false, narrowed := true }
def GaugeOrdersUptoSaid : Prop := gaugeOrdersUptoRow.holds Try.pinned (OpenSpec.upto gaugeOrdersSpec)

/-- 'besomlaw02.GaugeEnds', WHERE WHAT IT READS IS OF BULK AT MOST 1048576: true; the input reads as it did. -/
def gaugeEndsUptoRow : OpenClaim := { program := "ytjlcjcgoaakniaa", sum := "e44a3d90eade8f580262d89965ba263717548e8a1ad28973cd48c0732540a1e3", func := "besom/besomlaw02.GaugeEnds", spec := "gaugeEnds", inPlace := ["math.Float64bits", "math.Float64frombits"], apart := false, narrowed := true }
def GaugeEndsUptoSaid : Prop := gaugeEndsUptoRow.holds Try.pinned (OpenSpec.upto gaugeEndsSpec)

/-- 'besomlaw02.GaugeRows', WHERE WHAT IT READS IS OF BULK AT MOST 1048576: true; the input reads as it did. -/
def gaugeRowsUptoRow : OpenClaim := { program := "ytjlcjcgoaakniaa", sum := "e44a3d90eade8f580262d89965ba263717548e8a1ad28973cd48c0732540a1e3", func := "besom/besomlaw02.GaugeRows", spec := "gaugeRows", inPlace := ["math.Float64bits", "math.Float64frombits"], apart := false, narrowed := true }
def GaugeRowsUptoSaid : Prop := gaugeRowsUptoRow.holds Try.pinned (OpenSpec.upto gaugeRowsSpec)

/-- 'besomlaw02.GaugeTurns', WHERE WHAT IT READS IS OF BULK AT MOST 1048576: true; the input reads as it did. -/
def gaugeTurnsUptoRow : OpenClaim := { program := "ytjlcjcgoaakniaa", sum := "e44a3d90eade8f580262d89965ba263717548e8a1ad28973cd48c0732540a1e3", func := "besom/besomlaw02.GaugeTurns", spec := "gaugeTurns", inPlace := ["math.Float64bits", "math.Float64frombits"], apart := false, narrowed := true }
def GaugeTurnsUptoSaid : Prop := gaugeTurnsUptoRow.holds Try.pinned (OpenSpec.upto gaugeTurnsSpec)

/-- 'besomlaw02.GaugeKeys', WHERE WHAT IT READS IS OF BULK AT MOST 1048576: true; the input reads as it did. -/
def gaugeKeysUptoRow : OpenClaim := { program := "ytjlcjcgoaakniaa", sum := "e44a3d90eade8f580262d89965ba263717548e8a1ad28973cd48c0732540a1e3", func := "besom/besomlaw02.GaugeKeys", spec := "gaugeKeys", inPlace := ["math.Float64bits", "math.Float64frombits"], apart := false, narrowed := true }
def GaugeKeysUptoSaid : Prop := gaugeKeysUptoRow.holds Try.pinned (OpenSpec.upto gaugeKeysSpec)

/-- 'besomlaw19.TallyAdds', WHERE WHAT IT READS IS OF BULK AT MOST 1048576: true; the input reads as it did. -/
def tallyAddsUptoRow : OpenClaim := { program := "ytjlcjcgoaakniaa", sum := "e44a3d90eade8f580262d89965ba263717548e8a1ad28973cd48c0732540a1e3", func := "besom/besomlaw19.TallyAdds", spec := "tallyAdds", inPlace := ["math.Float64bits", "math.Float64frombits"], apart := false, narrowed := true }
def TallyAddsUptoSaid : Prop := tallyAddsUptoRow.holds Try.pinned (OpenSpec.upto tallyAddsSpec)

/-- 'besomlaw19.TallyMeans', WHERE WHAT IT READS IS OF BULK AT MOST 1048576: true; the input reads as it did. -/
def tallyMeansUptoRow : OpenClaim := { program := "ytjlcjcgoaakniaa", sum := "e44a3d90eade8f580262d89965ba263717548e8a1ad28973cd48c0732540a1e3", func := "besom/besomlaw19.TallyMeans", spec := "tallyMeans", inPlace := ["math.Float64bits", "math.Float64frombits"], apart := false, narrowed := true }
def TallyMeansUptoSaid : Prop := tallyMeansUptoRow.holds Try.pinned (OpenSpec.upto tallyMeansSpec)

/-- 'besomlaw19.TallyCounts', WHERE WHAT IT READS IS OF BULK AT MOST 1048576: true; the input reads as it did. -/
def tallyCountsUptoRow : OpenClaim := { program := "ytjlcjcgoaakniaa", sum := "e44a3d90eade8f580262d89965ba263717548e8a1ad28973cd48c0732540a1e3", func := "besom/besomlaw19.TallyCounts", spec := "tallyCounts", inPlace := ["math.Float64bits", "math.Float64frombits"], unfollowed := true, recurses := true, apart := false, narrowed := true }
def TallyCountsUptoSaid : Prop := tallyCountsUptoRow.holds Try.pinned (OpenSpec.upto tallyCountsSpec)

/-- 'besomlaw19.TallyForms', WHERE WHAT IT READS IS OF BULK AT MOST 1048576: true; the input reads as it did. -/
def tallyFormsUptoRow : OpenClaim := { program := "ytjlcjcgoaakniaa", sum := "e44a3d90eade8f580262d89965ba263717548e8a1ad28973cd48c0732540a1e3", func := "besom/besomlaw19.TallyForms", spec := "tallyForms", inPlace := ["math.Float64bits", "math.Float64frombits"], unfollowed := true, recurses := true, apart := false, narrowed := true }
def TallyFormsUptoSaid : Prop := tallyFormsUptoRow.holds Try.pinned (OpenSpec.upto tallyFormsSpec)

end Rows
end Go.Proofs.Ytjlcjcgoaakniaa
