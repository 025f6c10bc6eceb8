/-
  No cell of these rows narrows 'for every input' (looked for: loops, veiled, ifaces, maps, wideKeys, modest, calm, conditions, laid).
  DERIVED. THE GIVEN ROWS OF THIS SEAT. 10 by the template 'for every input the law returns true; each argument reads behind the call as it read before'; 0 by the template 'total and deterministic' (their statements: YtldfafaiappibaaTotals.lean).
  GIVEN WITH THE SEED: the statements are not yours to turn. If you find one false, say at which input.
  Laid BY PROGRAM, IN A SANDBOX (cutbox-rows.mjs): the forced cells as the released guide's own fill.sh prints them over the translation fc11cd0762ac7dbb… (all of the seat's roots in one cut). By AI agents, Wed Nov 11 2026. No macro, syntax, notation, axiom, sorry.
-/
import Derived.Test.YtldfafaiappibaaChecked
import GoSem.Claim
import GoSem.ClaimJoined
import GoSem.ClaimMapViews
import Derived.JoinedTies
import Derived.KernelRfl
namespace Go.Proofs.Ytldfafaiappibaa
/- THE CELL 'sum', in the pinned program and in every row, IS THE sha256 OF THE DUMP (.gsa) THAT YtldfafaiappibaaProg.lean LOADS. Nothing in Lean hashes anything: it is a label: what it is worth is what the hold of that sum in a sandbox is worth. -/
noncomputable def Try.pinned : Pinned := { name := "ytldfafaiappibaa", sum := "fc11cd0762ac7dbb93cd3c23a1360ea4305fa010eae925b566ea3e13e48e0527", checked := Try.checked }
namespace Rows
def none {H : Type} : Left H := { results := [], args := [] }

/-- 'jacquardlaw10.EventMore': WHATEVER THE INPUT: true; the input reads as it did. -/
def eventMoreSpec : ChangeSpec := { name := "eventMore", fn := fun _ => fun
  | [d1, d2, d3, d4] => { results := [.lit (.bool true)], args := [d1, d2, d3, d4] }
  | _ => none }
def eventMoreRow : OpenClaim := { program := "ytldfafaiappibaa", sum := "fc11cd0762ac7dbb93cd3c23a1360ea4305fa010eae925b566ea3e13e48e0527", func := "jacquard/jacquardlaw10.EventMore", spec := "eventMore", unfollowed := true, recurses := true, apart := false }
def EventMoreSaid : Prop := eventMoreRow.holds Try.pinned (OpenSpec.ofChange eventMoreSpec)

/-- ITS FALSE NEIGHBOUR: 'it returns false'. Refute it at one input. -/
def eventMoreWrong : ChangeSpec := { name := "eventMore", fn := fun _ => fun
  | [d1, d2, d3, d4] => { results := [.lit (.bool false)], args := [d1, d2, d3, d4] }
  | _ => none }
def EventMoreWrongFalsely : Prop := eventMoreRow.holds Try.pinned (OpenSpec.ofChange eventMoreWrong)

/-- 'jacquardlaw10.EventCounts': WHATEVER THE INPUT: true; the input reads as it did. -/
def eventCountsSpec : ChangeSpec := { name := "eventCounts", fn := fun _ => fun
  | [d1, d2, d3] => { results := [.lit (.bool true)], args := [d1, d2, d3] }
  | _ => none }
def eventCountsRow : OpenClaim := { program := "ytldfafaiappibaa", sum := "fc11cd0762ac7dbb93cd3c23a1360ea4305fa010eae925b566ea3e13e48e0527", func := "jacquard/jacquardlaw10.EventCounts", spec := "eventCounts", unfollowed := true, recurses := true, apart := false }
def EventCountsSaid : Prop := eventCountsRow.holds Try.pinned (OpenSpec.ofChange eventCountsSpec)

/-- ITS FALSE NEIGHBOUR: 'it returns false'. Refute it at one input. -/
def eventCountsWrong : ChangeSpec := { name := "eventCounts", fn := fun _ => fun
  | [d1, d2, d3] => { results := [.lit (.bool false)], args := [d1, d2, d3] }
  | _ => none }
def EventCountsWrongFalsely : Prop := eventCountsRow.holds Try.pinned (OpenSpec.ofChange eventCountsWrong)

/-- 'jacquardlaw10.EventKinds': WHATEVER THE INPUT: true; the input reads as it did. -/
def eventKindsSpec : ChangeSpec := { name := "eventKinds", fn := fun _ => fun
  | [d] => { results := [.lit (.bool true)], args := [d] }
  | _ => none }
def eventKindsRow : OpenClaim := { program := "ytldfafaiappibaa", sum := "fc11cd0762ac7dbb93cd3c23a1360ea4305fa010eae925b566ea3e13e48e0527", func := "jacquard/jacquardlaw10.EventKinds", spec := "eventKinds", apart := false }
def EventKindsSaid : Prop := eventKindsRow.holds Try.pinned (OpenSpec.ofChange eventKindsSpec)

/-- ITS FALSE NEIGHBOUR: 'it returns false'. Refute it at one input. -/
def eventKindsWrong : ChangeSpec := { name := "eventKinds", fn := fun _ => fun
  | [d] => { results := [.lit (.bool false)], args := [d] }
  | _ => none }
def EventKindsWrongFalsely : Prop := eventKindsRow.holds Try.pinned (OpenSpec.ofChange eventKindsWrong)

/-- 'jacquardlaw10.EventUnfolds': WHATEVER THE INPUT: true; the input reads as it did. -/
def eventUnfoldsSpec : ChangeSpec := { name := "eventUnfolds", fn := fun _ => fun
  | [d1, d2, d3] => { results := [.lit (.bool true)], args := [d1, d2, d3] }
  | _ => none }
def eventUnfoldsRow : OpenClaim := { program := "ytldfafaiappibaa", sum := "fc11cd0762ac7dbb93cd3c23a1360ea4305fa010eae925b566ea3e13e48e0527", func := "jacquard/jacquardlaw10.EventUnfolds", spec := "eventUnfolds", unfollowed := true, recurses := true, apart := false }
def EventUnfoldsSaid : Prop := eventUnfoldsRow.holds Try.pinned (OpenSpec.ofChange eventUnfoldsSpec)

/-- ITS FALSE NEIGHBOUR: 'it returns false'. Refute it at one input. -/
def eventUnfoldsWrong : ChangeSpec := { name := "eventUnfolds", fn := fun _ => fun
  | [d1, d2, d3] => { results := [.lit (.bool false)], args := [d1, d2, d3] }
  | _ => none }
def EventUnfoldsWrongFalsely : Prop := eventUnfoldsRow.holds Try.pinned (OpenSpec.ofChange eventUnfoldsWrong)

/-- 'jacquardlaw10.EventOrders': WHATEVER THE INPUT: true; the input reads as it did. -/
def eventOrdersSpec : ChangeSpec := { name := "eventOrders", fn := fun _ => fun
  | [d] => { results := [.lit (.bool true)], args := [d] }
  | _ => none }
def eventOrdersRow : OpenClaim := { program := "ytldfafaiappibaa", sum := "fc11cd0762ac7dbb93cd3c23a1360ea4305fa010eae925b566ea3e13e48e0527", func := "jacquard/jacquardlaw10.EventOrders", spec := "eventOrders", apart := false }
def EventOrdersSaid : Prop := eventOrdersRow.holds Try.pinned (OpenSpec.ofChange eventOrdersSpec)

/-- ITS FALSE NEIGHBOUR: 'it returns false'. Refute it at one input. -/
def eventOrdersWrong : ChangeSpec := { name := "eventOrders", fn := fun _ => fun
  | [d] => { results := [.lit (.bool false)], args := [d] }
  | _ => none }
def EventOrdersWrongFalsely : Prop := eventOrdersRow.holds Try.pinned (OpenSpec.ofChange eventOrdersWrong)

/-- 'jacquardlaw6.ProgSets': WHATEVER THE INPUT: true; the input reads as it did. -/
def progSetsSpec : ChangeSpec := { name := "progSets", fn := fun _ => fun
  | [d1, d2, d3] => { results := [.lit (.bool true)], args := [d1, d2, d3] }
  | _ => none }
def progSetsRow : OpenClaim := { program := "ytldfafaiappibaa", sum := "fc11cd0762ac7dbb93cd3c23a1360ea4305fa010eae925b566ea3e13e48e0527", func := "jacquard/jacquardlaw6.ProgSets", spec := "progSets", unfollowed := true, recurses := true, apart := false }
def ProgSetsSaid : Prop := progSetsRow.holds Try.pinned (OpenSpec.ofChange progSetsSpec)

/-- ITS FALSE NEIGHBOUR: 'it returns false'. Refute it at one input. -/
def progSetsWrong : ChangeSpec := { name := "progSets", fn := fun _ => fun
  | [d1, d2, d3] => { results := [.lit (.bool false)], args := [d1, d2, d3] }
  | _ => none }
def ProgSetsWrongFalsely : Prop := progSetsRow.holds Try.pinned (OpenSpec.ofChange progSetsWrong)

/-- 'jacquardlaw6.ProgSkips': WHATEVER THE INPUT: true; the input reads as it did. -/
def progSkipsSpec : ChangeSpec := { name := "progSkips", fn := fun _ => fun
  | [d1, d2, d3] => { results := [.lit (.bool true)], args := [d1, d2, d3] }
  | _ => none }
def progSkipsRow : OpenClaim := { program := "ytldfafaiappibaa", sum := "fc11cd0762ac7dbb93cd3c23a1360ea4305fa010eae925b566ea3e13e48e0527", func := "jacquard/jacquardlaw6.ProgSkips", spec := "progSkips", unfollowed := true, recurses := true, apart := false }
def ProgSkipsSaid : Prop := progSkipsRow.holds Try.pinned (OpenSpec.ofChange progSkipsSpec)

/-- ITS FALSE NEIGHBOUR: 'it returns false'. Refute it at one input. -/
def progSkipsWrong : ChangeSpec := { name := "progSkips", fn := fun _ => fun
  | [d1, d2, d3] => { results := [.lit (.bool false)], args := [d1, d2, d3] }
  | _ => none }
def ProgSkipsWrongFalsely : Prop := progSkipsRow.holds Try.pinned (OpenSpec.ofChange progSkipsWrong)

/-- 'jacquardlaw6.ProgCompiles': WHATEVER THE INPUT: true; the input reads as it did. -/
def progCompilesSpec : ChangeSpec := { name := "progCompiles", fn := fun _ => fun
  | [d1, d2] => { results := [.lit (.bool true)], args := [d1, d2] }
  | _ => none }
def progCompilesRow : OpenClaim := { program := "ytldfafaiappibaa", sum := "fc11cd0762ac7dbb93cd3c23a1360ea4305fa010eae925b566ea3e13e48e0527", func := "jacquard/jacquardlaw6.ProgCompiles", spec := "progCompiles", unfollowed := true, recurses := true, apart := false }
def ProgCompilesSaid : Prop := progCompilesRow.holds Try.pinned (OpenSpec.ofChange progCompilesSpec)

/-- ITS FALSE NEIGHBOUR: 'it returns false'. Refute it at one input. -/
def progCompilesWrong : ChangeSpec := { name := "progCompiles", fn := fun _ => fun
  | [d1, d2] => { results := [.lit (.bool false)], args := [d1, d2] }
  | _ => none }
def ProgCompilesWrongFalsely : Prop := progCompilesRow.holds Try.pinned (OpenSpec.ofChange progCompilesWrong)

/-- 'jacquardlaw6.ProgSteps': WHATEVER THE INPUT: true; the input reads as it did. -/
def progStepsSpec : ChangeSpec := { name := "progSteps", fn := fun _ => fun
  | [d1, d2, d3, d4, d5] => { results := [.lit (.bool true)], args := [d1, d2, d3, d4, d5] }
  | _ => none }
def progStepsRow : OpenClaim := { program := "ytldfafaiappibaa", sum := "fc11cd0762ac7dbb93cd3c23a1360ea4305fa010eae925b566ea3e13e48e0527", func := "jacquard/jacquardlaw6.ProgSteps", spec := "progSteps", unfollowed := true, recurses := true, apart := false }
def ProgStepsSaid : Prop := progStepsRow.holds Try.pinned (OpenSpec.ofChange progStepsSpec)

/-- ITS FALSE NEIGHBOUR: 'it returns false'. Refute it at one input. -/
def progStepsWrong : ChangeSpec := { name := "progSteps", fn := fun _ => fun
  | [d1, d2, d3, d4, d5] => { results := [.lit (.bool false)], args := [d1, d2, d3, d4, d5] }
  | _ => none }
def ProgStepsWrongFalsely : Prop := progStepsRow.holds Try.pinned (OpenSpec.ofChange progStepsWrong)

/-- 'jacquardlaw6.ProgEnds': WHATEVER THE INPUT: true; the input reads as it did. -/
def progEndsSpec : ChangeSpec := { name := "progEnds", fn := fun _ => fun
  | [d1, d2] => { results := [.lit (.bool true)], args := [d1, d2] }
  | _ => none }
def progEndsRow : OpenClaim := { program := "ytldfafaiappibaa", sum := "fc11cd0762ac7dbb93cd3c23a1360ea4305fa010eae925b566ea3e13e48e0527", func := "jacquard/jacquardlaw6.ProgEnds", spec := "progEnds", unfollowed := true, recurses := true, apart := false }
def ProgEndsSaid : Prop := progEndsRow.holds Try.pinned (OpenSpec.ofChange progEndsSpec)

/-- ITS FALSE NEIGHBOUR: 'it returns false'. Refute it at one input. -/
def progEndsWrong : ChangeSpec := { name := "progEnds", fn := fun _ => fun
  | [d1, d2] => { results := [.lit (.bool false)], args := [d1, d2] }
  | _ => none }
def ProgEndsWrongFalsely : Prop := progEndsRow.holds Try.pinned (OpenSpec.ofChange progEndsWrong)

/- THE SECOND FORM. 'bulk': how many values and letters a reading holds, each counted each time it is reached (what is shared counts as often as it is met; a slice's spare places count too). A statement '..UptoSaid' is the law's where the arguments, and the package variables that the reading takes, are together of bulk at most 1048576: NARROWER than '..Said'. Prove '..Said' where nothing that the law and all that it calls make is longer than what came in: it says more and counts as full. Else prove '..UptoSaid'. A law counts once. -/
mutual
def uptoBulk {H : Type} : DataW H → Nat
  | .lit (.string bytes) => bytes.length + 1
  | .lit _ => 1
  | .nil => 1
  | .ptr d => uptoBulk d + 1
  | .slice elems spare => uptoBulkAll elems + uptoBulkAll spare + 1
  | .agg parts => uptoBulkAll parts + 1
  | .iface _ d => uptoBulk d + 1
  | .map entries => uptoBulkEntries entries + 1
  | .held _ => 1
def uptoBulkAll {H : Type} : List (DataW H) → Nat
  | [] => 0
  | d :: r => uptoBulk d + uptoBulkAll r
def uptoBulkEntries {H : Type} : List (Lit × DataW H) → Nat
  | [] => 0
  | x :: r => uptoBulkEntry x + uptoBulkEntries r
def uptoBulkEntry {H : Type} : Lit × DataW H → Nat
  | (.string bytes, d) => bytes.length + uptoBulk d + 1
  | (_, d) => uptoBulk d + 1
 end
def uptoSmall : (H : Type) → List (DataW H) → Bool := fun _ ds => decide (uptoBulkAll ds ≤ 1048576)
def OpenSpec.upto (s : _root_.Go.ChangeSpec) : _root_.Go.OpenSpec := { _root_.Go.OpenSpec.ofChange s with cond := some uptoSmall }

/-- 'jacquardlaw10.EventMore', WHERE WHAT IT READS IS OF BULK AT MOST 1048576: true; the input reads as it did. -/
def eventMoreUptoRow : OpenClaim := { program := "ytldfafaiappibaa", sum := "fc11cd0762ac7dbb93cd3c23a1360ea4305fa010eae925b566ea3e13e48e0527", func := "jacquard/jacquardlaw10.EventMore", spec := "eventMore", unfollowed := true, recurses := true, apart := false, narrowed := true }
def EventMoreUptoSaid : Prop := eventMoreUptoRow.holds Try.pinned (OpenSpec.upto eventMoreSpec)

/-- 'jacquardlaw10.EventCounts', WHERE WHAT IT READS IS OF BULK AT MOST 1048576: true; the input reads as it did. -/
def eventCountsUptoRow : OpenClaim := { program := "ytldfafaiappibaa", sum := "fc11cd0762ac7dbb93cd3c23a1360ea4305fa010eae925b566ea3e13e48e0527", func := "jacquard/jacquardlaw10.EventCounts", spec := "eventCounts", unfollowed := true, recurses := true, apart := false, narrowed := true }
def EventCountsUptoSaid : Prop := eventCountsUptoRow.holds Try.pinned (OpenSpec.upto eventCountsSpec)

/-- 'jacquardlaw10.EventKinds', WHERE WHAT IT READS IS OF BULK AT MOST 1048576: true; the input reads as it did. -/
def eventKindsUptoRow : OpenClaim := { program := "ytldfafaiappibaa", sum := "fc11cd0762ac7dbb93cd3c23a1360ea4305fa010eae925b566ea3e13e48e0527", func := "jacquard/jacquardlaw10.EventKinds", spec := "eventKinds", apart := false, narrowed := true }
def EventKindsUptoSaid : Prop := eventKindsUptoRow.holds Try.pinned (OpenSpec.upto eventKindsSpec)

/-- 'jacquardlaw10.EventUnfolds', WHERE WHAT IT READS IS OF BULK AT MOST 1048576: true; the input reads as it did. -/
def eventUnfoldsUptoRow : OpenClaim := { program := "ytldfafaiappibaa", sum := "fc11cd0762ac7dbb93cd3c23a1360ea4305fa010eae925b566ea3e13e48e0527", func := "jacquard/jacquardlaw10.EventUnfolds", spec := "eventUnfolds", unfollowed := true, recurses := true, apart := false, narrowed := true }
def EventUnfoldsUptoSaid : Prop := eventUnfoldsUptoRow.holds Try.pinned (OpenSpec.upto eventUnfoldsSpec)

/-- 'jacquardlaw10.EventOrders', WHERE WHAT IT READS IS OF BULK AT MOST 1048576: true; the input reads as it did. -/
def eventOrdersUptoRow : OpenClaim := { program := "ytldfafaiappibaa", sum := "fc11cd0762ac7dbb93cd3c23a1360ea4305fa010eae925b566ea3e13e48e0527", func := "jacquard/jacquardlaw10.EventOrders", spec := "eventOrders", apart := false, narrowed := true }
def EventOrdersUptoSaid : Prop := eventOrdersUptoRow.holds Try.pinned (OpenSpec.upto eventOrdersSpec)

/-- 'jacquardlaw6.ProgSets', WHERE WHAT IT READS IS OF BULK AT MOST 1048576: true; the input reads as it did. -/
def progSetsUptoRow : OpenClaim := { program := "ytldfafaiappibaa", sum := "fc11cd0762ac7dbb93cd3c23a1360ea4305fa010eae925b566ea3e13e48e0527", func := "jacquard/jacquardlaw6.ProgSets", spec := "progSets", unfollowed := true, recurses := true, apart := false, narrowed := true }
def ProgSetsUptoSaid : Prop := progSetsUptoRow.holds Try.pinned (OpenSpec.upto progSetsSpec)

/-- 'jacquardlaw6.ProgSkips', WHERE WHAT IT READS IS OF BULK AT MOST 1048576: true; the input reads as it did. -/
def progSkipsUptoRow : OpenClaim := { program := "ytldfafaiappibaa", sum := "fc11cd0762ac7dbb93cd3c23a1360ea4305fa010eae925b566ea3e13e48e0527", func := "jacquard/jacquardlaw6.ProgSkips", spec := "progSkips", unfollowed := true, recurses := true, apart := false, narrowed := true }
def ProgSkipsUptoSaid : Prop := progSkipsUptoRow.holds Try.pinned (OpenSpec.upto progSkipsSpec)

/-- 'jacquardlaw6.ProgCompiles', WHERE WHAT IT READS IS OF BULK AT MOST 1048576: true; the input reads as it did. -/
def progCompilesUptoRow : OpenClaim := { program := "ytldfafaiappibaa", sum := "fc11cd0762ac7dbb93cd3c23a1360ea4305fa010eae925b566ea3e13e48e0527", func := "jacquard/jacquardlaw6.ProgCompiles", spec := "progCompiles", unfollowed := true, recurses := true, apart := false, narrowed := true }
def ProgCompilesUptoSaid : Prop := progCompilesUptoRow.holds Try.pinned (OpenSpec.upto progCompilesSpec)

/-- 'jacquardlaw6.ProgSteps', WHERE WHAT IT READS IS OF BULK AT MOST 1048576: true; the input reads as it did. -/
def progStepsUptoRow : OpenClaim := { program := "ytldfafaiappibaa", sum := "fc11cd0762ac7dbb93cd3c23a1360ea4305fa010eae925b566ea3e13e48e0527", func := "jacquard/jacquardlaw6.ProgSteps", spec := "progSteps", unfollowed := true, recurses := true, apart := false, narrowed := true }
def ProgStepsUptoSaid : Prop := progStepsUptoRow.holds Try.pinned (OpenSpec.upto progStepsSpec)

/-- 'jacquardlaw6.ProgEnds', WHERE WHAT IT READS IS OF BULK AT MOST 1048576: true; the input reads as it did. -/
def progEndsUptoRow : OpenClaim := { program := "ytldfafaiappibaa", sum := "fc11cd0762ac7dbb93cd3c23a1360ea4305fa010eae925b566ea3e13e48e0527", func := "jacquard/jacquardlaw6.ProgEnds", spec := "progEnds", unfollowed := true, recurses := true, apart := false, narrowed := true }
def ProgEndsUptoSaid : Prop := progEndsUptoRow.holds Try.pinned (OpenSpec.upto progEndsSpec)

end Rows
end Go.Proofs.Ytldfafaiappibaa
