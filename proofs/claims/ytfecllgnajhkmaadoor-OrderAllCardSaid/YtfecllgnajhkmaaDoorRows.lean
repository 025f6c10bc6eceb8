/-
  NARROWER THAN 'FOR EVERY INPUT', by the rows' own cells (each row's printed sentence says how): ClockShort: laid · OrderFewer: laid · OrderEach: laid · OrderKeeps: laid · OrderRanks: laid · OrderGreedy: laid · OrderCounts: laid · OrderAll: laid.
  DERIVED. THE GIVEN ROWS OF THIS SEAT. 8 by the template 'for every input the law returns true; each argument reads behind the call as it read before'; 0 by the template 'total and deterministic' (their statements: YtfecllgnajhkmaaDoorTotals.lean).
  GIVEN WITH THE SEED: the statements are not yours to turn. If you find one false, say at which input.
  Laid BY PROGRAM, IN A SANDBOX (cutbox-rows.mjs): the forced cells as the released guide's own fill.sh prints them over the translation 6b8a609771e44ebd… (all of the seat's roots in one cut). By AI agents, Wed Nov 11 2026. No macro, syntax, notation, axiom, sorry.
-/
import Derived.Test.YtfecllgnajhkmaaDoorChecked
import GoSem.Claim
import GoSem.ClaimJoined
import GoSem.ClaimMapViews
import Derived.JoinedTies
import Derived.KernelRfl
namespace Go.Proofs.YtfecllgnajhkmaaDoor
/- THE CELL 'sum', in the pinned program and in every row, IS THE sha256 OF THE DUMP (.gsa) THAT YtfecllgnajhkmaaDoorProg.lean LOADS. Nothing in Lean hashes anything: it is a label: what it is worth is what the hold of that sum in a sandbox is worth. -/
noncomputable def Tryd.pinned : Pinned := { name := "ytfecllgnajhkmaadoor", sum := "6b8a609771e44ebd08019a105768ed8e9ccd37caf8bacb6e817ed8e341f9ce22", checked := Tryd.checked }
namespace Rows
def none {H : Type} : Left H := { results := [], args := [] }

/- WHAT THE LISTED PACKAGE-LEVEL VARIABLES READ AS WHEN THE CALL BEGINS. Each datum BY PROGRAM (the guide's laid-datum.mjs) off the statement by which the dump's own 'gosem.cut.vars' lays the variable. In a bare row this is a premise. The card (YtfecllgnajhkmaaDoorCards.lean) ties it to the program's text. -/
def laid_math_bits_deBruijn64tab {H : Type} : DataW H := .agg [.lit (.int .u8 0), .lit (.int .u8 1), .lit (.int .u8 56), .lit (.int .u8 2), .lit (.int .u8 57), .lit (.int .u8 49), .lit (.int .u8 28), .lit (.int .u8 3), .lit (.int .u8 61), .lit (.int .u8 58), .lit (.int .u8 42), .lit (.int .u8 50), .lit (.int .u8 38), .lit (.int .u8 29), .lit (.int .u8 17), .lit (.int .u8 4), .lit (.int .u8 62), .lit (.int .u8 47), .lit (.int .u8 59), .lit (.int .u8 36), .lit (.int .u8 45), .lit (.int .u8 43), .lit (.int .u8 51), .lit (.int .u8 22), .lit (.int .u8 53), .lit (.int .u8 39), .lit (.int .u8 33), .lit (.int .u8 30), .lit (.int .u8 24), .lit (.int .u8 18), .lit (.int .u8 12), .lit (.int .u8 5), .lit (.int .u8 63), .lit (.int .u8 55), .lit (.int .u8 48), .lit (.int .u8 27), .lit (.int .u8 60), .lit (.int .u8 41), .lit (.int .u8 37), .lit (.int .u8 16), .lit (.int .u8 46), .lit (.int .u8 35), .lit (.int .u8 44), .lit (.int .u8 21), .lit (.int .u8 52), .lit (.int .u8 32), .lit (.int .u8 23), .lit (.int .u8 11), .lit (.int .u8 54), .lit (.int .u8 26), .lit (.int .u8 40), .lit (.int .u8 15), .lit (.int .u8 34), .lit (.int .u8 20), .lit (.int .u8 31), .lit (.int .u8 10), .lit (.int .u8 25), .lit (.int .u8 14), .lit (.int .u8 19), .lit (.int .u8 9), .lit (.int .u8 13), .lit (.int .u8 8), .lit (.int .u8 7), .lit (.int .u8 6)]

/-- 'jacquardlaw18.ClockShort': WHATEVER THE INPUT: true; the input reads as it did. -/
def clockShortSpec : ChangeSpec := { name := "clockShort", fn := fun _ => fun
  | [d1, d2, d3] => { results := [.lit (.bool true)], args := [d1, d2, d3] }
  | _ => none }
def clockShortRow : OpenClaim := { program := "ytfecllgnajhkmaadoor", sum := "6b8a609771e44ebd08019a105768ed8e9ccd37caf8bacb6e817ed8e341f9ce22", func := "jacquard/jacquardlaw18.ClockShort", spec := "clockShort", named := ["math/bits.deBruijn64tab"], apart := false, laid := [("math/bits.deBruijn64tab", laid_math_bits_deBruijn64tab)] }
def ClockShortSaid : Prop := clockShortRow.holds Tryd.pinned (OpenSpec.ofChange clockShortSpec)

/-- ITS FALSE NEIGHBOUR: 'it returns false'. Refute it at one input. -/
def clockShortWrong : ChangeSpec := { name := "clockShort", fn := fun _ => fun
  | [d1, d2, d3] => { results := [.lit (.bool false)], args := [d1, d2, d3] }
  | _ => none }
def ClockShortWrongFalsely : Prop := clockShortRow.holds Tryd.pinned (OpenSpec.ofChange clockShortWrong)

/-- 'jacquardlaw9.OrderFewer': WHATEVER THE INPUT: true; the input reads as it did. -/
def orderFewerSpec : ChangeSpec := { name := "orderFewer", fn := fun _ => fun
  | [d1, d2, d3, d4] => { results := [.lit (.bool true)], args := [d1, d2, d3, d4] }
  | _ => none }
def orderFewerRow : OpenClaim := { program := "ytfecllgnajhkmaadoor", sum := "6b8a609771e44ebd08019a105768ed8e9ccd37caf8bacb6e817ed8e341f9ce22", func := "jacquard/jacquardlaw9.OrderFewer", spec := "orderFewer", unfollowed := true, recurses := true, named := ["math/bits.deBruijn64tab"], apart := false, laid := [("math/bits.deBruijn64tab", laid_math_bits_deBruijn64tab)] }
def OrderFewerSaid : Prop := orderFewerRow.holds Tryd.pinned (OpenSpec.ofChange orderFewerSpec)

/-- ITS FALSE NEIGHBOUR: 'it returns false'. Refute it at one input. -/
def orderFewerWrong : ChangeSpec := { name := "orderFewer", fn := fun _ => fun
  | [d1, d2, d3, d4] => { results := [.lit (.bool false)], args := [d1, d2, d3, d4] }
  | _ => none }
def OrderFewerWrongFalsely : Prop := orderFewerRow.holds Tryd.pinned (OpenSpec.ofChange orderFewerWrong)

/-- 'jacquardlaw9.OrderEach': WHATEVER THE INPUT: true; the input reads as it did. -/
def orderEachSpec : ChangeSpec := { name := "orderEach", fn := fun _ => fun
  | [d1, d2] => { results := [.lit (.bool true)], args := [d1, d2] }
  | _ => none }
def orderEachRow : OpenClaim := { program := "ytfecllgnajhkmaadoor", sum := "6b8a609771e44ebd08019a105768ed8e9ccd37caf8bacb6e817ed8e341f9ce22", func := "jacquard/jacquardlaw9.OrderEach", spec := "orderEach", unfollowed := true, recurses := true, named := ["math/bits.deBruijn64tab"], apart := false, laid := [("math/bits.deBruijn64tab", laid_math_bits_deBruijn64tab)] }
def OrderEachSaid : Prop := orderEachRow.holds Tryd.pinned (OpenSpec.ofChange orderEachSpec)

/-- ITS FALSE NEIGHBOUR: 'it returns false'. Refute it at one input. -/
def orderEachWrong : ChangeSpec := { name := "orderEach", fn := fun _ => fun
  | [d1, d2] => { results := [.lit (.bool false)], args := [d1, d2] }
  | _ => none }
def OrderEachWrongFalsely : Prop := orderEachRow.holds Tryd.pinned (OpenSpec.ofChange orderEachWrong)

/-- 'jacquardlaw9.OrderKeeps': WHATEVER THE INPUT: true; the input reads as it did. -/
def orderKeepsSpec : ChangeSpec := { name := "orderKeeps", fn := fun _ => fun
  | [d1, d2, d3] => { results := [.lit (.bool true)], args := [d1, d2, d3] }
  | _ => none }
def orderKeepsRow : OpenClaim := { program := "ytfecllgnajhkmaadoor", sum := "6b8a609771e44ebd08019a105768ed8e9ccd37caf8bacb6e817ed8e341f9ce22", func := "jacquard/jacquardlaw9.OrderKeeps", spec := "orderKeeps", unfollowed := true, recurses := true, named := ["math/bits.deBruijn64tab"], apart := false, laid := [("math/bits.deBruijn64tab", laid_math_bits_deBruijn64tab)] }
def OrderKeepsSaid : Prop := orderKeepsRow.holds Tryd.pinned (OpenSpec.ofChange orderKeepsSpec)

/-- ITS FALSE NEIGHBOUR: 'it returns false'. Refute it at one input. -/
def orderKeepsWrong : ChangeSpec := { name := "orderKeeps", fn := fun _ => fun
  | [d1, d2, d3] => { results := [.lit (.bool false)], args := [d1, d2, d3] }
  | _ => none }
def OrderKeepsWrongFalsely : Prop := orderKeepsRow.holds Tryd.pinned (OpenSpec.ofChange orderKeepsWrong)

/-- 'jacquardlaw9.OrderRanks': WHATEVER THE INPUT: true; the input reads as it did. -/
def orderRanksSpec : ChangeSpec := { name := "orderRanks", fn := fun _ => fun
  | [d1, d2, d3] => { results := [.lit (.bool true)], args := [d1, d2, d3] }
  | _ => none }
def orderRanksRow : OpenClaim := { program := "ytfecllgnajhkmaadoor", sum := "6b8a609771e44ebd08019a105768ed8e9ccd37caf8bacb6e817ed8e341f9ce22", func := "jacquard/jacquardlaw9.OrderRanks", spec := "orderRanks", unfollowed := true, recurses := true, named := ["math/bits.deBruijn64tab"], apart := false, laid := [("math/bits.deBruijn64tab", laid_math_bits_deBruijn64tab)] }
def OrderRanksSaid : Prop := orderRanksRow.holds Tryd.pinned (OpenSpec.ofChange orderRanksSpec)

/-- ITS FALSE NEIGHBOUR: 'it returns false'. Refute it at one input. -/
def orderRanksWrong : ChangeSpec := { name := "orderRanks", fn := fun _ => fun
  | [d1, d2, d3] => { results := [.lit (.bool false)], args := [d1, d2, d3] }
  | _ => none }
def OrderRanksWrongFalsely : Prop := orderRanksRow.holds Tryd.pinned (OpenSpec.ofChange orderRanksWrong)

/-- 'jacquardlaw9.OrderGreedy': WHATEVER THE INPUT: true; the input reads as it did. -/
def orderGreedySpec : ChangeSpec := { name := "orderGreedy", fn := fun _ => fun
  | [d1, d2, d3] => { results := [.lit (.bool true)], args := [d1, d2, d3] }
  | _ => none }
def orderGreedyRow : OpenClaim := { program := "ytfecllgnajhkmaadoor", sum := "6b8a609771e44ebd08019a105768ed8e9ccd37caf8bacb6e817ed8e341f9ce22", func := "jacquard/jacquardlaw9.OrderGreedy", spec := "orderGreedy", unfollowed := true, recurses := true, named := ["math/bits.deBruijn64tab"], apart := false, laid := [("math/bits.deBruijn64tab", laid_math_bits_deBruijn64tab)] }
def OrderGreedySaid : Prop := orderGreedyRow.holds Tryd.pinned (OpenSpec.ofChange orderGreedySpec)

/-- ITS FALSE NEIGHBOUR: 'it returns false'. Refute it at one input. -/
def orderGreedyWrong : ChangeSpec := { name := "orderGreedy", fn := fun _ => fun
  | [d1, d2, d3] => { results := [.lit (.bool false)], args := [d1, d2, d3] }
  | _ => none }
def OrderGreedyWrongFalsely : Prop := orderGreedyRow.holds Tryd.pinned (OpenSpec.ofChange orderGreedyWrong)

/-- 'jacquardlaw9.OrderCounts': WHATEVER THE INPUT: true; the input reads as it did. -/
def orderCountsSpec : ChangeSpec := { name := "orderCounts", fn := fun _ => fun
  | [d] => { results := [.lit (.bool true)], args := [d] }
  | _ => none }
def orderCountsRow : OpenClaim := { program := "ytfecllgnajhkmaadoor", sum := "6b8a609771e44ebd08019a105768ed8e9ccd37caf8bacb6e817ed8e341f9ce22", func := "jacquard/jacquardlaw9.OrderCounts", spec := "orderCounts", unfollowed := true, recurses := true, named := ["math/bits.deBruijn64tab"], apart := false, laid := [("math/bits.deBruijn64tab", laid_math_bits_deBruijn64tab)] }
def OrderCountsSaid : Prop := orderCountsRow.holds Tryd.pinned (OpenSpec.ofChange orderCountsSpec)

/-- ITS FALSE NEIGHBOUR: 'it returns false'. Refute it at one input. -/
def orderCountsWrong : ChangeSpec := { name := "orderCounts", fn := fun _ => fun
  | [d] => { results := [.lit (.bool false)], args := [d] }
  | _ => none }
def OrderCountsWrongFalsely : Prop := orderCountsRow.holds Tryd.pinned (OpenSpec.ofChange orderCountsWrong)

/-- 'jacquardlaw9.OrderAll': WHATEVER THE INPUT: true; the input reads as it did. -/
def orderAllSpec : ChangeSpec := { name := "orderAll", fn := fun _ => fun
  | [d1, d2, d3] => { results := [.lit (.bool true)], args := [d1, d2, d3] }
  | _ => none }
def orderAllRow : OpenClaim := { program := "ytfecllgnajhkmaadoor", sum := "6b8a609771e44ebd08019a105768ed8e9ccd37caf8bacb6e817ed8e341f9ce22", func := "jacquard/jacquardlaw9.OrderAll", spec := "orderAll", unfollowed := true, recurses := true, named := ["math/bits.deBruijn64tab"], apart := false, laid := [("math/bits.deBruijn64tab", laid_math_bits_deBruijn64tab)] }
def OrderAllSaid : Prop := orderAllRow.holds Tryd.pinned (OpenSpec.ofChange orderAllSpec)

/-- ITS FALSE NEIGHBOUR: 'it returns false'. Refute it at one input. -/
def orderAllWrong : ChangeSpec := { name := "orderAll", fn := fun _ => fun
  | [d1, d2, d3] => { results := [.lit (.bool false)], args := [d1, d2, d3] }
  | _ => none }
def OrderAllWrongFalsely : Prop := orderAllRow.holds Tryd.pinned (OpenSpec.ofChange orderAllWrong)

/- THE SECOND FORM. 'bulk': how many values and letters a reading holds, each counted each time it is reached (what is shared counts as often as it is met; a slice's spare places count too). A statement '..UptoSaid' is the law's where the arguments, and the package variables that the reading takes, are together of bulk at most 1048576: NARROWER than '..Said'. Prove '..Said' where nothing that the law and all that it calls make is longer than what came in: it says more and counts as full. Else prove '..UptoSaid'. A law counts once. -/
mutual
def uptoBulk {H : Type} : DataW H → Nat
  | .lit (.string bytes) => bytes.length + 1
  | .lit _ => 1
  | .nil => 1
  | .ptr d => uptoBulk d + 1
  | .slice elems spare => uptoBulkAll elems + uptoBulkAll spare + 1
  | .agg parts => uptoBulkAll parts + 1
  | .iface _ d => uptoBulk d + 1
  | .map entries => uptoBulkEntries entries + 1
  | .held _ => 1
def uptoBulkAll {H : Type} : List (DataW H) → Nat
  | [] => 0
  | d :: r => uptoBulk d + uptoBulkAll r
def uptoBulkEntries {H : Type} : List (Lit × DataW H) → Nat
  | [] => 0
  | x :: r => uptoBulkEntry x + uptoBulkEntries r
def uptoBulkEntry {H : Type} : Lit × DataW H → Nat
  | (.string bytes, d) => bytes.length + uptoBulk d + 1
  | (_, d) => uptoBulk d + 1
 end
def uptoSmall : (H : Type) → List (DataW H) → Bool := fun _ ds => decide (uptoBulkAll ds ≤ 1048576)
def OpenSpec.upto (s : _root_.Go.ChangeSpec) : _root_.Go.OpenSpec := { _root_.Go.OpenSpec.ofChange s with cond := some uptoSmall }

/-- 'jacquardlaw18.ClockShort', WHERE WHAT IT READS IS OF BULK AT MOST 1048576: true; the input reads as it did. -/
def clockShortUptoRow : OpenClaim := { program := "ytfecllgnajhkmaadoor", sum := "6b8a609771e44ebd08019a105768ed8e9ccd37caf8bacb6e817ed8e341f9ce22", func := "jacquard/jacquardlaw18.ClockShort", spec := "clockShort", named := ["math/bits.deBruijn64tab"], apart := false, laid := [("math/bits.deBruijn64tab", laid_math_bits_deBruijn64tab)], narrowed := true }
def ClockShortUptoSaid : Prop := clockShortUptoRow.holds Tryd.pinned (OpenSpec.upto clockShortSpec)

/-- 'jacquardlaw9.OrderFewer', WHERE WHAT IT READS IS OF BULK AT MOST 1048576: true; the input reads as it did. -/
def orderFewerUptoRow : OpenClaim := { program := "ytfecllgnajhkmaadoor", sum := "6b8a609771e44ebd08019a105768ed8e9ccd37caf8bacb6e817ed8e341f9ce22", func := "jacquard/jacquardlaw9.OrderFewer", spec := "orderFewer", unfollowed := true, recurses := true, named := ["math/bits.deBruijn64tab"], apart := false, laid := [("math/bits.deBruijn64tab", laid_math_bits_deBruijn64tab)], narrowed := true }
def OrderFewerUptoSaid : Prop := orderFewerUptoRow.holds Tryd.pinned (OpenSpec.upto orderFewerSpec)

/-- 'jacquardlaw9.OrderEach', WHERE WHAT IT READS IS OF BULK AT MOST 1048576: true; the input reads as it did. -/
def orderEachUptoRow : OpenClaim := { program := "ytfecllgnajhkmaadoor", sum := "6b8a609771e44ebd08019a105768ed8e9ccd37caf8bacb6e817ed8e341f9ce22", func := "jacquard/jacquardlaw9.OrderEach", spec := "orderEach", unfollowed := true, recurses := true, named := ["math/bits.deBruijn64tab"], apart := false, laid := [("math/bits.deBruijn64tab", laid_math_bits_deBruijn64tab)], narrowed := true }
def OrderEachUptoSaid : Prop := orderEachUptoRow.holds Tryd.pinned (OpenSpec.upto orderEachSpec)

/-- 'jacquardlaw9.OrderKeeps', WHERE WHAT IT READS IS OF BULK AT MOST 1048576: true; the input reads as it did. -/
def orderKeepsUptoRow : OpenClaim := { program := "ytfecllgnajhkmaadoor", sum := "6b8a609771e44ebd08019a105768ed8e9ccd37caf8bacb6e817ed8e341f9ce22", func := "jacquard/jacquardlaw9.OrderKeeps", spec := "orderKeeps", unfollowed := true, recurses := true, named := ["math/bits.deBruijn64tab"], apart := false, laid := [("math/bits.deBruijn64tab", laid_math_bits_deBruijn64tab)], narrowed := true }
def OrderKeepsUptoSaid : Prop := orderKeepsUptoRow.holds Tryd.pinned (OpenSpec.upto orderKeepsSpec)

/-- 'jacquardlaw9.OrderRanks', WHERE WHAT IT READS IS OF BULK AT MOST 1048576: true; the input reads as it did. -/
def orderRanksUptoRow : OpenClaim := { program := "ytfecllgnajhkmaadoor", sum := "6b8a609771e44ebd08019a105768ed8e9ccd37caf8bacb6e817ed8e341f9ce22", func := "jacquard/jacquardlaw9.OrderRanks", spec := "orderRanks", unfollowed := true, recurses := true, named := ["math/bits.deBruijn64tab"], apart := false, laid := [("math/bits.deBruijn64tab", laid_math_bits_deBruijn64tab)], narrowed := true }
def OrderRanksUptoSaid : Prop := orderRanksUptoRow.holds Tryd.pinned (OpenSpec.upto orderRanksSpec)

/-- 'jacquardlaw9.OrderGreedy', WHERE WHAT IT READS IS OF BULK AT MOST 1048576: true; the input reads as it did. -/
def orderGreedyUptoRow : OpenClaim := { program := "ytfecllgnajhkmaadoor", sum := "6b8a609771e44ebd08019a105768ed8e9ccd37caf8bacb6e817ed8e341f9ce22", func := "jacquard/jacquardlaw9.OrderGreedy", spec := "orderGreedy", unfollowed := true, recurses := true, named := ["math/bits.deBruijn64tab"], apart := false, laid := [("math/bits.deBruijn64tab", laid_math_bits_deBruijn64tab)], narrowed := true }
def OrderGreedyUptoSaid : Prop := orderGreedyUptoRow.holds Tryd.pinned (OpenSpec.upto orderGreedySpec)

/-- 'jacquardlaw9.OrderCounts', WHERE WHAT IT READS IS OF BULK AT MOST 1048576: true; the input reads as it did. -/
def orderCountsUptoRow : OpenClaim := { program := "ytfecllgnajhkmaadoor", sum := "6b8a609771e44ebd08019a105768ed8e9ccd37caf8bacb6e817ed8e341f9ce22", func := "jacquard/jacquardlaw9.OrderCounts", spec := "orderCounts", unfollowed := true, recurses := true, named := ["math/bits.deBruijn64tab"], apart := false, laid := [("math/bits.deBruijn64tab", laid_math_bits_deBruijn64tab)], narrowed := true }
def OrderCountsUptoSaid : Prop := orderCountsUptoRow.holds Tryd.pinned (OpenSpec.upto orderCountsSpec)

/-- 'jacquardlaw9.OrderAll', WHERE WHAT IT READS IS OF BULK AT MOST 1048576: true; the input reads as it did. -/
def orderAllUptoRow : OpenClaim := { program := "ytfecllgnajhkmaadoor", sum := "6b8a609771e44ebd08019a105768ed8e9ccd37caf8bacb6e817ed8e341f9ce22", func := "jacquard/jacquardlaw9.OrderAll", spec := "orderAll", unfollowed := true, recurses := true, named := ["math/bits.deBruijn64tab"], apart := false, laid := [("math/bits.deBruijn64tab", laid_math_bits_deBruijn64tab)], narrowed := true }
def OrderAllUptoSaid : Prop := orderAllUptoRow.holds Tryd.pinned (OpenSpec.upto orderAllSpec)

end Rows
end Go.Proofs.YtfecllgnajhkmaaDoor
