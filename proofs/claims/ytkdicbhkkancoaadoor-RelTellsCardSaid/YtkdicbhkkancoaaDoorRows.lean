/-
  NARROWER THAN 'FOR EVERY INPUT', by the rows' own cells (each row's printed sentence says how): RelPairs: laid · RelThen: laid · SetNexts: laid · SetAlgebra: laid · SetTells: laid · SetUptos: laid · RelKeeps: laid · RelAlgebra: laid · RelTells: laid.
  DERIVED. THE GIVEN ROWS OF THIS SEAT. 9 by the template 'for every input the law returns true; each argument reads behind the call as it read before'; 0 by the template 'total and deterministic' (their statements: YtkdicbhkkancoaaDoorTotals.lean).
  GIVEN WITH THE SEED: the statements are not yours to turn. If you find one false, say at which input.
  Laid BY PROGRAM, IN A SANDBOX (cutbox-rows.mjs): the forced cells as the released guide's own fill.sh prints them over the translation 9ccc13ac0a804bb1… (all of the seat's roots in one cut). By AI agents, Wed Nov 11 2026. No macro, syntax, notation, axiom, sorry.
-/
import Derived.Test.YtkdicbhkkancoaaDoorChecked
import GoSem.Claim
import GoSem.ClaimJoined
import GoSem.ClaimMapViews
import Derived.JoinedTies
import Derived.KernelRfl
namespace Go.Proofs.YtkdicbhkkancoaaDoor
/- THE CELL 'sum', in the pinned program and in every row, IS THE sha256 OF THE DUMP (.gsa) THAT YtkdicbhkkancoaaDoorProg.lean LOADS. Nothing in Lean hashes anything: it is a label: what it is worth is what the hold of that sum in a sandbox is worth. -/
noncomputable def Tryd.pinned : Pinned := { name := "ytkdicbhkkancoaadoor", sum := "9ccc13ac0a804bb126e1197fb1d6bf664e4887f5db567f73429f6a5c064c759c", checked := Tryd.checked }
namespace Rows
def none {H : Type} : Left H := { results := [], args := [] }

/- WHAT THE LISTED PACKAGE-LEVEL VARIABLES READ AS WHEN THE CALL BEGINS. Each datum BY PROGRAM (the guide's laid-datum.mjs) off the statement by which the dump's own 'gosem.cut.vars' lays the variable. In a bare row this is a premise. The card (YtkdicbhkkancoaaDoorCards.lean) ties it to the program's text. -/
def laid_math_bits_deBruijn64tab {H : Type} : DataW H := .agg [.lit (.int .u8 0), .lit (.int .u8 1), .lit (.int .u8 56), .lit (.int .u8 2), .lit (.int .u8 57), .lit (.int .u8 49), .lit (.int .u8 28), .lit (.int .u8 3), .lit (.int .u8 61), .lit (.int .u8 58), .lit (.int .u8 42), .lit (.int .u8 50), .lit (.int .u8 38), .lit (.int .u8 29), .lit (.int .u8 17), .lit (.int .u8 4), .lit (.int .u8 62), .lit (.int .u8 47), .lit (.int .u8 59), .lit (.int .u8 36), .lit (.int .u8 45), .lit (.int .u8 43), .lit (.int .u8 51), .lit (.int .u8 22), .lit (.int .u8 53), .lit (.int .u8 39), .lit (.int .u8 33), .lit (.int .u8 30), .lit (.int .u8 24), .lit (.int .u8 18), .lit (.int .u8 12), .lit (.int .u8 5), .lit (.int .u8 63), .lit (.int .u8 55), .lit (.int .u8 48), .lit (.int .u8 27), .lit (.int .u8 60), .lit (.int .u8 41), .lit (.int .u8 37), .lit (.int .u8 16), .lit (.int .u8 46), .lit (.int .u8 35), .lit (.int .u8 44), .lit (.int .u8 21), .lit (.int .u8 52), .lit (.int .u8 32), .lit (.int .u8 23), .lit (.int .u8 11), .lit (.int .u8 54), .lit (.int .u8 26), .lit (.int .u8 40), .lit (.int .u8 15), .lit (.int .u8 34), .lit (.int .u8 20), .lit (.int .u8 31), .lit (.int .u8 10), .lit (.int .u8 25), .lit (.int .u8 14), .lit (.int .u8 19), .lit (.int .u8 9), .lit (.int .u8 13), .lit (.int .u8 8), .lit (.int .u8 7), .lit (.int .u8 6)]

/-- 'jacquardlaw8.RelPairs': WHATEVER THE INPUT: true; the input reads as it did. -/
def relPairsSpec : ChangeSpec := { name := "relPairs", fn := fun _ => fun
  | [d1, d2] => { results := [.lit (.bool true)], args := [d1, d2] }
  | _ => none }
def relPairsRow : OpenClaim := { program := "ytkdicbhkkancoaadoor", sum := "9ccc13ac0a804bb126e1197fb1d6bf664e4887f5db567f73429f6a5c064c759c", func := "jacquard/jacquardlaw8.RelPairs", spec := "relPairs", named := ["math/bits.deBruijn64tab"], apart := false, laid := [("math/bits.deBruijn64tab", laid_math_bits_deBruijn64tab)] }
def RelPairsSaid : Prop := relPairsRow.holds Tryd.pinned (OpenSpec.ofChange relPairsSpec)

/-- ITS FALSE NEIGHBOUR: 'it returns false'. Refute it at one input. -/
def relPairsWrong : ChangeSpec := { name := "relPairs", fn := fun _ => fun
  | [d1, d2] => { results := [.lit (.bool false)], args := [d1, d2] }
  | _ => none }
def RelPairsWrongFalsely : Prop := relPairsRow.holds Tryd.pinned (OpenSpec.ofChange relPairsWrong)

/-- 'jacquardlaw8.RelThen': WHATEVER THE INPUT: true; the input reads as it did. -/
def relThenSpec : ChangeSpec := { name := "relThen", fn := fun _ => fun
  | [d1, d2, d3, d4, d5, d6] => { results := [.lit (.bool true)], args := [d1, d2, d3, d4, d5, d6] }
  | _ => none }
def relThenRow : OpenClaim := { program := "ytkdicbhkkancoaadoor", sum := "9ccc13ac0a804bb126e1197fb1d6bf664e4887f5db567f73429f6a5c064c759c", func := "jacquard/jacquardlaw8.RelThen", spec := "relThen", unfollowed := true, recurses := true, named := ["math/bits.deBruijn64tab"], apart := false, laid := [("math/bits.deBruijn64tab", laid_math_bits_deBruijn64tab)] }
def RelThenSaid : Prop := relThenRow.holds Tryd.pinned (OpenSpec.ofChange relThenSpec)

/-- ITS FALSE NEIGHBOUR: 'it returns false'. Refute it at one input. -/
def relThenWrong : ChangeSpec := { name := "relThen", fn := fun _ => fun
  | [d1, d2, d3, d4, d5, d6] => { results := [.lit (.bool false)], args := [d1, d2, d3, d4, d5, d6] }
  | _ => none }
def RelThenWrongFalsely : Prop := relThenRow.holds Tryd.pinned (OpenSpec.ofChange relThenWrong)

/-- 'jacquardlaw7.SetNexts': WHATEVER THE INPUT: true; the input reads as it did. -/
def setNextsSpec : ChangeSpec := { name := "setNexts", fn := fun _ => fun
  | [d1, d2, d3] => { results := [.lit (.bool true)], args := [d1, d2, d3] }
  | _ => none }
def setNextsRow : OpenClaim := { program := "ytkdicbhkkancoaadoor", sum := "9ccc13ac0a804bb126e1197fb1d6bf664e4887f5db567f73429f6a5c064c759c", func := "jacquard/jacquardlaw7.SetNexts", spec := "setNexts", named := ["math/bits.deBruijn64tab"], apart := false, laid := [("math/bits.deBruijn64tab", laid_math_bits_deBruijn64tab)] }
def SetNextsSaid : Prop := setNextsRow.holds Tryd.pinned (OpenSpec.ofChange setNextsSpec)

/-- ITS FALSE NEIGHBOUR: 'it returns false'. Refute it at one input. -/
def setNextsWrong : ChangeSpec := { name := "setNexts", fn := fun _ => fun
  | [d1, d2, d3] => { results := [.lit (.bool false)], args := [d1, d2, d3] }
  | _ => none }
def SetNextsWrongFalsely : Prop := setNextsRow.holds Tryd.pinned (OpenSpec.ofChange setNextsWrong)

/-- 'jacquardlaw7.SetAlgebra': WHATEVER THE INPUT: true; the input reads as it did. -/
def setAlgebraSpec : ChangeSpec := { name := "setAlgebra", fn := fun _ => fun
  | [d1, d2, d3] => { results := [.lit (.bool true)], args := [d1, d2, d3] }
  | _ => none }
def setAlgebraRow : OpenClaim := { program := "ytkdicbhkkancoaadoor", sum := "9ccc13ac0a804bb126e1197fb1d6bf664e4887f5db567f73429f6a5c064c759c", func := "jacquard/jacquardlaw7.SetAlgebra", spec := "setAlgebra", named := ["math/bits.deBruijn64tab"], apart := false, laid := [("math/bits.deBruijn64tab", laid_math_bits_deBruijn64tab)] }
def SetAlgebraSaid : Prop := setAlgebraRow.holds Tryd.pinned (OpenSpec.ofChange setAlgebraSpec)

/-- ITS FALSE NEIGHBOUR: 'it returns false'. Refute it at one input. -/
def setAlgebraWrong : ChangeSpec := { name := "setAlgebra", fn := fun _ => fun
  | [d1, d2, d3] => { results := [.lit (.bool false)], args := [d1, d2, d3] }
  | _ => none }
def SetAlgebraWrongFalsely : Prop := setAlgebraRow.holds Tryd.pinned (OpenSpec.ofChange setAlgebraWrong)

/-- 'jacquardlaw7.SetTells': WHATEVER THE INPUT: true; the input reads as it did. -/
def setTellsSpec : ChangeSpec := { name := "setTells", fn := fun _ => fun
  | [d1, d2, d3] => { results := [.lit (.bool true)], args := [d1, d2, d3] }
  | _ => none }
def setTellsRow : OpenClaim := { program := "ytkdicbhkkancoaadoor", sum := "9ccc13ac0a804bb126e1197fb1d6bf664e4887f5db567f73429f6a5c064c759c", func := "jacquard/jacquardlaw7.SetTells", spec := "setTells", named := ["math/bits.deBruijn64tab"], apart := false, laid := [("math/bits.deBruijn64tab", laid_math_bits_deBruijn64tab)] }
def SetTellsSaid : Prop := setTellsRow.holds Tryd.pinned (OpenSpec.ofChange setTellsSpec)

/-- ITS FALSE NEIGHBOUR: 'it returns false'. Refute it at one input. -/
def setTellsWrong : ChangeSpec := { name := "setTells", fn := fun _ => fun
  | [d1, d2, d3] => { results := [.lit (.bool false)], args := [d1, d2, d3] }
  | _ => none }
def SetTellsWrongFalsely : Prop := setTellsRow.holds Tryd.pinned (OpenSpec.ofChange setTellsWrong)

/-- 'jacquardlaw7.SetUptos': WHATEVER THE INPUT: true; the input reads as it did. -/
def setUptosSpec : ChangeSpec := { name := "setUptos", fn := fun _ => fun
  | [d1, d2, d3] => { results := [.lit (.bool true)], args := [d1, d2, d3] }
  | _ => none }
def setUptosRow : OpenClaim := { program := "ytkdicbhkkancoaadoor", sum := "9ccc13ac0a804bb126e1197fb1d6bf664e4887f5db567f73429f6a5c064c759c", func := "jacquard/jacquardlaw7.SetUptos", spec := "setUptos", named := ["math/bits.deBruijn64tab"], apart := false, laid := [("math/bits.deBruijn64tab", laid_math_bits_deBruijn64tab)] }
def SetUptosSaid : Prop := setUptosRow.holds Tryd.pinned (OpenSpec.ofChange setUptosSpec)

/-- ITS FALSE NEIGHBOUR: 'it returns false'. Refute it at one input. -/
def setUptosWrong : ChangeSpec := { name := "setUptos", fn := fun _ => fun
  | [d1, d2, d3] => { results := [.lit (.bool false)], args := [d1, d2, d3] }
  | _ => none }
def SetUptosWrongFalsely : Prop := setUptosRow.holds Tryd.pinned (OpenSpec.ofChange setUptosWrong)

/-- 'jacquardlaw8.RelKeeps': WHATEVER THE INPUT: true; the input reads as it did. -/
def relKeepsSpec : ChangeSpec := { name := "relKeeps", fn := fun _ => fun
  | [d1, d2, d3, d4] => { results := [.lit (.bool true)], args := [d1, d2, d3, d4] }
  | _ => none }
def relKeepsRow : OpenClaim := { program := "ytkdicbhkkancoaadoor", sum := "9ccc13ac0a804bb126e1197fb1d6bf664e4887f5db567f73429f6a5c064c759c", func := "jacquard/jacquardlaw8.RelKeeps", spec := "relKeeps", unfollowed := true, recurses := true, named := ["math/bits.deBruijn64tab"], apart := false, laid := [("math/bits.deBruijn64tab", laid_math_bits_deBruijn64tab)] }
def RelKeepsSaid : Prop := relKeepsRow.holds Tryd.pinned (OpenSpec.ofChange relKeepsSpec)

/-- ITS FALSE NEIGHBOUR: 'it returns false'. Refute it at one input. -/
def relKeepsWrong : ChangeSpec := { name := "relKeeps", fn := fun _ => fun
  | [d1, d2, d3, d4] => { results := [.lit (.bool false)], args := [d1, d2, d3, d4] }
  | _ => none }
def RelKeepsWrongFalsely : Prop := relKeepsRow.holds Tryd.pinned (OpenSpec.ofChange relKeepsWrong)

/-- 'jacquardlaw8.RelAlgebra': WHATEVER THE INPUT: true; the input reads as it did. -/
def relAlgebraSpec : ChangeSpec := { name := "relAlgebra", fn := fun _ => fun
  | [d1, d2, d3] => { results := [.lit (.bool true)], args := [d1, d2, d3] }
  | _ => none }
def relAlgebraRow : OpenClaim := { program := "ytkdicbhkkancoaadoor", sum := "9ccc13ac0a804bb126e1197fb1d6bf664e4887f5db567f73429f6a5c064c759c", func := "jacquard/jacquardlaw8.RelAlgebra", spec := "relAlgebra", unfollowed := true, recurses := true, named := ["math/bits.deBruijn64tab"], apart := false, laid := [("math/bits.deBruijn64tab", laid_math_bits_deBruijn64tab)] }
def RelAlgebraSaid : Prop := relAlgebraRow.holds Tryd.pinned (OpenSpec.ofChange relAlgebraSpec)

/-- ITS FALSE NEIGHBOUR: 'it returns false'. Refute it at one input. -/
def relAlgebraWrong : ChangeSpec := { name := "relAlgebra", fn := fun _ => fun
  | [d1, d2, d3] => { results := [.lit (.bool false)], args := [d1, d2, d3] }
  | _ => none }
def RelAlgebraWrongFalsely : Prop := relAlgebraRow.holds Tryd.pinned (OpenSpec.ofChange relAlgebraWrong)

/-- 'jacquardlaw8.RelTells': WHATEVER THE INPUT: true; the input reads as it did. -/
def relTellsSpec : ChangeSpec := { name := "relTells", fn := fun _ => fun
  | [d1, d2, d3, d4, d5] => { results := [.lit (.bool true)], args := [d1, d2, d3, d4, d5] }
  | _ => none }
def relTellsRow : OpenClaim := { program := "ytkdicbhkkancoaadoor", sum := "9ccc13ac0a804bb126e1197fb1d6bf664e4887f5db567f73429f6a5c064c759c", func := "jacquard/jacquardlaw8.RelTells", spec := "relTells", unfollowed := true, recurses := true, named := ["math/bits.deBruijn64tab"], apart := false, laid := [("math/bits.deBruijn64tab", laid_math_bits_deBruijn64tab)] }
def RelTellsSaid : Prop := relTellsRow.holds Tryd.pinned (OpenSpec.ofChange relTellsSpec)

/-- ITS FALSE NEIGHBOUR: 'it returns false'. Refute it at one input. -/
def relTellsWrong : ChangeSpec := { name := "relTells", fn := fun _ => fun
  | [d1, d2, d3, d4, d5] => { results := [.lit (.bool false)], args := [d1, d2, d3, d4, d5] }
  | _ => none }
def RelTellsWrongFalsely : Prop := relTellsRow.holds Tryd.pinned (OpenSpec.ofChange relTellsWrong)

/- THE SECOND FORM. 'bulk': how many values and letters a reading holds, each counted each time it is reached (what is shared counts as often as it is met; a slice's spare places count too). A statement '..UptoSaid' is the law's where the arguments, and the package variables that the reading takes, are together of bulk at most 1048576: NARROWER than '..Said'. Prove '..Said' where nothing that the law and all that it calls make is longer than what came in: it says more and counts as full. Else prove '..UptoSaid'. A law counts once. -/
mutual
def uptoBulk {H : Type} : DataW H → Nat
  | .lit (.string bytes) => bytes.length + 1
  | .lit _ => 1
  | .nil => 1
  | .ptr d => uptoBulk d + 1
  | .slice elems spare => uptoBulkAll elems + uptoBulkAll spare + 1
  | .agg parts => uptoBulkAll parts + 1
  | .iface _ d => uptoBulk d + 1
  | .map entries => uptoBulkEntries entries + 1
  | .held _ => 1
def uptoBulkAll {H : Type} : List (DataW H) → Nat
  | [] => 0
  | d :: r => uptoBulk d + uptoBulkAll r
def uptoBulkEntries {H : Type} : List (Lit × DataW H) → Nat
  | [] => 0
  | x :: r => uptoBulkEntry x + uptoBulkEntries r
def uptoBulkEntry {H : Type} : Lit × DataW H → Nat
  | (.string bytes, d) => bytes.length + uptoBulk d + 1
  | (_, d) => uptoBulk d + 1
 end
def uptoSmall : (H : Type) → List (DataW H) → Bool := fun _ ds => decide (uptoBulkAll ds ≤ 1048576)
def OpenSpec.upto (s : _root_.Go.ChangeSpec) : _root_.Go.OpenSpec := { _root_.Go.OpenSpec.ofChange s with cond := some uptoSmall }

/-- 'jacquardlaw8.RelPairs', WHERE WHAT IT READS IS OF BULK AT MOST 1048576: true; the input reads as it did. -/
def relPairsUptoRow : OpenClaim := { program := "ytkdicbhkkancoaadoor", sum := "9ccc13ac0a804bb126e1197fb1d6bf664e4887f5db567f73429f6a5c064c759c", func := "jacquard/jacquardlaw8.RelPairs", spec := "relPairs", named := ["math/bits.deBruijn64tab"], apart := false, laid := [("math/bits.deBruijn64tab", laid_math_bits_deBruijn64tab)], narrowed := true }
def RelPairsUptoSaid : Prop := relPairsUptoRow.holds Tryd.pinned (OpenSpec.upto relPairsSpec)

/-- 'jacquardlaw8.RelThen', WHERE WHAT IT READS IS OF BULK AT MOST 1048576: true; the input reads as it did. -/
def relThenUptoRow : OpenClaim := { program := "ytkdicbhkkancoaadoor", sum := "9ccc13ac0a804bb126e1197fb1d6bf664e4887f5db567f73429f6a5c064c759c", func := "jacquard/jacquardlaw8.RelThen", spec := "relThen", unfollowed := true, recurses := true, named := ["math/bits.deBruijn64tab"], apart := false, laid := [("math/bits.deBruijn64tab", laid_math_bits_deBruijn64tab)], narrowed := true }
def RelThenUptoSaid : Prop := relThenUptoRow.holds Tryd.pinned (OpenSpec.upto relThenSpec)

/-- 'jacquardlaw7.SetNexts', WHERE WHAT IT READS IS OF BULK AT MOST 1048576: true; the input reads as it did. -/
def setNextsUptoRow : OpenClaim := { program := "ytkdicbhkkancoaadoor", sum := "9ccc13ac0a804bb126e1197fb1d6bf664e4887f5db567f73429f6a5c064c759c", func := "jacquard/jacquardlaw7.SetNexts", spec := "setNexts", named := ["math/bits.deBruijn64tab"], apart := false, laid := [("math/bits.deBruijn64tab", laid_math_bits_deBruijn64tab)], narrowed := true }
def SetNextsUptoSaid : Prop := setNextsUptoRow.holds Tryd.pinned (OpenSpec.upto setNextsSpec)

/-- 'jacquardlaw7.SetAlgebra', WHERE WHAT IT READS IS OF BULK AT MOST 1048576: true; the input reads as it did. -/
def setAlgebraUptoRow : OpenClaim := { program := "ytkdicbhkkancoaadoor", sum := "9ccc13ac0a804bb126e1197fb1d6bf664e4887f5db567f73429f6a5c064c759c", func := "jacquard/jacquardlaw7.SetAlgebra", spec := "setAlgebra", named := ["math/bits.deBruijn64tab"], apart := false, laid := [("math/bits.deBruijn64tab", laid_math_bits_deBruijn64tab)], narrowed := true }
def SetAlgebraUptoSaid : Prop := setAlgebraUptoRow.holds Tryd.pinned (OpenSpec.upto setAlgebraSpec)

/-- 'jacquardlaw7.SetTells', WHERE WHAT IT READS IS OF BULK AT MOST 1048576: true; the input reads as it did. -/
def setTellsUptoRow : OpenClaim := { program := "ytkdicbhkkancoaadoor", sum := "9ccc13ac0a804bb126e1197fb1d6bf664e4887f5db567f73429f6a5c064c759c", func := "jacquard/jacquardlaw7.SetTells", spec := "setTells", named := ["math/bits.deBruijn64tab"], apart := false, laid := [("math/bits.deBruijn64tab", laid_math_bits_deBruijn64tab)], narrowed := true }
def SetTellsUptoSaid : Prop := setTellsUptoRow.holds Tryd.pinned (OpenSpec.upto setTellsSpec)

/-- 'jacquardlaw7.SetUptos', WHERE WHAT IT READS IS OF BULK AT MOST 1048576: true; the input reads as it did. -/
def setUptosUptoRow : OpenClaim := { program := "ytkdicbhkkancoaadoor", sum := "9ccc13ac0a804bb126e1197fb1d6bf664e4887f5db567f73429f6a5c064c759c", func := "jacquard/jacquardlaw7.SetUptos", spec := "setUptos", named := ["math/bits.deBruijn64tab"], apart := false, laid := [("math/bits.deBruijn64tab", laid_math_bits_deBruijn64tab)], narrowed := true }
def SetUptosUptoSaid : Prop := setUptosUptoRow.holds Tryd.pinned (OpenSpec.upto setUptosSpec)

/-- 'jacquardlaw8.RelKeeps', WHERE WHAT IT READS IS OF BULK AT MOST 1048576: true; the input reads as it did. -/
def relKeepsUptoRow : OpenClaim := { program := "ytkdicbhkkancoaadoor", sum := "9ccc13ac0a804bb126e1197fb1d6bf664e4887f5db567f73429f6a5c064c759c", func := "jacquard/jacquardlaw8.RelKeeps", spec := "relKeeps", unfollowed := true, recurses := true, named := ["math/bits.deBruijn64tab"], apart := false, laid := [("math/bits.deBruijn64tab", laid_math_bits_deBruijn64tab)], narrowed := true }
def RelKeepsUptoSaid : Prop := relKeepsUptoRow.holds Tryd.pinned (OpenSpec.upto relKeepsSpec)

/-- 'jacquardlaw8.RelAlgebra', WHERE WHAT IT READS IS OF BULK AT MOST 1048576: true; the input reads as it did. -/
def relAlgebraUptoRow : OpenClaim := { program := "ytkdicbhkkancoaadoor", sum := "9ccc13ac0a804bb126e1197fb1d6bf664e4887f5db567f73429f6a5c064c759c", func := "jacquard/jacquardlaw8.RelAlgebra", spec := "relAlgebra", unfollowed := true, recurses := true, named := ["math/bits.deBruijn64tab"], apart := false, laid := [("math/bits.deBruijn64tab", laid_math_bits_deBruijn64tab)], narrowed := true }
def RelAlgebraUptoSaid : Prop := relAlgebraUptoRow.holds Tryd.pinned (OpenSpec.upto relAlgebraSpec)

/-- 'jacquardlaw8.RelTells', WHERE WHAT IT READS IS OF BULK AT MOST 1048576: true; the input reads as it did. -/
def relTellsUptoRow : OpenClaim := { program := "ytkdicbhkkancoaadoor", sum := "9ccc13ac0a804bb126e1197fb1d6bf664e4887f5db567f73429f6a5c064c759c", func := "jacquard/jacquardlaw8.RelTells", spec := "relTells", unfollowed := true, recurses := true, named := ["math/bits.deBruijn64tab"], apart := false, laid := [("math/bits.deBruijn64tab", laid_math_bits_deBruijn64tab)], narrowed := true }
def RelTellsUptoSaid : Prop := relTellsUptoRow.holds Tryd.pinned (OpenSpec.upto relTellsSpec)

end Rows
end Go.Proofs.YtkdicbhkkancoaaDoor
