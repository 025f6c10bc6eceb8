/-
  No cell of these rows narrows 'for every input' (looked for: loops, veiled, ifaces, maps, wideKeys, modest, calm, conditions, laid).
  DERIVED. THE GIVEN ROWS OF THIS SEAT. 2 by the template 'for every input the law returns true; each argument reads behind the call as it read before'; 0 by the template 'total and deterministic' (their statements: YthnckbgdkljhfaaTotals.lean).
  GIVEN WITH THE SEED: the statements are not yours to turn. If you find one false, say at which input.
  Laid BY PROGRAM, IN A SANDBOX (cutbox-rows.mjs): the forced cells as the released guide's own fill.sh prints them over the translation a75894c90754bb2d… (all of the seat's roots in one cut). By AI agents, Wed Nov 11 2026. No macro, syntax, notation, axiom, sorry.
-/
import Derived.Test.YthnckbgdkljhfaaChecked
import GoSem.Claim
import GoSem.ClaimJoined
import GoSem.ClaimMapViews
import Derived.JoinedTies
import Derived.KernelRfl
namespace Go.Proofs.Ythnckbgdkljhfaa
/- THE CELL 'sum', in the pinned program and in every row, IS THE sha256 OF THE DUMP (.gsa) THAT YthnckbgdkljhfaaProg.lean LOADS. Nothing in Lean hashes anything: it is a label: what it is worth is what the hold of that sum in a sandbox is worth. -/
noncomputable def Try.pinned : Pinned := { name := "ythnckbgdkljhfaa", sum := "a75894c90754bb2d64cc47f11e0f35270413995896052674e40d42d51b76b0ac", checked := Try.checked }
namespace Rows
def none {H : Type} : Left H := { results := [], args := [] }

/-- 'jacquardlaw21.SleepWakes': WHATEVER THE INPUT: true; the input reads as it did. -/
def sleepWakesSpec : ChangeSpec := { name := "sleepWakes", fn := fun _ => fun
  | [d1, d2, d3, d4] => { results := [.lit (.bool true)], args := [d1, d2, d3, d4] }
  | _ => none }
def sleepWakesRow : OpenClaim := { program := "ythnckbgdkljhfaa", sum := "a75894c90754bb2d64cc47f11e0f35270413995896052674e40d42d51b76b0ac", func := "jacquard/jacquardlaw21.SleepWakes", spec := "sleepWakes", apart := false }
def SleepWakesSaid : Prop := sleepWakesRow.holds Try.pinned (OpenSpec.ofChange sleepWakesSpec)

/-- ITS FALSE NEIGHBOUR: 'it returns false'. Refute it at one input. -/
def sleepWakesWrong : ChangeSpec := { name := "sleepWakes", fn := fun _ => fun
  | [d1, d2, d3, d4] => { results := [.lit (.bool false)], args := [d1, d2, d3, d4] }
  | _ => none }
def SleepWakesWrongFalsely : Prop := sleepWakesRow.holds Try.pinned (OpenSpec.ofChange sleepWakesWrong)

/-- 'jacquardlaw21.SleepTells': WHATEVER THE INPUT: true; the input reads as it did. -/
def sleepTellsSpec : ChangeSpec := { name := "sleepTells", fn := fun _ => fun
  | [d1, d2, d3, d4, d5, d6, d7, d8] => { results := [.lit (.bool true)], args := [d1, d2, d3, d4, d5, d6, d7, d8] }
  | _ => none }
def sleepTellsRow : OpenClaim := { program := "ythnckbgdkljhfaa", sum := "a75894c90754bb2d64cc47f11e0f35270413995896052674e40d42d51b76b0ac", func := "jacquard/jacquardlaw21.SleepTells", spec := "sleepTells", apart := false }
def SleepTellsSaid : Prop := sleepTellsRow.holds Try.pinned (OpenSpec.ofChange sleepTellsSpec)

/-- ITS FALSE NEIGHBOUR: 'it returns false'. Refute it at one input. -/
def sleepTellsWrong : ChangeSpec := { name := "sleepTells", fn := fun _ => fun
  | [d1, d2, d3, d4, d5, d6, d7, d8] => { results := [.lit (.bool false)], args := [d1, d2, d3, d4, d5, d6, d7, d8] }
  | _ => none }
def SleepTellsWrongFalsely : Prop := sleepTellsRow.holds Try.pinned (OpenSpec.ofChange sleepTellsWrong)

/- THE SECOND FORM. 'bulk': how many values and letters a reading holds, each counted each time it is reached (what is shared counts as often as it is met; a slice's spare places count too). A statement '..UptoSaid' is the law's where the arguments, and the package variables that the reading takes, are together of bulk at most 1048576: NARROWER than '..Said'. Prove '..Said' where nothing that the law and all that it calls make is longer than what came in: it says more and counts as full. Else prove '..UptoSaid'. A law counts once. -/
mutual
def uptoBulk {H : Type} : DataW H → Nat
  | .lit (.string bytes) => bytes.length + 1
  | .lit _ => 1
  | .nil => 1
  | .ptr d => uptoBulk d + 1
  | .slice elems spare => uptoBulkAll elems + uptoBulkAll spare + 1
  | .agg parts => uptoBulkAll parts + 1
  | .iface _ d => uptoBulk d + 1
  | .map entries => uptoBulkEntries entries + 1
  | .held _ => 1
def uptoBulkAll {H : Type} : List (DataW H) → Nat
  | [] => 0
  | d :: r => uptoBulk d + uptoBulkAll r
def uptoBulkEntries {H : Type} : List (Lit × DataW H) → Nat
  | [] => 0
  | x :: r => uptoBulkEntry x + uptoBulkEntries r
def uptoBulkEntry {H : Type} : Lit × DataW H → Nat
  | (.string bytes, d) => bytes.length + uptoBulk d + 1
  | (_, d) => uptoBulk d + 1
 end
def uptoSmall : (H : Type) → List (DataW H) → Bool := fun _ ds => decide (uptoBulkAll ds ≤ 1048576)
def OpenSpec.upto (s : _root_.Go.ChangeSpec) : _root_.Go.OpenSpec := { _root_.Go.OpenSpec.ofChange s with cond := some uptoSmall }

/-- 'jacquardlaw21.SleepWakes', WHERE WHAT IT READS IS OF BULK AT MOST 1048576: true; the input reads as it did. -/
def sleepWakesUptoRow : OpenClaim := { program := "ythnckbgdkljhfaa", sum := "a75894c90754bb2d64cc47f11e0f35270413995896052674e40d42d51b76b0ac", func := "jacquard/jacquardlaw21.SleepWakes", spec := "sleepWakes", apart := false, narrowed := true }
def SleepWakesUptoSaid : Prop := sleepWakesUptoRow.holds Try.pinned (OpenSpec.upto sleepWakesSpec)

/-- 'jacquardlaw21.SleepTells', WHERE WHAT IT READS IS OF BULK AT MOST 1048576: true; the input reads as it did. -/
def sleepTellsUptoRow : OpenClaim := { program := "ythnckbgdkljhfaa", sum := "a75894c90754bb2d64cc47f11e0f35270413995896052674e40d42d51b76b0ac", func := "jacquard/jacquardlaw21.SleepTells", spec := "sleepTells", apart := false, narrowed := true }
def SleepTellsUptoSaid : Prop := sleepTellsUptoRow.holds Try.pinned (OpenSpec.upto sleepTellsSpec)

end Rows
end Go.Proofs.Ythnckbgdkljhfaa
