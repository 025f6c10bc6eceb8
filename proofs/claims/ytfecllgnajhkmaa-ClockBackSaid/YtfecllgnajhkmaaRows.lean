/-
  No cell of these rows narrows 'for every input' (looked for: loops, veiled, ifaces, maps, wideKeys, modest, calm, conditions, laid).
  DERIVED. THE GIVEN ROWS OF THIS SEAT. 4 by the template 'for every input the law returns true; each argument reads behind the call as it read before'; 0 by the template 'total and deterministic' (their statements: YtfecllgnajhkmaaTotals.lean).
  GIVEN WITH THE SEED: the statements are not yours to turn. If you find one false, say at which input.
  Laid BY PROGRAM, IN A SANDBOX (cutbox-rows.mjs): the forced cells as the released guide's own fill.sh prints them over the translation a0e37c13a5a008d9… (all of the seat's roots in one cut). By AI agents, Wed Nov 11 2026. No macro, syntax, notation, axiom, sorry.
-/
import Derived.Test.YtfecllgnajhkmaaChecked
import GoSem.Claim
import GoSem.ClaimJoined
import GoSem.ClaimMapViews
import Derived.JoinedTies
import Derived.KernelRfl
namespace Go.Proofs.Ytfecllgnajhkmaa
/- THE CELL 'sum', in the pinned program and in every row, IS THE sha256 OF THE DUMP (.gsa) THAT YtfecllgnajhkmaaProg.lean LOADS. Nothing in Lean hashes anything: it is a label: what it is worth is what the hold of that sum in a sandbox is worth. -/
noncomputable def Try.pinned : Pinned := { name := "ytfecllgnajhkmaa", sum := "a0e37c13a5a008d9714a146141d026ea7a00b89075dd4329f539dd69da61cf46", checked := Try.checked }
namespace Rows
def none {H : Type} : Left H := { results := [], args := [] }

/-- 'jacquardlaw18.ClockRises': WHATEVER THE INPUT: true; the input reads as it did. -/
def clockRisesSpec : ChangeSpec := { name := "clockRises", fn := fun _ => fun
  | [d1, d2] => { results := [.lit (.bool true)], args := [d1, d2] }
  | _ => none }
def clockRisesRow : OpenClaim := { program := "ytfecllgnajhkmaa", sum := "a0e37c13a5a008d9714a146141d026ea7a00b89075dd4329f539dd69da61cf46", func := "jacquard/jacquardlaw18.ClockRises", spec := "clockRises", apart := false }
def ClockRisesSaid : Prop := clockRisesRow.holds Try.pinned (OpenSpec.ofChange clockRisesSpec)

/-- ITS FALSE NEIGHBOUR: 'it returns false'. Refute it at one input. -/
def clockRisesWrong : ChangeSpec := { name := "clockRises", fn := fun _ => fun
  | [d1, d2] => { results := [.lit (.bool false)], args := [d1, d2] }
  | _ => none }
def ClockRisesWrongFalsely : Prop := clockRisesRow.holds Try.pinned (OpenSpec.ofChange clockRisesWrong)

/-- 'jacquardlaw18.ClockTells': WHATEVER THE INPUT: true; the input reads as it did. -/
def clockTellsSpec : ChangeSpec := { name := "clockTells", fn := fun _ => fun
  | [d1, d2, d3] => { results := [.lit (.bool true)], args := [d1, d2, d3] }
  | _ => none }
def clockTellsRow : OpenClaim := { program := "ytfecllgnajhkmaa", sum := "a0e37c13a5a008d9714a146141d026ea7a00b89075dd4329f539dd69da61cf46", func := "jacquard/jacquardlaw18.ClockTells", spec := "clockTells", apart := false }
def ClockTellsSaid : Prop := clockTellsRow.holds Try.pinned (OpenSpec.ofChange clockTellsSpec)

/-- ITS FALSE NEIGHBOUR: 'it returns false'. Refute it at one input. -/
def clockTellsWrong : ChangeSpec := { name := "clockTells", fn := fun _ => fun
  | [d1, d2, d3] => { results := [.lit (.bool false)], args := [d1, d2, d3] }
  | _ => none }
def ClockTellsWrongFalsely : Prop := clockTellsRow.holds Try.pinned (OpenSpec.ofChange clockTellsWrong)

/-- 'jacquardlaw18.ClockJoins': WHATEVER THE INPUT: true; the input reads as it did. -/
def clockJoinsSpec : ChangeSpec := { name := "clockJoins", fn := fun _ => fun
  | [d1, d2, d3] => { results := [.lit (.bool true)], args := [d1, d2, d3] }
  | _ => none }
def clockJoinsRow : OpenClaim := { program := "ytfecllgnajhkmaa", sum := "a0e37c13a5a008d9714a146141d026ea7a00b89075dd4329f539dd69da61cf46", func := "jacquard/jacquardlaw18.ClockJoins", spec := "clockJoins", apart := false }
def ClockJoinsSaid : Prop := clockJoinsRow.holds Try.pinned (OpenSpec.ofChange clockJoinsSpec)

/-- ITS FALSE NEIGHBOUR: 'it returns false'. Refute it at one input. -/
def clockJoinsWrong : ChangeSpec := { name := "clockJoins", fn := fun _ => fun
  | [d1, d2, d3] => { results := [.lit (.bool false)], args := [d1, d2, d3] }
  | _ => none }
def ClockJoinsWrongFalsely : Prop := clockJoinsRow.holds Try.pinned (OpenSpec.ofChange clockJoinsWrong)

/-- 'jacquardlaw18.ClockBack': WHATEVER THE INPUT: true; the input reads as it did. -/
def clockBackSpec : ChangeSpec := { name := "clockBack", fn := fun _ => fun
  | [d1, d2] => { results := [.lit (.bool true)], args := [d1, d2] }
  | _ => none }
def clockBackRow : OpenClaim := { program := "ytfecllgnajhkmaa", sum := "a0e37c13a5a008d9714a146141d026ea7a00b89075dd4329f539dd69da61cf46", func := "jacquard/jacquardlaw18.ClockBack", spec := "clockBack", apart := false }
def ClockBackSaid : Prop := clockBackRow.holds Try.pinned (OpenSpec.ofChange clockBackSpec)

/-- ITS FALSE NEIGHBOUR: 'it returns false'. Refute it at one input. -/
def clockBackWrong : ChangeSpec := { name := "clockBack", fn := fun _ => fun
  | [d1, d2] => { results := [.lit (.bool false)], args := [d1, d2] }
  | _ => none }
def ClockBackWrongFalsely : Prop := clockBackRow.holds Try.pinned (OpenSpec.ofChange clockBackWrong)

/- THE SECOND FORM. 'bulk': how many values and letters a reading holds, each counted each time it is reached (what is shared counts as often as it is met; a slice's spare places count too). A statement '..UptoSaid' is the law's where the arguments, and the package variables that the reading takes, are together of bulk at most 1048576: NARROWER than '..Said'. Prove '..Said' where nothing that the law and all that it calls make is longer than what came in: it says more and counts as full. Else prove '..UptoSaid'. A law counts once. -/
mutual
def uptoBulk {H : Type} : DataW H → Nat
  | .lit (.string bytes) => bytes.length + 1
  | .lit _ => 1
  | .nil => 1
  | .ptr d => uptoBulk d + 1
  | .slice elems spare => uptoBulkAll elems + uptoBulkAll spare + 1
  | .agg parts => uptoBulkAll parts + 1
  | .iface _ d => uptoBulk d + 1
  | .map entries => uptoBulkEntries entries + 1
  | .held _ => 1
def uptoBulkAll {H : Type} : List (DataW H) → Nat
  | [] => 0
  | d :: r => uptoBulk d + uptoBulkAll r
def uptoBulkEntries {H : Type} : List (Lit × DataW H) → Nat
  | [] => 0
  | x :: r => uptoBulkEntry x + uptoBulkEntries r
def uptoBulkEntry {H : Type} : Lit × DataW H → Nat
  | (.string bytes, d) => bytes.length + uptoBulk d + 1
  | (_, d) => uptoBulk d + 1
 end
def uptoSmall : (H : Type) → List (DataW H) → Bool := fun _ ds => decide (uptoBulkAll ds ≤ 1048576)
def OpenSpec.upto (s : _root_.Go.ChangeSpec) : _root_.Go.OpenSpec := { _root_.Go.OpenSpec.ofChange s with cond := some uptoSmall }

/-- 'jacquardlaw18.ClockRises', WHERE WHAT IT READS IS OF BULK AT MOST 1048576: true; the input reads as it did. -/
def clockRisesUptoRow : OpenClaim := { program := "ytfecllgnajhkmaa", sum := "a0e37c13a5a008d9714a146141d026ea7a00b89075dd4329f539dd69da61cf46", func := "jacquard/jacquardlaw18.ClockRises", spec := "clockRises", apart := false, narrowed := true }
def ClockRisesUptoSaid : Prop := clockRisesUptoRow.holds Try.pinned (OpenSpec.upto clockRisesSpec)

/-- 'jacquardlaw18.ClockTells', WHERE WHAT IT READS IS OF BULK AT MOST 1048576: true; the input reads as it did. -/
def clockTellsUptoRow : OpenClaim := { program := "ytfecllgnajhkmaa", sum := "a0e37c13a5a008d9714a146141d026ea7a00b89075dd4329f539dd69da61cf46", func := "jacquard/jacquardlaw18.ClockTells", spec := "clockTells", apart := false, narrowed := true }
def ClockTellsUptoSaid : Prop := clockTellsUptoRow.holds Try.pinned (OpenSpec.upto clockTellsSpec)

/-- 'jacquardlaw18.ClockJoins', WHERE WHAT IT READS IS OF BULK AT MOST 1048576: true; the input reads as it did. -/
def clockJoinsUptoRow : OpenClaim := { program := "ytfecllgnajhkmaa", sum := "a0e37c13a5a008d9714a146141d026ea7a00b89075dd4329f539dd69da61cf46", func := "jacquard/jacquardlaw18.ClockJoins", spec := "clockJoins", apart := false, narrowed := true }
def ClockJoinsUptoSaid : Prop := clockJoinsUptoRow.holds Try.pinned (OpenSpec.upto clockJoinsSpec)

/-- 'jacquardlaw18.ClockBack', WHERE WHAT IT READS IS OF BULK AT MOST 1048576: true; the input reads as it did. -/
def clockBackUptoRow : OpenClaim := { program := "ytfecllgnajhkmaa", sum := "a0e37c13a5a008d9714a146141d026ea7a00b89075dd4329f539dd69da61cf46", func := "jacquard/jacquardlaw18.ClockBack", spec := "clockBack", apart := false, narrowed := true }
def ClockBackUptoSaid : Prop := clockBackUptoRow.holds Try.pinned (OpenSpec.upto clockBackSpec)

end Rows
end Go.Proofs.Ytfecllgnajhkmaa
