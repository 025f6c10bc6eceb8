/-
  NARROWER THAN 'FOR EVERY INPUT', by the rows' own cells (each row's printed sentence says how): VmNames: laid · VmArgs: laid · VmWaits: laid · VmForwards: laid · VmFirst: laid · VmEnds: laid · VmPlain: laid · VmPlays: laid · VmCopies: laid.
  DERIVED. THE GIVEN ROWS OF THIS SEAT. 9 by the template 'for every input the law returns true; each argument reads behind the call as it read before'; 0 by the template 'total and deterministic' (their statements: YtnjjcoobhpldcaaDoorTotals.lean).
  GIVEN WITH THE SEED: the statements are not yours to turn. If you find one false, say at which input.
  Laid BY PROGRAM, IN A SANDBOX (cutbox-rows.mjs): the forced cells as the released guide's own fill.sh prints them over the translation 2a7f1eb7a48a4fd6… (all of the seat's roots in one cut). By AI agents, Wed Nov 11 2026. No macro, syntax, notation, axiom, sorry.
-/
import Derived.Test.YtnjjcoobhpldcaaDoorChecked
import GoSem.Claim
import GoSem.ClaimJoined
import GoSem.ClaimMapViews
import Derived.JoinedTies
import Derived.KernelRfl
namespace Go.Proofs.YtnjjcoobhpldcaaDoor
/- THE CELL 'sum', in the pinned program and in every row, IS THE sha256 OF THE DUMP (.gsa) THAT YtnjjcoobhpldcaaDoorProg.lean LOADS. Nothing in Lean hashes anything: it is a label: what it is worth is what the hold of that sum in a sandbox is worth. -/
noncomputable def Tryd.pinned : Pinned := { name := "ytnjjcoobhpldcaadoor", sum := "2a7f1eb7a48a4fd6635c9be62c0fc20b63af964c1b8370b9c4500f4e20d80d7b", checked := Tryd.checked }
namespace Rows
def none {H : Type} : Left H := { results := [], args := [] }

/- WHAT THE LISTED PACKAGE-LEVEL VARIABLES READ AS WHEN THE CALL BEGINS. Each datum BY PROGRAM (the guide's laid-datum.mjs) off the statement by which the dump's own 'gosem.cut.vars' lays the variable. In a bare row this is a premise. The card (YtnjjcoobhpldcaaDoorCards.lean) ties it to the program's text. -/
def laid_math_bits_deBruijn32tab {H : Type} : DataW H := .agg [.lit (.int .u8 0), .lit (.int .u8 1), .lit (.int .u8 28), .lit (.int .u8 2), .lit (.int .u8 29), .lit (.int .u8 14), .lit (.int .u8 24), .lit (.int .u8 3), .lit (.int .u8 30), .lit (.int .u8 22), .lit (.int .u8 20), .lit (.int .u8 15), .lit (.int .u8 25), .lit (.int .u8 17), .lit (.int .u8 4), .lit (.int .u8 8), .lit (.int .u8 31), .lit (.int .u8 27), .lit (.int .u8 13), .lit (.int .u8 23), .lit (.int .u8 21), .lit (.int .u8 19), .lit (.int .u8 16), .lit (.int .u8 7), .lit (.int .u8 26), .lit (.int .u8 12), .lit (.int .u8 18), .lit (.int .u8 6), .lit (.int .u8 11), .lit (.int .u8 5), .lit (.int .u8 10), .lit (.int .u8 9)]
def laid_math_bits_deBruijn64tab {H : Type} : DataW H := .agg [.lit (.int .u8 0), .lit (.int .u8 1), .lit (.int .u8 56), .lit (.int .u8 2), .lit (.int .u8 57), .lit (.int .u8 49), .lit (.int .u8 28), .lit (.int .u8 3), .lit (.int .u8 61), .lit (.int .u8 58), .lit (.int .u8 42), .lit (.int .u8 50), .lit (.int .u8 38), .lit (.int .u8 29), .lit (.int .u8 17), .lit (.int .u8 4), .lit (.int .u8 62), .lit (.int .u8 47), .lit (.int .u8 59), .lit (.int .u8 36), .lit (.int .u8 45), .lit (.int .u8 43), .lit (.int .u8 51), .lit (.int .u8 22), .lit (.int .u8 53), .lit (.int .u8 39), .lit (.int .u8 33), .lit (.int .u8 30), .lit (.int .u8 24), .lit (.int .u8 18), .lit (.int .u8 12), .lit (.int .u8 5), .lit (.int .u8 63), .lit (.int .u8 55), .lit (.int .u8 48), .lit (.int .u8 27), .lit (.int .u8 60), .lit (.int .u8 41), .lit (.int .u8 37), .lit (.int .u8 16), .lit (.int .u8 46), .lit (.int .u8 35), .lit (.int .u8 44), .lit (.int .u8 21), .lit (.int .u8 52), .lit (.int .u8 32), .lit (.int .u8 23), .lit (.int .u8 11), .lit (.int .u8 54), .lit (.int .u8 26), .lit (.int .u8 40), .lit (.int .u8 15), .lit (.int .u8 34), .lit (.int .u8 20), .lit (.int .u8 31), .lit (.int .u8 10), .lit (.int .u8 25), .lit (.int .u8 14), .lit (.int .u8 19), .lit (.int .u8 9), .lit (.int .u8 13), .lit (.int .u8 8), .lit (.int .u8 7), .lit (.int .u8 6)]
def laid_internal_strconv_uint64pow10 {H : Type} : DataW H := .agg [.lit (.int .u64 1), .lit (.int .u64 10), .lit (.int .u64 100), .lit (.int .u64 1000), .lit (.int .u64 10000), .lit (.int .u64 100000), .lit (.int .u64 1000000), .lit (.int .u64 10000000), .lit (.int .u64 100000000), .lit (.int .u64 1000000000), .lit (.int .u64 10000000000), .lit (.int .u64 100000000000), .lit (.int .u64 1000000000000), .lit (.int .u64 10000000000000), .lit (.int .u64 100000000000000), .lit (.int .u64 1000000000000000), .lit (.int .u64 10000000000000000), .lit (.int .u64 100000000000000000), .lit (.int .u64 1000000000000000000), .lit (.int .u64 10000000000000000000)]

/-- 'jacquardlaw16.VmNames': WHATEVER THE INPUT: true; the input reads as it did. -/
def vmNamesSpec : ChangeSpec := { name := "vmNames", fn := fun _ => fun
  | [d1, d2] => { results := [.lit (.bool true)], args := [d1, d2] }
  | _ => none }
def vmNamesRow : OpenClaim := { program := "ytnjjcoobhpldcaadoor", sum := "2a7f1eb7a48a4fd6635c9be62c0fc20b63af964c1b8370b9c4500f4e20d80d7b", func := "jacquard/jacquardlaw16.VmNames", spec := "vmNames", unfollowed := true, recurses := true, named := ["internal/strconv.uint64pow10", "math/bits.deBruijn32tab", "math/bits.deBruijn64tab"], apart := false, laid := [("math/bits.deBruijn32tab", laid_math_bits_deBruijn32tab), ("math/bits.deBruijn64tab", laid_math_bits_deBruijn64tab), ("internal/strconv.uint64pow10", laid_internal_strconv_uint64pow10)] }
def VmNamesSaid : Prop := vmNamesRow.holds Tryd.pinned (OpenSpec.ofChange vmNamesSpec)

/-- ITS FALSE NEIGHBOUR: 'it returns false'. Refute it at one input. -/
def vmNamesWrong : ChangeSpec := { name := "vmNames", fn := fun _ => fun
  | [d1, d2] => { results := [.lit (.bool false)], args := [d1, d2] }
  | _ => none }
def VmNamesWrongFalsely : Prop := vmNamesRow.holds Tryd.pinned (OpenSpec.ofChange vmNamesWrong)

/-- 'jacquardlaw16.VmArgs': WHATEVER THE INPUT: true; the input reads as it did. -/
def vmArgsSpec : ChangeSpec := { name := "vmArgs", fn := fun _ => fun
  | [d1, d2, d3] => { results := [.lit (.bool true)], args := [d1, d2, d3] }
  | _ => none }
def vmArgsRow : OpenClaim := { program := "ytnjjcoobhpldcaadoor", sum := "2a7f1eb7a48a4fd6635c9be62c0fc20b63af964c1b8370b9c4500f4e20d80d7b", func := "jacquard/jacquardlaw16.VmArgs", spec := "vmArgs", unfollowed := true, recurses := true, named := ["internal/strconv.uint64pow10", "math/bits.deBruijn32tab", "math/bits.deBruijn64tab"], apart := false, laid := [("math/bits.deBruijn32tab", laid_math_bits_deBruijn32tab), ("math/bits.deBruijn64tab", laid_math_bits_deBruijn64tab), ("internal/strconv.uint64pow10", laid_internal_strconv_uint64pow10)] }
def VmArgsSaid : Prop := vmArgsRow.holds Tryd.pinned (OpenSpec.ofChange vmArgsSpec)

/-- ITS FALSE NEIGHBOUR: 'it returns false'. Refute it at one input. -/
def vmArgsWrong : ChangeSpec := { name := "vmArgs", fn := fun _ => fun
  | [d1, d2, d3] => { results := [.lit (.bool false)], args := [d1, d2, d3] }
  | _ => none }
def VmArgsWrongFalsely : Prop := vmArgsRow.holds Tryd.pinned (OpenSpec.ofChange vmArgsWrong)

/-- 'jacquardlaw16.VmWaits': WHATEVER THE INPUT: true; the input reads as it did. -/
def vmWaitsSpec : ChangeSpec := { name := "vmWaits", fn := fun _ => fun
  | [d1, d2, d3] => { results := [.lit (.bool true)], args := [d1, d2, d3] }
  | _ => none }
def vmWaitsRow : OpenClaim := { program := "ytnjjcoobhpldcaadoor", sum := "2a7f1eb7a48a4fd6635c9be62c0fc20b63af964c1b8370b9c4500f4e20d80d7b", func := "jacquard/jacquardlaw16.VmWaits", spec := "vmWaits", unfollowed := true, recurses := true, named := ["math/bits.deBruijn64tab", "internal/strconv.uint64pow10", "math/bits.deBruijn32tab"], apart := false, laid := [("math/bits.deBruijn32tab", laid_math_bits_deBruijn32tab), ("math/bits.deBruijn64tab", laid_math_bits_deBruijn64tab), ("internal/strconv.uint64pow10", laid_internal_strconv_uint64pow10)] }
def VmWaitsSaid : Prop := vmWaitsRow.holds Tryd.pinned (OpenSpec.ofChange vmWaitsSpec)

/-- ITS FALSE NEIGHBOUR: 'it returns false'. Refute it at one input. -/
def vmWaitsWrong : ChangeSpec := { name := "vmWaits", fn := fun _ => fun
  | [d1, d2, d3] => { results := [.lit (.bool false)], args := [d1, d2, d3] }
  | _ => none }
def VmWaitsWrongFalsely : Prop := vmWaitsRow.holds Tryd.pinned (OpenSpec.ofChange vmWaitsWrong)

/-- 'jacquardlaw16.VmForwards': WHATEVER THE INPUT: true; the input reads as it did. -/
def vmForwardsSpec : ChangeSpec := { name := "vmForwards", fn := fun _ => fun
  | [d1, d2, d3] => { results := [.lit (.bool true)], args := [d1, d2, d3] }
  | _ => none }
def vmForwardsRow : OpenClaim := { program := "ytnjjcoobhpldcaadoor", sum := "2a7f1eb7a48a4fd6635c9be62c0fc20b63af964c1b8370b9c4500f4e20d80d7b", func := "jacquard/jacquardlaw16.VmForwards", spec := "vmForwards", unfollowed := true, recurses := true, named := ["math/bits.deBruijn64tab", "internal/strconv.uint64pow10", "math/bits.deBruijn32tab"], apart := false, laid := [("math/bits.deBruijn32tab", laid_math_bits_deBruijn32tab), ("math/bits.deBruijn64tab", laid_math_bits_deBruijn64tab), ("internal/strconv.uint64pow10", laid_internal_strconv_uint64pow10)] }
def VmForwardsSaid : Prop := vmForwardsRow.holds Tryd.pinned (OpenSpec.ofChange vmForwardsSpec)

/-- ITS FALSE NEIGHBOUR: 'it returns false'. Refute it at one input. -/
def vmForwardsWrong : ChangeSpec := { name := "vmForwards", fn := fun _ => fun
  | [d1, d2, d3] => { results := [.lit (.bool false)], args := [d1, d2, d3] }
  | _ => none }
def VmForwardsWrongFalsely : Prop := vmForwardsRow.holds Tryd.pinned (OpenSpec.ofChange vmForwardsWrong)

/-- 'jacquardlaw16.VmFirst': WHATEVER THE INPUT: true; the input reads as it did. -/
def vmFirstSpec : ChangeSpec := { name := "vmFirst", fn := fun _ => fun
  | [d1, d2, d3] => { results := [.lit (.bool true)], args := [d1, d2, d3] }
  | _ => none }
def vmFirstRow : OpenClaim := { program := "ytnjjcoobhpldcaadoor", sum := "2a7f1eb7a48a4fd6635c9be62c0fc20b63af964c1b8370b9c4500f4e20d80d7b", func := "jacquard/jacquardlaw16.VmFirst", spec := "vmFirst", unfollowed := true, recurses := true, named := ["math/bits.deBruijn64tab", "internal/strconv.uint64pow10", "math/bits.deBruijn32tab"], apart := false, laid := [("math/bits.deBruijn32tab", laid_math_bits_deBruijn32tab), ("math/bits.deBruijn64tab", laid_math_bits_deBruijn64tab), ("internal/strconv.uint64pow10", laid_internal_strconv_uint64pow10)] }
def VmFirstSaid : Prop := vmFirstRow.holds Tryd.pinned (OpenSpec.ofChange vmFirstSpec)

/-- ITS FALSE NEIGHBOUR: 'it returns false'. Refute it at one input. -/
def vmFirstWrong : ChangeSpec := { name := "vmFirst", fn := fun _ => fun
  | [d1, d2, d3] => { results := [.lit (.bool false)], args := [d1, d2, d3] }
  | _ => none }
def VmFirstWrongFalsely : Prop := vmFirstRow.holds Tryd.pinned (OpenSpec.ofChange vmFirstWrong)

/-- 'jacquardlaw16.VmEnds': WHATEVER THE INPUT: true; the input reads as it did. -/
def vmEndsSpec : ChangeSpec := { name := "vmEnds", fn := fun _ => fun
  | [d1, d2, d3] => { results := [.lit (.bool true)], args := [d1, d2, d3] }
  | _ => none }
def vmEndsRow : OpenClaim := { program := "ytnjjcoobhpldcaadoor", sum := "2a7f1eb7a48a4fd6635c9be62c0fc20b63af964c1b8370b9c4500f4e20d80d7b", func := "jacquard/jacquardlaw16.VmEnds", spec := "vmEnds", unfollowed := true, recurses := true, named := ["math/bits.deBruijn64tab", "internal/strconv.uint64pow10", "math/bits.deBruijn32tab"], apart := false, laid := [("math/bits.deBruijn32tab", laid_math_bits_deBruijn32tab), ("math/bits.deBruijn64tab", laid_math_bits_deBruijn64tab), ("internal/strconv.uint64pow10", laid_internal_strconv_uint64pow10)] }
def VmEndsSaid : Prop := vmEndsRow.holds Tryd.pinned (OpenSpec.ofChange vmEndsSpec)

/-- ITS FALSE NEIGHBOUR: 'it returns false'. Refute it at one input. -/
def vmEndsWrong : ChangeSpec := { name := "vmEnds", fn := fun _ => fun
  | [d1, d2, d3] => { results := [.lit (.bool false)], args := [d1, d2, d3] }
  | _ => none }
def VmEndsWrongFalsely : Prop := vmEndsRow.holds Tryd.pinned (OpenSpec.ofChange vmEndsWrong)

/-- 'jacquardlaw16.VmPlain': WHATEVER THE INPUT: true; the input reads as it did. -/
def vmPlainSpec : ChangeSpec := { name := "vmPlain", fn := fun _ => fun
  | [d1, d2, d3] => { results := [.lit (.bool true)], args := [d1, d2, d3] }
  | _ => none }
def vmPlainRow : OpenClaim := { program := "ytnjjcoobhpldcaadoor", sum := "2a7f1eb7a48a4fd6635c9be62c0fc20b63af964c1b8370b9c4500f4e20d80d7b", func := "jacquard/jacquardlaw16.VmPlain", spec := "vmPlain", unfollowed := true, recurses := true, named := ["math/bits.deBruijn64tab", "internal/strconv.uint64pow10", "math/bits.deBruijn32tab"], apart := false, laid := [("math/bits.deBruijn32tab", laid_math_bits_deBruijn32tab), ("math/bits.deBruijn64tab", laid_math_bits_deBruijn64tab), ("internal/strconv.uint64pow10", laid_internal_strconv_uint64pow10)] }
def VmPlainSaid : Prop := vmPlainRow.holds Tryd.pinned (OpenSpec.ofChange vmPlainSpec)

/-- ITS FALSE NEIGHBOUR: 'it returns false'. Refute it at one input. -/
def vmPlainWrong : ChangeSpec := { name := "vmPlain", fn := fun _ => fun
  | [d1, d2, d3] => { results := [.lit (.bool false)], args := [d1, d2, d3] }
  | _ => none }
def VmPlainWrongFalsely : Prop := vmPlainRow.holds Tryd.pinned (OpenSpec.ofChange vmPlainWrong)

/-- 'jacquardlaw16.VmPlays': WHATEVER THE INPUT: true; the input reads as it did. -/
def vmPlaysSpec : ChangeSpec := { name := "vmPlays", fn := fun _ => fun
  | [d1, d2, d3, d4] => { results := [.lit (.bool true)], args := [d1, d2, d3, d4] }
  | _ => none }
def vmPlaysRow : OpenClaim := { program := "ytnjjcoobhpldcaadoor", sum := "2a7f1eb7a48a4fd6635c9be62c0fc20b63af964c1b8370b9c4500f4e20d80d7b", func := "jacquard/jacquardlaw16.VmPlays", spec := "vmPlays", unfollowed := true, recurses := true, named := ["internal/strconv.uint64pow10", "math/bits.deBruijn32tab", "math/bits.deBruijn64tab"], apart := false, laid := [("math/bits.deBruijn32tab", laid_math_bits_deBruijn32tab), ("math/bits.deBruijn64tab", laid_math_bits_deBruijn64tab), ("internal/strconv.uint64pow10", laid_internal_strconv_uint64pow10)] }
def VmPlaysSaid : Prop := vmPlaysRow.holds Tryd.pinned (OpenSpec.ofChange vmPlaysSpec)

/-- ITS FALSE NEIGHBOUR: 'it returns false'. Refute it at one input. -/
def vmPlaysWrong : ChangeSpec := { name := "vmPlays", fn := fun _ => fun
  | [d1, d2, d3, d4] => { results := [.lit (.bool false)], args := [d1, d2, d3, d4] }
  | _ => none }
def VmPlaysWrongFalsely : Prop := vmPlaysRow.holds Tryd.pinned (OpenSpec.ofChange vmPlaysWrong)

/-- 'jacquardlaw16.VmCopies': WHATEVER THE INPUT: true; the input reads as it did. -/
def vmCopiesSpec : ChangeSpec := { name := "vmCopies", fn := fun _ => fun
  | [d1, d2, d3, d4] => { results := [.lit (.bool true)], args := [d1, d2, d3, d4] }
  | _ => none }
def vmCopiesRow : OpenClaim := { program := "ytnjjcoobhpldcaadoor", sum := "2a7f1eb7a48a4fd6635c9be62c0fc20b63af964c1b8370b9c4500f4e20d80d7b", func := "jacquard/jacquardlaw16.VmCopies", spec := "vmCopies", unfollowed := true, recurses := true, named := ["math/bits.deBruijn64tab", "internal/strconv.uint64pow10", "math/bits.deBruijn32tab"], apart := false, laid := [("math/bits.deBruijn32tab", laid_math_bits_deBruijn32tab), ("math/bits.deBruijn64tab", laid_math_bits_deBruijn64tab), ("internal/strconv.uint64pow10", laid_internal_strconv_uint64pow10)] }
def VmCopiesSaid : Prop := vmCopiesRow.holds Tryd.pinned (OpenSpec.ofChange vmCopiesSpec)

/-- ITS FALSE NEIGHBOUR: 'it returns false'. Refute it at one input. -/
def vmCopiesWrong : ChangeSpec := { name := "vmCopies", fn := fun _ => fun
  | [d1, d2, d3, d4] => { results := [.lit (.bool false)], args := [d1, d2, d3, d4] }
  | _ => none }
def VmCopiesWrongFalsely : Prop := vmCopiesRow.holds Tryd.pinned (OpenSpec.ofChange vmCopiesWrong)

/- THE SECOND FORM. 'bulk': how many values and letters a reading holds, each counted each time it is reached (what is shared counts as often as it is met; a slice's spare places count too). A statement '..UptoSaid' is the law's where the arguments, and the package variables that the reading takes, are together of bulk at most 1048576: NARROWER than '..Said'. Prove '..Said' where nothing that the law and all that it calls make is longer than what came in: it says more and counts as full. Else prove '..UptoSaid'. A law counts once. -/
mutual
def uptoBulk {H : Type} : DataW H → Nat
  | .lit (.string bytes) => bytes.length + 1
  | .lit _ => 1
  | .nil => 1
  | .ptr d => uptoBulk d + 1
  | .slice elems spare => uptoBulkAll elems + uptoBulkAll spare + 1
  | .agg parts => uptoBulkAll parts + 1
  | .iface _ d => uptoBulk d + 1
  | .map entries => uptoBulkEntries entries + 1
  | .held _ => 1
def uptoBulkAll {H : Type} : List (DataW H) → Nat
  | [] => 0
  | d :: r => uptoBulk d + uptoBulkAll r
def uptoBulkEntries {H : Type} : List (Lit × DataW H) → Nat
  | [] => 0
  | x :: r => uptoBulkEntry x + uptoBulkEntries r
def uptoBulkEntry {H : Type} : Lit × DataW H → Nat
  | (.string bytes, d) => bytes.length + uptoBulk d + 1
  | (_, d) => uptoBulk d + 1
 end
def uptoSmall : (H : Type) → List (DataW H) → Bool := fun _ ds => decide (uptoBulkAll ds ≤ 1048576)
def OpenSpec.upto (s : _root_.Go.ChangeSpec) : _root_.Go.OpenSpec := { _root_.Go.OpenSpec.ofChange s with cond := some uptoSmall }

/-- 'jacquardlaw16.VmNames', WHERE WHAT IT READS IS OF BULK AT MOST 1048576: true; the input reads as it did. -/
def vmNamesUptoRow : OpenClaim := { program := "ytnjjcoobhpldcaadoor", sum := "2a7f1eb7a48a4fd6635c9be62c0fc20b63af964c1b8370b9c4500f4e20d80d7b", func := "jacquard/jacquardlaw16.VmNames", spec := "vmNames", unfollowed := true, recurses := true, named := ["internal/strconv.uint64pow10", "math/bits.deBruijn32tab", "math/bits.deBruijn64tab"], apart := false, laid := [("math/bits.deBruijn32tab", laid_math_bits_deBruijn32tab), ("math/bits.deBruijn64tab", laid_math_bits_deBruijn64tab), ("internal/strconv.uint64pow10", laid_internal_strconv_uint64pow10)], narrowed := true }
def VmNamesUptoSaid : Prop := vmNamesUptoRow.holds Tryd.pinned (OpenSpec.upto vmNamesSpec)

/-- 'jacquardlaw16.VmArgs', WHERE WHAT IT READS IS OF BULK AT MOST 1048576: true; the input reads as it did. -/
def vmArgsUptoRow : OpenClaim := { program := "ytnjjcoobhpldcaadoor", sum := "2a7f1eb7a48a4fd6635c9be62c0fc20b63af964c1b8370b9c4500f4e20d80d7b", func := "jacquard/jacquardlaw16.VmArgs", spec := "vmArgs", unfollowed := true, recurses := true, named := ["internal/strconv.uint64pow10", "math/bits.deBruijn32tab", "math/bits.deBruijn64tab"], apart := false, laid := [("math/bits.deBruijn32tab", laid_math_bits_deBruijn32tab), ("math/bits.deBruijn64tab", laid_math_bits_deBruijn64tab), ("internal/strconv.uint64pow10", laid_internal_strconv_uint64pow10)], narrowed := true }
def VmArgsUptoSaid : Prop := vmArgsUptoRow.holds Tryd.pinned (OpenSpec.upto vmArgsSpec)

/-- 'jacquardlaw16.VmWaits', WHERE WHAT IT READS IS OF BULK AT MOST 1048576: true; the input reads as it did. -/
def vmWaitsUptoRow : OpenClaim := { program := "ytnjjcoobhpldcaadoor", sum := "2a7f1eb7a48a4fd6635c9be62c0fc20b63af964c1b8370b9c4500f4e20d80d7b", func := "jacquard/jacquardlaw16.VmWaits", spec := "vmWaits", unfollowed := true, recurses := true, named := ["math/bits.deBruijn64tab", "internal/strconv.uint64pow10", "math/bits.deBruijn32tab"], apart := false, laid := [("math/bits.deBruijn32tab", laid_math_bits_deBruijn32tab), ("math/bits.deBruijn64tab", laid_math_bits_deBruijn64tab), ("internal/strconv.uint64pow10", laid_internal_strconv_uint64pow10)], narrowed := true }
def VmWaitsUptoSaid : Prop := vmWaitsUptoRow.holds Tryd.pinned (OpenSpec.upto vmWaitsSpec)

/-- 'jacquardlaw16.VmForwards', WHERE WHAT IT READS IS OF BULK AT MOST 1048576: true; the input reads as it did. -/
def vmForwardsUptoRow : OpenClaim := { program := "ytnjjcoobhpldcaadoor", sum := "2a7f1eb7a48a4fd6635c9be62c0fc20b63af964c1b8370b9c4500f4e20d80d7b", func := "jacquard/jacquardlaw16.VmForwards", spec := "vmForwards", unfollowed := true, recurses := true, named := ["math/bits.deBruijn64tab", "internal/strconv.uint64pow10", "math/bits.deBruijn32tab"], apart := false, laid := [("math/bits.deBruijn32tab", laid_math_bits_deBruijn32tab), ("math/bits.deBruijn64tab", laid_math_bits_deBruijn64tab), ("internal/strconv.uint64pow10", laid_internal_strconv_uint64pow10)], narrowed := true }
def VmForwardsUptoSaid : Prop := vmForwardsUptoRow.holds Tryd.pinned (OpenSpec.upto vmForwardsSpec)

/-- 'jacquardlaw16.VmFirst', WHERE WHAT IT READS IS OF BULK AT MOST 1048576: true; the input reads as it did. -/
def vmFirstUptoRow : OpenClaim := { program := "ytnjjcoobhpldcaadoor", sum := "2a7f1eb7a48a4fd6635c9be62c0fc20b63af964c1b8370b9c4500f4e20d80d7b", func := "jacquard/jacquardlaw16.VmFirst", spec := "vmFirst", unfollowed := true, recurses := true, named := ["math/bits.deBruijn64tab", "internal/strconv.uint64pow10", "math/bits.deBruijn32tab"], apart := false, laid := [("math/bits.deBruijn32tab", laid_math_bits_deBruijn32tab), ("math/bits.deBruijn64tab", laid_math_bits_deBruijn64tab), ("internal/strconv.uint64pow10", laid_internal_strconv_uint64pow10)], narrowed := true }
def VmFirstUptoSaid : Prop := vmFirstUptoRow.holds Tryd.pinned (OpenSpec.upto vmFirstSpec)

/-- 'jacquardlaw16.VmEnds', WHERE WHAT IT READS IS OF BULK AT MOST 1048576: true; the input reads as it did. -/
def vmEndsUptoRow : OpenClaim := { program := "ytnjjcoobhpldcaadoor", sum := "2a7f1eb7a48a4fd6635c9be62c0fc20b63af964c1b8370b9c4500f4e20d80d7b", func := "jacquard/jacquardlaw16.VmEnds", spec := "vmEnds", unfollowed := true, recurses := true, named := ["math/bits.deBruijn64tab", "internal/strconv.uint64pow10", "math/bits.deBruijn32tab"], apart := false, laid := [("math/bits.deBruijn32tab", laid_math_bits_deBruijn32tab), ("math/bits.deBruijn64tab", laid_math_bits_deBruijn64tab), ("internal/strconv.uint64pow10", laid_internal_strconv_uint64pow10)], narrowed := true }
def VmEndsUptoSaid : Prop := vmEndsUptoRow.holds Tryd.pinned (OpenSpec.upto vmEndsSpec)

/-- 'jacquardlaw16.VmPlain', WHERE WHAT IT READS IS OF BULK AT MOST 1048576: true; the input reads as it did. -/
def vmPlainUptoRow : OpenClaim := { program := "ytnjjcoobhpldcaadoor", sum := "2a7f1eb7a48a4fd6635c9be62c0fc20b63af964c1b8370b9c4500f4e20d80d7b", func := "jacquard/jacquardlaw16.VmPlain", spec := "vmPlain", unfollowed := true, recurses := true, named := ["math/bits.deBruijn64tab", "internal/strconv.uint64pow10", "math/bits.deBruijn32tab"], apart := false, laid := [("math/bits.deBruijn32tab", laid_math_bits_deBruijn32tab), ("math/bits.deBruijn64tab", laid_math_bits_deBruijn64tab), ("internal/strconv.uint64pow10", laid_internal_strconv_uint64pow10)], narrowed := true }
def VmPlainUptoSaid : Prop := vmPlainUptoRow.holds Tryd.pinned (OpenSpec.upto vmPlainSpec)

/-- 'jacquardlaw16.VmPlays', WHERE WHAT IT READS IS OF BULK AT MOST 1048576: true; the input reads as it did. -/
def vmPlaysUptoRow : OpenClaim := { program := "ytnjjcoobhpldcaadoor", sum := "2a7f1eb7a48a4fd6635c9be62c0fc20b63af964c1b8370b9c4500f4e20d80d7b", func := "jacquard/jacquardlaw16.VmPlays", spec := "vmPlays", unfollowed := true, recurses := true, named := ["internal/strconv.uint64pow10", "math/bits.deBruijn32tab", "math/bits.deBruijn64tab"], apart := false, laid := [("math/bits.deBruijn32tab", laid_math_bits_deBruijn32tab), ("math/bits.deBruijn64tab", laid_math_bits_deBruijn64tab), ("internal/strconv.uint64pow10", laid_internal_strconv_uint64pow10)], narrowed := true }
def VmPlaysUptoSaid : Prop := vmPlaysUptoRow.holds Tryd.pinned (OpenSpec.upto vmPlaysSpec)

/-- 'jacquardlaw16.VmCopies', WHERE WHAT IT READS IS OF BULK AT MOST 1048576: true; the input reads as it did. -/
def vmCopiesUptoRow : OpenClaim := { program := "ytnjjcoobhpldcaadoor", sum := "2a7f1eb7a48a4fd6635c9be62c0fc20b63af964c1b8370b9c4500f4e20d80d7b", func := "jacquard/jacquardlaw16.VmCopies", spec := "vmCopies", unfollowed := true, recurses := true, named := ["math/bits.deBruijn64tab", "internal/strconv.uint64pow10", "math/bits.deBruijn32tab"], apart := false, laid := [("math/bits.deBruijn32tab", laid_math_bits_deBruijn32tab), ("math/bits.deBruijn64tab", laid_math_bits_deBruijn64tab), ("internal/strconv.uint64pow10", laid_internal_strconv_uint64pow10)], narrowed := true }
def VmCopiesUptoSaid : Prop := vmCopiesUptoRow.holds Tryd.pinned (OpenSpec.upto vmCopiesSpec)

end Rows
end Go.Proofs.YtnjjcoobhpldcaaDoor
