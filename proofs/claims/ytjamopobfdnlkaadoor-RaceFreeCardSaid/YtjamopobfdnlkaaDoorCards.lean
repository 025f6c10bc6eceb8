/-
  DERIVED. GIVEN WITH THE SEED: THE CARDS: each row of YtjamopobfdnlkaaDoorRows.lean that lists a variable, with what it lists TIED to the program's text (the seventh form; the later family's looks); each row that meets fmt, with fmt's text TOLD by the authors' own Lean function (tested against real Go, not proved from fmt's source: count such statements apart). THE CARD IS WHAT COUNTS. Prove the row's statement (the work); the ties are given (YtjamopobfdnlkaaDoorTie.lean); close each card by the builder's one call (the guide's Derived/Test/ToyasCard.lean, 'card_holds'). Laid BY PROGRAM, IN A SANDBOX (cutbox-door.mjs). By AI agents, Wed Nov 11 2026. No macro, syntax, notation, axiom, sorry.
-/
import Derived.Test.YtjamopobfdnlkaaDoorRows
import GoSem.ClaimSeven
namespace Go.Proofs.YtjamopobfdnlkaaDoor
namespace Rows

/-- THE TIED CARD OF 'jacquardlaw20.RaceSides'. -/
def raceSidesCard : Claim7 := { stood := { row := raceSidesRow, standIns := [], harness := (true, "2fdd6caf920216eb174a27daf5bb1905855a3b17776fabd81313f3a936b17355"), looks := false }, kinds := [], alts := [], laidByText := true, laidKinds := [.data], laidTests := true, laidLooks := .later }
def RaceSidesCardSaid : Prop := Claim7.holds Tryd.pinned (.plain (OpenSpec.ofChange raceSidesSpec)) raceSidesCard

/-- THE TIED CARD OF 'jacquardlaw20.RaceFree'. -/
def raceFreeCard : Claim7 := { stood := { row := raceFreeRow, standIns := [], harness := (true, "2fdd6caf920216eb174a27daf5bb1905855a3b17776fabd81313f3a936b17355"), looks := false }, kinds := [], alts := [], laidByText := true, laidKinds := [.data], laidTests := true, laidLooks := .later }
def RaceFreeCardSaid : Prop := Claim7.holds Tryd.pinned (.plain (OpenSpec.ofChange raceFreeSpec)) raceFreeCard

/-- THE SECOND FORM's CARD OF 'jacquardlaw20.RaceSides'. -/
def raceSidesUptoCard : Claim7 := { stood := { row := raceSidesUptoRow, standIns := [], harness := (true, "2fdd6caf920216eb174a27daf5bb1905855a3b17776fabd81313f3a936b17355"), looks := false }, kinds := [], alts := [], laidByText := true, laidKinds := [.data], laidTests := true, laidLooks := .later }
def RaceSidesUptoCardSaid : Prop := Claim7.holds Tryd.pinned (.plain (OpenSpec.upto raceSidesSpec)) raceSidesUptoCard

/-- THE SECOND FORM's CARD OF 'jacquardlaw20.RaceFree'. -/
def raceFreeUptoCard : Claim7 := { stood := { row := raceFreeUptoRow, standIns := [], harness := (true, "2fdd6caf920216eb174a27daf5bb1905855a3b17776fabd81313f3a936b17355"), looks := false }, kinds := [], alts := [], laidByText := true, laidKinds := [.data], laidTests := true, laidLooks := .later }
def RaceFreeUptoCardSaid : Prop := Claim7.holds Tryd.pinned (.plain (OpenSpec.upto raceFreeSpec)) raceFreeUptoCard
end Rows
end Go.Proofs.YtjamopobfdnlkaaDoor
