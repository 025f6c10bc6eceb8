/-
  DERIVED. GIVEN WITH THE SEED: THE CARDS: each row of YtjamopobfdnlkaaGreatDoorRows.lean that lists a variable, with what it lists TIED to the program's text (the seventh form; the later family's looks); each row that meets fmt, with fmt's text TOLD by the authors' own Lean function (tested against real Go, not proved from fmt's source: count such statements apart). THE CARD IS WHAT COUNTS. Prove the row's statement (the work); the ties are given (YtjamopobfdnlkaaGreatDoorTie.lean); close each card by the builder's one call (the guide's Derived/Test/ToyasCard.lean, 'card_holds'). Laid BY PROGRAM, IN A SANDBOX (cutbox-door.mjs). By AI agents, Wed Nov 11 2026. No macro, syntax, notation, axiom, sorry.
-/
import Derived.Test.YtjamopobfdnlkaaGreatDoorRows
import GoSem.ClaimSeven
namespace Go.Proofs.YtjamopobfdnlkaaGreatDoor
namespace Rows

/-- THE TIED CARD OF 'jacquardlaw20.RaceTells'. -/
def raceTellsCard : Claim7 := { stood := { row := raceTellsRow, standIns := [], harness := (true, "2ce60a3717e7b837a006fb846b93e977a5172f81531cd6c951275b977db76560"), looks := false }, kinds := [], alts := [], laidByText := true, laidKinds := [.data], laidTests := true, laidLooks := .later }
def RaceTellsCardSaid : Prop := Claim7.holds Tryz.pinned (.plain (OpenSpec.ofChange raceTellsSpec)) raceTellsCard

/-- THE TIED CARD OF 'jacquardlaw20.RaceGoes'. -/
def raceGoesCard : Claim7 := { stood := { row := raceGoesRow, standIns := [], harness := (true, "2ce60a3717e7b837a006fb846b93e977a5172f81531cd6c951275b977db76560"), looks := false }, kinds := [], alts := [], laidByText := true, laidKinds := [.data], laidTests := true, laidLooks := .later }
def RaceGoesCardSaid : Prop := Claim7.holds Tryz.pinned (.plain (OpenSpec.ofChange raceGoesSpec)) raceGoesCard

/-- THE SECOND FORM's CARD OF 'jacquardlaw20.RaceTells'. -/
def raceTellsUptoCard : Claim7 := { stood := { row := raceTellsUptoRow, standIns := [], harness := (true, "2ce60a3717e7b837a006fb846b93e977a5172f81531cd6c951275b977db76560"), looks := false }, kinds := [], alts := [], laidByText := true, laidKinds := [.data], laidTests := true, laidLooks := .later }
def RaceTellsUptoCardSaid : Prop := Claim7.holds Tryz.pinned (.plain (OpenSpec.upto raceTellsSpec)) raceTellsUptoCard

/-- THE SECOND FORM's CARD OF 'jacquardlaw20.RaceGoes'. -/
def raceGoesUptoCard : Claim7 := { stood := { row := raceGoesUptoRow, standIns := [], harness := (true, "2ce60a3717e7b837a006fb846b93e977a5172f81531cd6c951275b977db76560"), looks := false }, kinds := [], alts := [], laidByText := true, laidKinds := [.data], laidTests := true, laidLooks := .later }
def RaceGoesUptoCardSaid : Prop := Claim7.holds Tryz.pinned (.plain (OpenSpec.upto raceGoesSpec)) raceGoesUptoCard
end Rows
end Go.Proofs.YtjamopobfdnlkaaGreatDoor
