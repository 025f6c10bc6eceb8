/-
  DERIVED. GIVEN WITH THE SEED: THE CARDS: each row of YtaohhggiapblkaaGreatDoorRows.lean that lists a variable, with what it lists TIED to the program's text (the seventh form; the later family's looks); each row that meets fmt, with fmt's text TOLD by the authors' own Lean function (tested against real Go, not proved from fmt's source: count such statements apart). THE CARD IS WHAT COUNTS. Prove the row's statement (the work); the ties are given (YtaohhggiapblkaaGreatDoorTie.lean); close each card by the builder's one call (the guide's Derived/Test/ToyasCard.lean, 'card_holds'). Laid BY PROGRAM, IN A SANDBOX (cutbox-door.mjs). By AI agents, Wed Nov 11 2026. No macro, syntax, notation, axiom, sorry.
-/
import Derived.Test.YtaohhggiapblkaaGreatDoorRows
import GoSem.ClaimSeven
namespace Go.Proofs.YtaohhggiapblkaaGreatDoor
namespace Rows

/-- THE TIED CARD OF 'jacquardtop.TopWider'. -/
def topWiderCard : Claim7 := { stood := { row := topWiderRow, standIns := [], harness := (true, "7f3a20544d2fe770f688a871edf76fce11fa107740d391a992941e7d0bb0c6d6"), looks := false }, kinds := [], alts := [], laidByText := true, laidKinds := [.data], laidTests := true, laidLooks := .later }
def TopWiderCardSaid : Prop := Claim7.holds Tryz.pinned (.plain (OpenSpec.ofChange topWiderSpec)) topWiderCard

/-- THE TIED CARD OF 'jacquardtop.TopRaces'. -/
def topRacesCard : Claim7 := { stood := { row := topRacesRow, standIns := [], harness := (true, "7f3a20544d2fe770f688a871edf76fce11fa107740d391a992941e7d0bb0c6d6"), looks := false }, kinds := [], alts := [], laidByText := true, laidKinds := [.data], laidTests := true, laidLooks := .later }
def TopRacesCardSaid : Prop := Claim7.holds Tryz.pinned (.plain (OpenSpec.ofChange topRacesSpec)) topRacesCard

/-- THE TIED CARD OF 'jacquardtop.TopMade'. -/
def topMadeCard : Claim7 := { stood := { row := topMadeRow, standIns := [], harness := (true, "7f3a20544d2fe770f688a871edf76fce11fa107740d391a992941e7d0bb0c6d6"), looks := false }, kinds := [], alts := [], laidByText := true, laidKinds := [.data], laidTests := true, laidLooks := .later }
def TopMadeCardSaid : Prop := Claim7.holds Tryz.pinned (.plain (OpenSpec.ofChange topMadeSpec)) topMadeCard

/-- THE TIED CARD OF 'jacquardtop.TopClocks'. -/
def topClocksCard : Claim7 := { stood := { row := topClocksRow, standIns := [], harness := (true, "7f3a20544d2fe770f688a871edf76fce11fa107740d391a992941e7d0bb0c6d6"), looks := false }, kinds := [], alts := [], laidByText := true, laidKinds := [.data], laidTests := true, laidLooks := .later }
def TopClocksCardSaid : Prop := Claim7.holds Tryz.pinned (.plain (OpenSpec.ofChange topClocksSpec)) topClocksCard

/-- THE TIED CARD OF 'jacquardtop.TopEnds'. -/
def topEndsCard : Claim7 := { stood := { row := topEndsRow, standIns := [], harness := (true, "7f3a20544d2fe770f688a871edf76fce11fa107740d391a992941e7d0bb0c6d6"), looks := false }, kinds := [], alts := [], laidByText := true, laidKinds := [.data], laidTests := true, laidLooks := .later }
def TopEndsCardSaid : Prop := Claim7.holds Tryz.pinned (.plain (OpenSpec.ofChange topEndsSpec)) topEndsCard

/-- THE SECOND FORM's CARD OF 'jacquardtop.TopWider'. -/
def topWiderUptoCard : Claim7 := { stood := { row := topWiderUptoRow, standIns := [], harness := (true, "7f3a20544d2fe770f688a871edf76fce11fa107740d391a992941e7d0bb0c6d6"), looks := false }, kinds := [], alts := [], laidByText := true, laidKinds := [.data], laidTests := true, laidLooks := .later }
def TopWiderUptoCardSaid : Prop := Claim7.holds Tryz.pinned (.plain (OpenSpec.upto topWiderSpec)) topWiderUptoCard

/-- THE SECOND FORM's CARD OF 'jacquardtop.TopRaces'. -/
def topRacesUptoCard : Claim7 := { stood := { row := topRacesUptoRow, standIns := [], harness := (true, "7f3a20544d2fe770f688a871edf76fce11fa107740d391a992941e7d0bb0c6d6"), looks := false }, kinds := [], alts := [], laidByText := true, laidKinds := [.data], laidTests := true, laidLooks := .later }
def TopRacesUptoCardSaid : Prop := Claim7.holds Tryz.pinned (.plain (OpenSpec.upto topRacesSpec)) topRacesUptoCard

/-- THE SECOND FORM's CARD OF 'jacquardtop.TopMade'. -/
def topMadeUptoCard : Claim7 := { stood := { row := topMadeUptoRow, standIns := [], harness := (true, "7f3a20544d2fe770f688a871edf76fce11fa107740d391a992941e7d0bb0c6d6"), looks := false }, kinds := [], alts := [], laidByText := true, laidKinds := [.data], laidTests := true, laidLooks := .later }
def TopMadeUptoCardSaid : Prop := Claim7.holds Tryz.pinned (.plain (OpenSpec.upto topMadeSpec)) topMadeUptoCard

/-- THE SECOND FORM's CARD OF 'jacquardtop.TopClocks'. -/
def topClocksUptoCard : Claim7 := { stood := { row := topClocksUptoRow, standIns := [], harness := (true, "7f3a20544d2fe770f688a871edf76fce11fa107740d391a992941e7d0bb0c6d6"), looks := false }, kinds := [], alts := [], laidByText := true, laidKinds := [.data], laidTests := true, laidLooks := .later }
def TopClocksUptoCardSaid : Prop := Claim7.holds Tryz.pinned (.plain (OpenSpec.upto topClocksSpec)) topClocksUptoCard

/-- THE SECOND FORM's CARD OF 'jacquardtop.TopEnds'. -/
def topEndsUptoCard : Claim7 := { stood := { row := topEndsUptoRow, standIns := [], harness := (true, "7f3a20544d2fe770f688a871edf76fce11fa107740d391a992941e7d0bb0c6d6"), looks := false }, kinds := [], alts := [], laidByText := true, laidKinds := [.data], laidTests := true, laidLooks := .later }
def TopEndsUptoCardSaid : Prop := Claim7.holds Tryz.pinned (.plain (OpenSpec.upto topEndsSpec)) topEndsUptoCard
end Rows
end Go.Proofs.YtaohhggiapblkaaGreatDoor
