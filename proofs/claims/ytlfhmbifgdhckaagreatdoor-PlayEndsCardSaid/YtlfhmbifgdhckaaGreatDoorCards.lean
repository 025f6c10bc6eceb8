/-
  DERIVED. GIVEN WITH THE SEED: THE CARDS: each row of YtlfhmbifgdhckaaGreatDoorRows.lean that lists a variable, with what it lists TIED to the program's text (the seventh form; the later family's looks); each row that meets fmt, with fmt's text TOLD by the authors' own Lean function (tested against real Go, not proved from fmt's source: count such statements apart). THE CARD IS WHAT COUNTS. Prove the row's statement (the work); the ties are given (YtlfhmbifgdhckaaGreatDoorTie.lean); close each card by the builder's one call (the guide's Derived/Test/ToyasCard.lean, 'card_holds'). Laid BY PROGRAM, IN A SANDBOX (cutbox-door.mjs). By AI agents, Wed Nov 11 2026. No macro, syntax, notation, axiom, sorry.
-/
import Derived.Test.YtlfhmbifgdhckaaGreatDoorRows
import GoSem.ClaimSeven
namespace Go.Proofs.YtlfhmbifgdhckaaGreatDoor
namespace Rows

/-- THE TIED CARD OF 'jacquardlaw17.PlayFronts'. -/
def playFrontsCard : Claim7 := { stood := { row := playFrontsRow, standIns := [], harness := (true, "13002eebc8ed8af3f8bed9544724ae5cf173fb17b4ca3f4061b822a2b14d4123"), looks := false }, kinds := [], alts := [], laidByText := true, laidKinds := [.data, .data, .data, .data, .pinned], laidTests := true, laidLooks := .later }
def PlayFrontsCardSaid : Prop := Claim7.holds Tryz.pinned (.plain (OpenSpec.ofChange playFrontsSpec)) playFrontsCard

/-- THE TIED CARD OF 'jacquardlaw17.PlayRuns'. -/
def playRunsCard : Claim7 := { stood := { row := playRunsRow, standIns := [], harness := (true, "13002eebc8ed8af3f8bed9544724ae5cf173fb17b4ca3f4061b822a2b14d4123"), looks := false }, kinds := [], alts := [], laidByText := true, laidKinds := [.data, .data, .data, .data, .pinned], laidTests := true, laidLooks := .later }
def PlayRunsCardSaid : Prop := Claim7.holds Tryz.pinned (.plain (OpenSpec.ofChange playRunsSpec)) playRunsCard

/-- THE TIED CARD OF 'jacquardlaw17.PlayEnds'. -/
def playEndsCard : Claim7 := { stood := { row := playEndsRow, standIns := [], harness := (true, "13002eebc8ed8af3f8bed9544724ae5cf173fb17b4ca3f4061b822a2b14d4123"), looks := false }, kinds := [], alts := [], laidByText := true, laidKinds := [.data, .data, .data, .data, .pinned], laidTests := true, laidLooks := .later }
def PlayEndsCardSaid : Prop := Claim7.holds Tryz.pinned (.plain (OpenSpec.ofChange playEndsSpec)) playEndsCard

/-- THE TIED CARD OF 'jacquardlaw17.PlayModels'. -/
def playModelsCard : Claim7 := { stood := { row := playModelsRow, standIns := [], harness := (true, "13002eebc8ed8af3f8bed9544724ae5cf173fb17b4ca3f4061b822a2b14d4123"), looks := false }, kinds := [], alts := [], laidByText := true, laidKinds := [.data, .data, .data, .data, .pinned], laidTests := true, laidLooks := .later }
def PlayModelsCardSaid : Prop := Claim7.holds Tryz.pinned (.plain (OpenSpec.ofChange playModelsSpec)) playModelsCard

/-- THE SECOND FORM's CARD OF 'jacquardlaw17.PlayFronts'. -/
def playFrontsUptoCard : Claim7 := { stood := { row := playFrontsUptoRow, standIns := [], harness := (true, "13002eebc8ed8af3f8bed9544724ae5cf173fb17b4ca3f4061b822a2b14d4123"), looks := false }, kinds := [], alts := [], laidByText := true, laidKinds := [.data, .data, .data, .data, .pinned], laidTests := true, laidLooks := .later }
def PlayFrontsUptoCardSaid : Prop := Claim7.holds Tryz.pinned (.plain (OpenSpec.upto playFrontsSpec)) playFrontsUptoCard

/-- THE SECOND FORM's CARD OF 'jacquardlaw17.PlayRuns'. -/
def playRunsUptoCard : Claim7 := { stood := { row := playRunsUptoRow, standIns := [], harness := (true, "13002eebc8ed8af3f8bed9544724ae5cf173fb17b4ca3f4061b822a2b14d4123"), looks := false }, kinds := [], alts := [], laidByText := true, laidKinds := [.data, .data, .data, .data, .pinned], laidTests := true, laidLooks := .later }
def PlayRunsUptoCardSaid : Prop := Claim7.holds Tryz.pinned (.plain (OpenSpec.upto playRunsSpec)) playRunsUptoCard

/-- THE SECOND FORM's CARD OF 'jacquardlaw17.PlayEnds'. -/
def playEndsUptoCard : Claim7 := { stood := { row := playEndsUptoRow, standIns := [], harness := (true, "13002eebc8ed8af3f8bed9544724ae5cf173fb17b4ca3f4061b822a2b14d4123"), looks := false }, kinds := [], alts := [], laidByText := true, laidKinds := [.data, .data, .data, .data, .pinned], laidTests := true, laidLooks := .later }
def PlayEndsUptoCardSaid : Prop := Claim7.holds Tryz.pinned (.plain (OpenSpec.upto playEndsSpec)) playEndsUptoCard

/-- THE SECOND FORM's CARD OF 'jacquardlaw17.PlayModels'. -/
def playModelsUptoCard : Claim7 := { stood := { row := playModelsUptoRow, standIns := [], harness := (true, "13002eebc8ed8af3f8bed9544724ae5cf173fb17b4ca3f4061b822a2b14d4123"), looks := false }, kinds := [], alts := [], laidByText := true, laidKinds := [.data, .data, .data, .data, .pinned], laidTests := true, laidLooks := .later }
def PlayModelsUptoCardSaid : Prop := Claim7.holds Tryz.pinned (.plain (OpenSpec.upto playModelsSpec)) playModelsUptoCard
end Rows
end Go.Proofs.YtlfhmbifgdhckaaGreatDoor
