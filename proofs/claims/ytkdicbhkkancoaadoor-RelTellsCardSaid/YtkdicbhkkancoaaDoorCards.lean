/-
  DERIVED. GIVEN WITH THE SEED: THE CARDS: each row of YtkdicbhkkancoaaDoorRows.lean that lists a variable, with what it lists TIED to the program's text (the seventh form; the later family's looks); each row that meets fmt, with fmt's text TOLD by the authors' own Lean function (tested against real Go, not proved from fmt's source: count such statements apart). THE CARD IS WHAT COUNTS. Prove the row's statement (the work); the ties are given (YtkdicbhkkancoaaDoorTie.lean); close each card by the builder's one call (the guide's Derived/Test/ToyasCard.lean, 'card_holds'). Laid BY PROGRAM, IN A SANDBOX (cutbox-door.mjs). By AI agents, Wed Nov 11 2026. No macro, syntax, notation, axiom, sorry.
-/
import Derived.Test.YtkdicbhkkancoaaDoorRows
import GoSem.ClaimSeven
namespace Go.Proofs.YtkdicbhkkancoaaDoor
namespace Rows

/-- THE TIED CARD OF 'jacquardlaw8.RelPairs'. -/
def relPairsCard : Claim7 := { stood := { row := relPairsRow, standIns := [], harness := (true, "247157c4400f09dbf37c7c2675cf8478a89aff0d810297ef4dd9ce74afe5d438"), looks := false }, kinds := [], alts := [], laidByText := true, laidKinds := [.data], laidTests := true, laidLooks := .later }
def RelPairsCardSaid : Prop := Claim7.holds Tryd.pinned (.plain (OpenSpec.ofChange relPairsSpec)) relPairsCard

/-- THE TIED CARD OF 'jacquardlaw8.RelThen'. -/
def relThenCard : Claim7 := { stood := { row := relThenRow, standIns := [], harness := (true, "247157c4400f09dbf37c7c2675cf8478a89aff0d810297ef4dd9ce74afe5d438"), looks := false }, kinds := [], alts := [], laidByText := true, laidKinds := [.data], laidTests := true, laidLooks := .later }
def RelThenCardSaid : Prop := Claim7.holds Tryd.pinned (.plain (OpenSpec.ofChange relThenSpec)) relThenCard

/-- THE TIED CARD OF 'jacquardlaw7.SetNexts'. -/
def setNextsCard : Claim7 := { stood := { row := setNextsRow, standIns := [], harness := (true, "247157c4400f09dbf37c7c2675cf8478a89aff0d810297ef4dd9ce74afe5d438"), looks := false }, kinds := [], alts := [], laidByText := true, laidKinds := [.data], laidTests := true, laidLooks := .later }
def SetNextsCardSaid : Prop := Claim7.holds Tryd.pinned (.plain (OpenSpec.ofChange setNextsSpec)) setNextsCard

/-- THE TIED CARD OF 'jacquardlaw7.SetAlgebra'. -/
def setAlgebraCard : Claim7 := { stood := { row := setAlgebraRow, standIns := [], harness := (true, "247157c4400f09dbf37c7c2675cf8478a89aff0d810297ef4dd9ce74afe5d438"), looks := false }, kinds := [], alts := [], laidByText := true, laidKinds := [.data], laidTests := true, laidLooks := .later }
def SetAlgebraCardSaid : Prop := Claim7.holds Tryd.pinned (.plain (OpenSpec.ofChange setAlgebraSpec)) setAlgebraCard

/-- THE TIED CARD OF 'jacquardlaw7.SetTells'. -/
def setTellsCard : Claim7 := { stood := { row := setTellsRow, standIns := [], harness := (true, "247157c4400f09dbf37c7c2675cf8478a89aff0d810297ef4dd9ce74afe5d438"), looks := false }, kinds := [], alts := [], laidByText := true, laidKinds := [.data], laidTests := true, laidLooks := .later }
def SetTellsCardSaid : Prop := Claim7.holds Tryd.pinned (.plain (OpenSpec.ofChange setTellsSpec)) setTellsCard

/-- THE TIED CARD OF 'jacquardlaw7.SetUptos'. -/
def setUptosCard : Claim7 := { stood := { row := setUptosRow, standIns := [], harness := (true, "247157c4400f09dbf37c7c2675cf8478a89aff0d810297ef4dd9ce74afe5d438"), looks := false }, kinds := [], alts := [], laidByText := true, laidKinds := [.data], laidTests := true, laidLooks := .later }
def SetUptosCardSaid : Prop := Claim7.holds Tryd.pinned (.plain (OpenSpec.ofChange setUptosSpec)) setUptosCard

/-- THE TIED CARD OF 'jacquardlaw8.RelKeeps'. -/
def relKeepsCard : Claim7 := { stood := { row := relKeepsRow, standIns := [], harness := (true, "247157c4400f09dbf37c7c2675cf8478a89aff0d810297ef4dd9ce74afe5d438"), looks := false }, kinds := [], alts := [], laidByText := true, laidKinds := [.data], laidTests := true, laidLooks := .later }
def RelKeepsCardSaid : Prop := Claim7.holds Tryd.pinned (.plain (OpenSpec.ofChange relKeepsSpec)) relKeepsCard

/-- THE TIED CARD OF 'jacquardlaw8.RelAlgebra'. -/
def relAlgebraCard : Claim7 := { stood := { row := relAlgebraRow, standIns := [], harness := (true, "247157c4400f09dbf37c7c2675cf8478a89aff0d810297ef4dd9ce74afe5d438"), looks := false }, kinds := [], alts := [], laidByText := true, laidKinds := [.data], laidTests := true, laidLooks := .later }
def RelAlgebraCardSaid : Prop := Claim7.holds Tryd.pinned (.plain (OpenSpec.ofChange relAlgebraSpec)) relAlgebraCard

/-- THE TIED CARD OF 'jacquardlaw8.RelTells'. -/
def relTellsCard : Claim7 := { stood := { row := relTellsRow, standIns := [], harness := (true, "247157c4400f09dbf37c7c2675cf8478a89aff0d810297ef4dd9ce74afe5d438"), looks := false }, kinds := [], alts := [], laidByText := true, laidKinds := [.data], laidTests := true, laidLooks := .later }
def RelTellsCardSaid : Prop := Claim7.holds Tryd.pinned (.plain (OpenSpec.ofChange relTellsSpec)) relTellsCard

/-- THE SECOND FORM's CARD OF 'jacquardlaw8.RelPairs'. -/
def relPairsUptoCard : Claim7 := { stood := { row := relPairsUptoRow, standIns := [], harness := (true, "247157c4400f09dbf37c7c2675cf8478a89aff0d810297ef4dd9ce74afe5d438"), looks := false }, kinds := [], alts := [], laidByText := true, laidKinds := [.data], laidTests := true, laidLooks := .later }
def RelPairsUptoCardSaid : Prop := Claim7.holds Tryd.pinned (.plain (OpenSpec.upto relPairsSpec)) relPairsUptoCard

/-- THE SECOND FORM's CARD OF 'jacquardlaw8.RelThen'. -/
def relThenUptoCard : Claim7 := { stood := { row := relThenUptoRow, standIns := [], harness := (true, "247157c4400f09dbf37c7c2675cf8478a89aff0d810297ef4dd9ce74afe5d438"), looks := false }, kinds := [], alts := [], laidByText := true, laidKinds := [.data], laidTests := true, laidLooks := .later }
def RelThenUptoCardSaid : Prop := Claim7.holds Tryd.pinned (.plain (OpenSpec.upto relThenSpec)) relThenUptoCard

/-- THE SECOND FORM's CARD OF 'jacquardlaw7.SetNexts'. -/
def setNextsUptoCard : Claim7 := { stood := { row := setNextsUptoRow, standIns := [], harness := (true, "247157c4400f09dbf37c7c2675cf8478a89aff0d810297ef4dd9ce74afe5d438"), looks := false }, kinds := [], alts := [], laidByText := true, laidKinds := [.data], laidTests := true, laidLooks := .later }
def SetNextsUptoCardSaid : Prop := Claim7.holds Tryd.pinned (.plain (OpenSpec.upto setNextsSpec)) setNextsUptoCard

/-- THE SECOND FORM's CARD OF 'jacquardlaw7.SetAlgebra'. -/
def setAlgebraUptoCard : Claim7 := { stood := { row := setAlgebraUptoRow, standIns := [], harness := (true, "247157c4400f09dbf37c7c2675cf8478a89aff0d810297ef4dd9ce74afe5d438"), looks := false }, kinds := [], alts := [], laidByText := true, laidKinds := [.data], laidTests := true, laidLooks := .later }
def SetAlgebraUptoCardSaid : Prop := Claim7.holds Tryd.pinned (.plain (OpenSpec.upto setAlgebraSpec)) setAlgebraUptoCard

/-- THE SECOND FORM's CARD OF 'jacquardlaw7.SetTells'. -/
def setTellsUptoCard : Claim7 := { stood := { row := setTellsUptoRow, standIns := [], harness := (true, "247157c4400f09dbf37c7c2675cf8478a89aff0d810297ef4dd9ce74afe5d438"), looks := false }, kinds := [], alts := [], laidByText := true, laidKinds := [.data], laidTests := true, laidLooks := .later }
def SetTellsUptoCardSaid : Prop := Claim7.holds Tryd.pinned (.plain (OpenSpec.upto setTellsSpec)) setTellsUptoCard

/-- THE SECOND FORM's CARD OF 'jacquardlaw7.SetUptos'. -/
def setUptosUptoCard : Claim7 := { stood := { row := setUptosUptoRow, standIns := [], harness := (true, "247157c4400f09dbf37c7c2675cf8478a89aff0d810297ef4dd9ce74afe5d438"), looks := false }, kinds := [], alts := [], laidByText := true, laidKinds := [.data], laidTests := true, laidLooks := .later }
def SetUptosUptoCardSaid : Prop := Claim7.holds Tryd.pinned (.plain (OpenSpec.upto setUptosSpec)) setUptosUptoCard

/-- THE SECOND FORM's CARD OF 'jacquardlaw8.RelKeeps'. -/
def relKeepsUptoCard : Claim7 := { stood := { row := relKeepsUptoRow, standIns := [], harness := (true, "247157c4400f09dbf37c7c2675cf8478a89aff0d810297ef4dd9ce74afe5d438"), looks := false }, kinds := [], alts := [], laidByText := true, laidKinds := [.data], laidTests := true, laidLooks := .later }
def RelKeepsUptoCardSaid : Prop := Claim7.holds Tryd.pinned (.plain (OpenSpec.upto relKeepsSpec)) relKeepsUptoCard

/-- THE SECOND FORM's CARD OF 'jacquardlaw8.RelAlgebra'. -/
def relAlgebraUptoCard : Claim7 := { stood := { row := relAlgebraUptoRow, standIns := [], harness := (true, "247157c4400f09dbf37c7c2675cf8478a89aff0d810297ef4dd9ce74afe5d438"), looks := false }, kinds := [], alts := [], laidByText := true, laidKinds := [.data], laidTests := true, laidLooks := .later }
def RelAlgebraUptoCardSaid : Prop := Claim7.holds Tryd.pinned (.plain (OpenSpec.upto relAlgebraSpec)) relAlgebraUptoCard

/-- THE SECOND FORM's CARD OF 'jacquardlaw8.RelTells'. -/
def relTellsUptoCard : Claim7 := { stood := { row := relTellsUptoRow, standIns := [], harness := (true, "247157c4400f09dbf37c7c2675cf8478a89aff0d810297ef4dd9ce74afe5d438"), looks := false }, kinds := [], alts := [], laidByText := true, laidKinds := [.data], laidTests := true, laidLooks := .later }
def RelTellsUptoCardSaid : Prop := Claim7.holds Tryd.pinned (.plain (OpenSpec.upto relTellsSpec)) relTellsUptoCard
end Rows
end Go.Proofs.YtkdicbhkkancoaaDoor
