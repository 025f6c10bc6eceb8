/-
  DERIVED. GIVEN WITH THE SEED: THE CARDS: each row of YtfecllgnajhkmaaDoorRows.lean that lists a variable, with what it lists TIED to the program's text (the seventh form; the later family's looks); each row that meets fmt, with fmt's text TOLD by the authors' own Lean function (tested against real Go, not proved from fmt's source: count such statements apart). THE CARD IS WHAT COUNTS. Prove the row's statement (the work); the ties are given (YtfecllgnajhkmaaDoorTie.lean); close each card by the builder's one call (the guide's Derived/Test/ToyasCard.lean, 'card_holds'). Laid BY PROGRAM, IN A SANDBOX (cutbox-door.mjs). By AI agents, Wed Nov 11 2026. No macro, syntax, notation, axiom, sorry.
-/
import Derived.Test.YtfecllgnajhkmaaDoorRows
import GoSem.ClaimSeven
namespace Go.Proofs.YtfecllgnajhkmaaDoor
namespace Rows

/-- THE TIED CARD OF 'jacquardlaw18.ClockShort'. -/
def clockShortCard : Claim7 := { stood := { row := clockShortRow, standIns := [], harness := (true, "e2171dbe47d382b54c2c0add12de0f3351e3e8b0cf390f8a723af4f43efe4e31"), looks := false }, kinds := [], alts := [], laidByText := true, laidKinds := [.data], laidTests := true, laidLooks := .later }
def ClockShortCardSaid : Prop := Claim7.holds Tryd.pinned (.plain (OpenSpec.ofChange clockShortSpec)) clockShortCard

/-- THE TIED CARD OF 'jacquardlaw9.OrderFewer'. -/
def orderFewerCard : Claim7 := { stood := { row := orderFewerRow, standIns := [], harness := (true, "e2171dbe47d382b54c2c0add12de0f3351e3e8b0cf390f8a723af4f43efe4e31"), looks := false }, kinds := [], alts := [], laidByText := true, laidKinds := [.data], laidTests := true, laidLooks := .later }
def OrderFewerCardSaid : Prop := Claim7.holds Tryd.pinned (.plain (OpenSpec.ofChange orderFewerSpec)) orderFewerCard

/-- THE TIED CARD OF 'jacquardlaw9.OrderEach'. -/
def orderEachCard : Claim7 := { stood := { row := orderEachRow, standIns := [], harness := (true, "e2171dbe47d382b54c2c0add12de0f3351e3e8b0cf390f8a723af4f43efe4e31"), looks := false }, kinds := [], alts := [], laidByText := true, laidKinds := [.data], laidTests := true, laidLooks := .later }
def OrderEachCardSaid : Prop := Claim7.holds Tryd.pinned (.plain (OpenSpec.ofChange orderEachSpec)) orderEachCard

/-- THE TIED CARD OF 'jacquardlaw9.OrderKeeps'. -/
def orderKeepsCard : Claim7 := { stood := { row := orderKeepsRow, standIns := [], harness := (true, "e2171dbe47d382b54c2c0add12de0f3351e3e8b0cf390f8a723af4f43efe4e31"), looks := false }, kinds := [], alts := [], laidByText := true, laidKinds := [.data], laidTests := true, laidLooks := .later }
def OrderKeepsCardSaid : Prop := Claim7.holds Tryd.pinned (.plain (OpenSpec.ofChange orderKeepsSpec)) orderKeepsCard

/-- THE TIED CARD OF 'jacquardlaw9.OrderRanks'. -/
def orderRanksCard : Claim7 := { stood := { row := orderRanksRow, standIns := [], harness := (true, "e2171dbe47d382b54c2c0add12de0f3351e3e8b0cf390f8a723af4f43efe4e31"), looks := false }, kinds := [], alts := [], laidByText := true, laidKinds := [.data], laidTests := true, laidLooks := .later }
def OrderRanksCardSaid : Prop := Claim7.holds Tryd.pinned (.plain (OpenSpec.ofChange orderRanksSpec)) orderRanksCard

/-- THE TIED CARD OF 'jacquardlaw9.OrderGreedy'. -/
def orderGreedyCard : Claim7 := { stood := { row := orderGreedyRow, standIns := [], harness := (true, "e2171dbe47d382b54c2c0add12de0f3351e3e8b0cf390f8a723af4f43efe4e31"), looks := false }, kinds := [], alts := [], laidByText := true, laidKinds := [.data], laidTests := true, laidLooks := .later }
def OrderGreedyCardSaid : Prop := Claim7.holds Tryd.pinned (.plain (OpenSpec.ofChange orderGreedySpec)) orderGreedyCard

/-- THE TIED CARD OF 'jacquardlaw9.OrderCounts'. -/
def orderCountsCard : Claim7 := { stood := { row := orderCountsRow, standIns := [], harness := (true, "e2171dbe47d382b54c2c0add12de0f3351e3e8b0cf390f8a723af4f43efe4e31"), looks := false }, kinds := [], alts := [], laidByText := true, laidKinds := [.data], laidTests := true, laidLooks := .later }
def OrderCountsCardSaid : Prop := Claim7.holds Tryd.pinned (.plain (OpenSpec.ofChange orderCountsSpec)) orderCountsCard

/-- THE TIED CARD OF 'jacquardlaw9.OrderAll'. -/
def orderAllCard : Claim7 := { stood := { row := orderAllRow, standIns := [], harness := (true, "e2171dbe47d382b54c2c0add12de0f3351e3e8b0cf390f8a723af4f43efe4e31"), looks := false }, kinds := [], alts := [], laidByText := true, laidKinds := [.data], laidTests := true, laidLooks := .later }
def OrderAllCardSaid : Prop := Claim7.holds Tryd.pinned (.plain (OpenSpec.ofChange orderAllSpec)) orderAllCard

/-- THE SECOND FORM's CARD OF 'jacquardlaw18.ClockShort'. -/
def clockShortUptoCard : Claim7 := { stood := { row := clockShortUptoRow, standIns := [], harness := (true, "e2171dbe47d382b54c2c0add12de0f3351e3e8b0cf390f8a723af4f43efe4e31"), looks := false }, kinds := [], alts := [], laidByText := true, laidKinds := [.data], laidTests := true, laidLooks := .later }
def ClockShortUptoCardSaid : Prop := Claim7.holds Tryd.pinned (.plain (OpenSpec.upto clockShortSpec)) clockShortUptoCard

/-- THE SECOND FORM's CARD OF 'jacquardlaw9.OrderFewer'. -/
def orderFewerUptoCard : Claim7 := { stood := { row := orderFewerUptoRow, standIns := [], harness := (true, "e2171dbe47d382b54c2c0add12de0f3351e3e8b0cf390f8a723af4f43efe4e31"), looks := false }, kinds := [], alts := [], laidByText := true, laidKinds := [.data], laidTests := true, laidLooks := .later }
def OrderFewerUptoCardSaid : Prop := Claim7.holds Tryd.pinned (.plain (OpenSpec.upto orderFewerSpec)) orderFewerUptoCard

/-- THE SECOND FORM's CARD OF 'jacquardlaw9.OrderEach'. -/
def orderEachUptoCard : Claim7 := { stood := { row := orderEachUptoRow, standIns := [], harness := (true, "e2171dbe47d382b54c2c0add12de0f3351e3e8b0cf390f8a723af4f43efe4e31"), looks := false }, kinds := [], alts := [], laidByText := true, laidKinds := [.data], laidTests := true, laidLooks := .later }
def OrderEachUptoCardSaid : Prop := Claim7.holds Tryd.pinned (.plain (OpenSpec.upto orderEachSpec)) orderEachUptoCard

/-- THE SECOND FORM's CARD OF 'jacquardlaw9.OrderKeeps'. -/
def orderKeepsUptoCard : Claim7 := { stood := { row := orderKeepsUptoRow, standIns := [], harness := (true, "e2171dbe47d382b54c2c0add12de0f3351e3e8b0cf390f8a723af4f43efe4e31"), looks := false }, kinds := [], alts := [], laidByText := true, laidKinds := [.data], laidTests := true, laidLooks := .later }
def OrderKeepsUptoCardSaid : Prop := Claim7.holds Tryd.pinned (.plain (OpenSpec.upto orderKeepsSpec)) orderKeepsUptoCard

/-- THE SECOND FORM's CARD OF 'jacquardlaw9.OrderRanks'. -/
def orderRanksUptoCard : Claim7 := { stood := { row := orderRanksUptoRow, standIns := [], harness := (true, "e2171dbe47d382b54c2c0add12de0f3351e3e8b0cf390f8a723af4f43efe4e31"), looks := false }, kinds := [], alts := [], laidByText := true, laidKinds := [.data], laidTests := true, laidLooks := .later }
def OrderRanksUptoCardSaid : Prop := Claim7.holds Tryd.pinned (.plain (OpenSpec.upto orderRanksSpec)) orderRanksUptoCard

/-- THE SECOND FORM's CARD OF 'jacquardlaw9.OrderGreedy'. -/
def orderGreedyUptoCard : Claim7 := { stood := { row := orderGreedyUptoRow, standIns := [], harness := (true, "e2171dbe47d382b54c2c0add12de0f3351e3e8b0cf390f8a723af4f43efe4e31"), looks := false }, kinds := [], alts := [], laidByText := true, laidKinds := [.data], laidTests := true, laidLooks := .later }
def OrderGreedyUptoCardSaid : Prop := Claim7.holds Tryd.pinned (.plain (OpenSpec.upto orderGreedySpec)) orderGreedyUptoCard

/-- THE SECOND FORM's CARD OF 'jacquardlaw9.OrderCounts'. -/
def orderCountsUptoCard : Claim7 := { stood := { row := orderCountsUptoRow, standIns := [], harness := (true, "e2171dbe47d382b54c2c0add12de0f3351e3e8b0cf390f8a723af4f43efe4e31"), looks := false }, kinds := [], alts := [], laidByText := true, laidKinds := [.data], laidTests := true, laidLooks := .later }
def OrderCountsUptoCardSaid : Prop := Claim7.holds Tryd.pinned (.plain (OpenSpec.upto orderCountsSpec)) orderCountsUptoCard

/-- THE SECOND FORM's CARD OF 'jacquardlaw9.OrderAll'. -/
def orderAllUptoCard : Claim7 := { stood := { row := orderAllUptoRow, standIns := [], harness := (true, "e2171dbe47d382b54c2c0add12de0f3351e3e8b0cf390f8a723af4f43efe4e31"), looks := false }, kinds := [], alts := [], laidByText := true, laidKinds := [.data], laidTests := true, laidLooks := .later }
def OrderAllUptoCardSaid : Prop := Claim7.holds Tryd.pinned (.plain (OpenSpec.upto orderAllSpec)) orderAllUptoCard
end Rows
end Go.Proofs.YtfecllgnajhkmaaDoor
