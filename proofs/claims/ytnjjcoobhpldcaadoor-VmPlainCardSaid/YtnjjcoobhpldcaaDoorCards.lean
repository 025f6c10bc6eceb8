/-
  DERIVED. GIVEN WITH THE SEED: THE CARDS: each row of YtnjjcoobhpldcaaDoorRows.lean that lists a variable, with what it lists TIED to the program's text (the seventh form; the later family's looks); each row that meets fmt, with fmt's text TOLD by the authors' own Lean function (tested against real Go, not proved from fmt's source: count such statements apart). THE CARD IS WHAT COUNTS. Prove the row's statement (the work); the ties are given (YtnjjcoobhpldcaaDoorTie.lean); close each card by the builder's one call (the guide's Derived/Test/ToyasCard.lean, 'card_holds'). Laid BY PROGRAM, IN A SANDBOX (cutbox-door.mjs). By AI agents, Wed Nov 11 2026. No macro, syntax, notation, axiom, sorry.
-/
import Derived.Test.YtnjjcoobhpldcaaDoorRows
import GoSem.ClaimSeven
namespace Go.Proofs.YtnjjcoobhpldcaaDoor
namespace Rows

/-- THE TIED CARD OF 'jacquardlaw16.VmNames'. -/
def vmNamesCard : Claim7 := { stood := { row := vmNamesRow, standIns := [], harness := (true, "fbcc807f78fdf03f3d1dccb6a06178810c141046c856c49e25ab327e98756d6a"), looks := false }, kinds := [], alts := [], laidByText := true, laidKinds := [.data, .data, .data], laidTests := true, laidLooks := .later }
def VmNamesCardSaid : Prop := Claim7.holds Tryd.pinned (.plain (OpenSpec.ofChange vmNamesSpec)) vmNamesCard

/-- THE TIED CARD OF 'jacquardlaw16.VmArgs'. -/
def vmArgsCard : Claim7 := { stood := { row := vmArgsRow, standIns := [], harness := (true, "fbcc807f78fdf03f3d1dccb6a06178810c141046c856c49e25ab327e98756d6a"), looks := false }, kinds := [], alts := [], laidByText := true, laidKinds := [.data, .data, .data], laidTests := true, laidLooks := .later }
def VmArgsCardSaid : Prop := Claim7.holds Tryd.pinned (.plain (OpenSpec.ofChange vmArgsSpec)) vmArgsCard

/-- THE TIED CARD OF 'jacquardlaw16.VmWaits'. -/
def vmWaitsCard : Claim7 := { stood := { row := vmWaitsRow, standIns := [], harness := (true, "fbcc807f78fdf03f3d1dccb6a06178810c141046c856c49e25ab327e98756d6a"), looks := false }, kinds := [], alts := [], laidByText := true, laidKinds := [.data, .data, .data], laidTests := true, laidLooks := .later }
def VmWaitsCardSaid : Prop := Claim7.holds Tryd.pinned (.plain (OpenSpec.ofChange vmWaitsSpec)) vmWaitsCard

/-- THE TIED CARD OF 'jacquardlaw16.VmForwards'. -/
def vmForwardsCard : Claim7 := { stood := { row := vmForwardsRow, standIns := [], harness := (true, "fbcc807f78fdf03f3d1dccb6a06178810c141046c856c49e25ab327e98756d6a"), looks := false }, kinds := [], alts := [], laidByText := true, laidKinds := [.data, .data, .data], laidTests := true, laidLooks := .later }
def VmForwardsCardSaid : Prop := Claim7.holds Tryd.pinned (.plain (OpenSpec.ofChange vmForwardsSpec)) vmForwardsCard

/-- THE TIED CARD OF 'jacquardlaw16.VmFirst'. -/
def vmFirstCard : Claim7 := { stood := { row := vmFirstRow, standIns := [], harness := (true, "fbcc807f78fdf03f3d1dccb6a06178810c141046c856c49e25ab327e98756d6a"), looks := false }, kinds := [], alts := [], laidByText := true, laidKinds := [.data, .data, .data], laidTests := true, laidLooks := .later }
def VmFirstCardSaid : Prop := Claim7.holds Tryd.pinned (.plain (OpenSpec.ofChange vmFirstSpec)) vmFirstCard

/-- THE TIED CARD OF 'jacquardlaw16.VmEnds'. -/
def vmEndsCard : Claim7 := { stood := { row := vmEndsRow, standIns := [], harness := (true, "fbcc807f78fdf03f3d1dccb6a06178810c141046c856c49e25ab327e98756d6a"), looks := false }, kinds := [], alts := [], laidByText := true, laidKinds := [.data, .data, .data], laidTests := true, laidLooks := .later }
def VmEndsCardSaid : Prop := Claim7.holds Tryd.pinned (.plain (OpenSpec.ofChange vmEndsSpec)) vmEndsCard

/-- THE TIED CARD OF 'jacquardlaw16.VmPlain'. -/
def vmPlainCard : Claim7 := { stood := { row := vmPlainRow, standIns := [], harness := (true, "fbcc807f78fdf03f3d1dccb6a06178810c141046c856c49e25ab327e98756d6a"), looks := false }, kinds := [], alts := [], laidByText := true, laidKinds := [.data, .data, .data], laidTests := true, laidLooks := .later }
def VmPlainCardSaid : Prop := Claim7.holds Tryd.pinned (.plain (OpenSpec.ofChange vmPlainSpec)) vmPlainCard

/-- THE TIED CARD OF 'jacquardlaw16.VmPlays'. -/
def vmPlaysCard : Claim7 := { stood := { row := vmPlaysRow, standIns := [], harness := (true, "fbcc807f78fdf03f3d1dccb6a06178810c141046c856c49e25ab327e98756d6a"), looks := false }, kinds := [], alts := [], laidByText := true, laidKinds := [.data, .data, .data], laidTests := true, laidLooks := .later }
def VmPlaysCardSaid : Prop := Claim7.holds Tryd.pinned (.plain (OpenSpec.ofChange vmPlaysSpec)) vmPlaysCard

/-- THE TIED CARD OF 'jacquardlaw16.VmCopies'. -/
def vmCopiesCard : Claim7 := { stood := { row := vmCopiesRow, standIns := [], harness := (true, "fbcc807f78fdf03f3d1dccb6a06178810c141046c856c49e25ab327e98756d6a"), looks := false }, kinds := [], alts := [], laidByText := true, laidKinds := [.data, .data, .data], laidTests := true, laidLooks := .later }
def VmCopiesCardSaid : Prop := Claim7.holds Tryd.pinned (.plain (OpenSpec.ofChange vmCopiesSpec)) vmCopiesCard

/-- THE SECOND FORM's CARD OF 'jacquardlaw16.VmNames'. -/
def vmNamesUptoCard : Claim7 := { stood := { row := vmNamesUptoRow, standIns := [], harness := (true, "fbcc807f78fdf03f3d1dccb6a06178810c141046c856c49e25ab327e98756d6a"), looks := false }, kinds := [], alts := [], laidByText := true, laidKinds := [.data, .data, .data], laidTests := true, laidLooks := .later }
def VmNamesUptoCardSaid : Prop := Claim7.holds Tryd.pinned (.plain (OpenSpec.upto vmNamesSpec)) vmNamesUptoCard

/-- THE SECOND FORM's CARD OF 'jacquardlaw16.VmArgs'. -/
def vmArgsUptoCard : Claim7 := { stood := { row := vmArgsUptoRow, standIns := [], harness := (true, "fbcc807f78fdf03f3d1dccb6a06178810c141046c856c49e25ab327e98756d6a"), looks := false }, kinds := [], alts := [], laidByText := true, laidKinds := [.data, .data, .data], laidTests := true, laidLooks := .later }
def VmArgsUptoCardSaid : Prop := Claim7.holds Tryd.pinned (.plain (OpenSpec.upto vmArgsSpec)) vmArgsUptoCard

/-- THE SECOND FORM's CARD OF 'jacquardlaw16.VmWaits'. -/
def vmWaitsUptoCard : Claim7 := { stood := { row := vmWaitsUptoRow, standIns := [], harness := (true, "fbcc807f78fdf03f3d1dccb6a06178810c141046c856c49e25ab327e98756d6a"), looks := false }, kinds := [], alts := [], laidByText := true, laidKinds := [.data, .data, .data], laidTests := true, laidLooks := .later }
def VmWaitsUptoCardSaid : Prop := Claim7.holds Tryd.pinned (.plain (OpenSpec.upto vmWaitsSpec)) vmWaitsUptoCard

/-- THE SECOND FORM's CARD OF 'jacquardlaw16.VmForwards'. -/
def vmForwardsUptoCard : Claim7 := { stood := { row := vmForwardsUptoRow, standIns := [], harness := (true, "fbcc807f78fdf03f3d1dccb6a06178810c141046c856c49e25ab327e98756d6a"), looks := false }, kinds := [], alts := [], laidByText := true, laidKinds := [.data, .data, .data], laidTests := true, laidLooks := .later }
def VmForwardsUptoCardSaid : Prop := Claim7.holds Tryd.pinned (.plain (OpenSpec.upto vmForwardsSpec)) vmForwardsUptoCard

/-- THE SECOND FORM's CARD OF 'jacquardlaw16.VmFirst'. -/
def vmFirstUptoCard : Claim7 := { stood := { row := vmFirstUptoRow, standIns := [], harness := (true, "fbcc807f78fdf03f3d1dccb6a06178810c141046c856c49e25ab327e98756d6a"), looks := false }, kinds := [], alts := [], laidByText := true, laidKinds := [.data, .data, .data], laidTests := true, laidLooks := .later }
def VmFirstUptoCardSaid : Prop := Claim7.holds Tryd.pinned (.plain (OpenSpec.upto vmFirstSpec)) vmFirstUptoCard

/-- THE SECOND FORM's CARD OF 'jacquardlaw16.VmEnds'. -/
def vmEndsUptoCard : Claim7 := { stood := { row := vmEndsUptoRow, standIns := [], harness := (true, "fbcc807f78fdf03f3d1dccb6a06178810c141046c856c49e25ab327e98756d6a"), looks := false }, kinds := [], alts := [], laidByText := true, laidKinds := [.data, .data, .data], laidTests := true, laidLooks := .later }
def VmEndsUptoCardSaid : Prop := Claim7.holds Tryd.pinned (.plain (OpenSpec.upto vmEndsSpec)) vmEndsUptoCard

/-- THE SECOND FORM's CARD OF 'jacquardlaw16.VmPlain'. -/
def vmPlainUptoCard : Claim7 := { stood := { row := vmPlainUptoRow, standIns := [], harness := (true, "fbcc807f78fdf03f3d1dccb6a06178810c141046c856c49e25ab327e98756d6a"), looks := false }, kinds := [], alts := [], laidByText := true, laidKinds := [.data, .data, .data], laidTests := true, laidLooks := .later }
def VmPlainUptoCardSaid : Prop := Claim7.holds Tryd.pinned (.plain (OpenSpec.upto vmPlainSpec)) vmPlainUptoCard

/-- THE SECOND FORM's CARD OF 'jacquardlaw16.VmPlays'. -/
def vmPlaysUptoCard : Claim7 := { stood := { row := vmPlaysUptoRow, standIns := [], harness := (true, "fbcc807f78fdf03f3d1dccb6a06178810c141046c856c49e25ab327e98756d6a"), looks := false }, kinds := [], alts := [], laidByText := true, laidKinds := [.data, .data, .data], laidTests := true, laidLooks := .later }
def VmPlaysUptoCardSaid : Prop := Claim7.holds Tryd.pinned (.plain (OpenSpec.upto vmPlaysSpec)) vmPlaysUptoCard

/-- THE SECOND FORM's CARD OF 'jacquardlaw16.VmCopies'. -/
def vmCopiesUptoCard : Claim7 := { stood := { row := vmCopiesUptoRow, standIns := [], harness := (true, "fbcc807f78fdf03f3d1dccb6a06178810c141046c856c49e25ab327e98756d6a"), looks := false }, kinds := [], alts := [], laidByText := true, laidKinds := [.data, .data, .data], laidTests := true, laidLooks := .later }
def VmCopiesUptoCardSaid : Prop := Claim7.holds Tryd.pinned (.plain (OpenSpec.upto vmCopiesSpec)) vmCopiesUptoCard
end Rows
end Go.Proofs.YtnjjcoobhpldcaaDoor
