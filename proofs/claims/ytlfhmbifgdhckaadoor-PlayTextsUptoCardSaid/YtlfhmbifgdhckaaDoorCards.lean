/-
  DERIVED. GIVEN WITH THE SEED: THE CARDS: each row of YtlfhmbifgdhckaaDoorRows.lean that lists a variable, with what it lists TIED to the program's text (the seventh form; the later family's looks); each row that meets fmt, with fmt's text TOLD by the authors' own Lean function (tested against real Go, not proved from fmt's source: count such statements apart). THE CARD IS WHAT COUNTS. Prove the row's statement (the work); the ties are given (YtlfhmbifgdhckaaDoorTie.lean); close each card by the builder's one call (the guide's Derived/Test/ToyasCard.lean, 'card_holds'). Laid BY PROGRAM, IN A SANDBOX (cutbox-door.mjs). By AI agents, Wed Nov 11 2026. No macro, syntax, notation, axiom, sorry.
-/
import Derived.Test.YtlfhmbifgdhckaaDoorRows
import GoSem.ClaimSeven
namespace Go.Proofs.YtlfhmbifgdhckaaDoor
namespace Rows

/-- THE TIED CARD OF 'jacquardlaw17.PlayWords'. -/
def playWordsCard : Claim7 := { stood := { row := playWordsRow, standIns := [], harness := (true, "25545daf39eed465904917e0760c91ac70c91bb45a6eaf63648095635f9bc796"), looks := false }, kinds := [], alts := [], laidByText := true, laidKinds := [.data, .data, .data, .data, .pinned], laidTests := true, laidLooks := .later }
def PlayWordsCardSaid : Prop := Claim7.holds Tryd.pinned (.plain (OpenSpec.ofChange playWordsSpec)) playWordsCard

/-- THE TIED CARD OF 'jacquardlaw17.PlayTexts'. -/
def playTextsCard : Claim7 := { stood := { row := playTextsRow, standIns := [], harness := (true, "25545daf39eed465904917e0760c91ac70c91bb45a6eaf63648095635f9bc796"), looks := false }, kinds := [], alts := [], laidByText := true, laidKinds := [.data, .data, .data, .data, .pinned], laidTests := true, laidLooks := .later }
def PlayTextsCardSaid : Prop := Claim7.holds Tryd.pinned (.plain (OpenSpec.ofChange playTextsSpec)) playTextsCard

/-- THE SECOND FORM's CARD OF 'jacquardlaw17.PlayWords'. -/
def playWordsUptoCard : Claim7 := { stood := { row := playWordsUptoRow, standIns := [], harness := (true, "25545daf39eed465904917e0760c91ac70c91bb45a6eaf63648095635f9bc796"), looks := false }, kinds := [], alts := [], laidByText := true, laidKinds := [.data, .data, .data, .data, .pinned], laidTests := true, laidLooks := .later }
def PlayWordsUptoCardSaid : Prop := Claim7.holds Tryd.pinned (.plain (OpenSpec.upto playWordsSpec)) playWordsUptoCard

/-- THE SECOND FORM's CARD OF 'jacquardlaw17.PlayTexts'. -/
def playTextsUptoCard : Claim7 := { stood := { row := playTextsUptoRow, standIns := [], harness := (true, "25545daf39eed465904917e0760c91ac70c91bb45a6eaf63648095635f9bc796"), looks := false }, kinds := [], alts := [], laidByText := true, laidKinds := [.data, .data, .data, .data, .pinned], laidTests := true, laidLooks := .later }
def PlayTextsUptoCardSaid : Prop := Claim7.holds Tryd.pinned (.plain (OpenSpec.upto playTextsSpec)) playTextsUptoCard
end Rows
end Go.Proofs.YtlfhmbifgdhckaaDoor
