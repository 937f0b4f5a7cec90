/-
  DERIVED. GIVEN WITH THE SEED: THE CARDS: each row of YtcbgngkalplafaaGreatDoorRows.lean that lists a variable, with what it lists TIED to the program's text (the seventh form; the later family's looks); each row that meets fmt, with fmt's text TOLD by the authors' own Lean function (tested against real Go, not proved from fmt's source: count such statements apart). THE CARD IS WHAT COUNTS. Prove the row's statement (the work); the ties are given (YtcbgngkalplafaaGreatDoorTie.lean); close each card by the builder's one call (the guide's Derived/Test/ToyasCard.lean, 'card_holds'). Laid BY PROGRAM, IN A SANDBOX (cutbox-door.mjs). By AI agents, Wed Nov 11 2026. No macro, syntax, notation, axiom, sorry.
-/
import Derived.Test.YtcbgngkalplafaaGreatDoorRows
import GoSem.ClaimSeven
namespace Go.Proofs.YtcbgngkalplafaaGreatDoor
namespace Rows

/-- THE TIED CARD OF 'replevinlaw44.ScriptTakes'. -/
def scriptTakesCard : Claim7 := { stood := { row := scriptTakesRow, standIns := [], harness := (true, "0ea8b2acd9ffb60c201256b6c7cee6b83bc9d32a1f3f5de515840a0027431c78"), looks := true }, kinds := [], alts := [], laidByText := true, laidKinds := [.data, .data, .data, .sentinel, .sentinel], laidTests := true, laidLooks := .later }
def ScriptTakesCardSaid : Prop := Claim7.holds Tryz.pinned (.plain (OpenSpec.ofChange scriptTakesSpec)) scriptTakesCard

/-- THE TIED CARD OF 'replevinlaw44.ScriptSets'. -/
def scriptSetsCard : Claim7 := { stood := { row := scriptSetsRow, standIns := [], harness := (true, "0ea8b2acd9ffb60c201256b6c7cee6b83bc9d32a1f3f5de515840a0027431c78"), looks := true }, kinds := [], alts := [], laidByText := true, laidKinds := [.data, .data, .data, .sentinel, .sentinel], laidTests := true, laidLooks := .later }
def ScriptSetsCardSaid : Prop := Claim7.holds Tryz.pinned (.plain (OpenSpec.ofChange scriptSetsSpec)) scriptSetsCard

/-- THE SECOND FORM's CARD OF 'replevinlaw44.ScriptTakes'. -/
def scriptTakesUptoCard : Claim7 := { stood := { row := scriptTakesUptoRow, standIns := [], harness := (true, "0ea8b2acd9ffb60c201256b6c7cee6b83bc9d32a1f3f5de515840a0027431c78"), looks := true }, kinds := [], alts := [], laidByText := true, laidKinds := [.data, .data, .data, .sentinel, .sentinel], laidTests := true, laidLooks := .later }
def ScriptTakesUptoCardSaid : Prop := Claim7.holds Tryz.pinned (.plain (OpenSpec.upto scriptTakesSpec)) scriptTakesUptoCard

/-- THE SECOND FORM's CARD OF 'replevinlaw44.ScriptSets'. -/
def scriptSetsUptoCard : Claim7 := { stood := { row := scriptSetsUptoRow, standIns := [], harness := (true, "0ea8b2acd9ffb60c201256b6c7cee6b83bc9d32a1f3f5de515840a0027431c78"), looks := true }, kinds := [], alts := [], laidByText := true, laidKinds := [.data, .data, .data, .sentinel, .sentinel], laidTests := true, laidLooks := .later }
def ScriptSetsUptoCardSaid : Prop := Claim7.holds Tryz.pinned (.plain (OpenSpec.upto scriptSetsSpec)) scriptSetsUptoCard
end Rows
end Go.Proofs.YtcbgngkalplafaaGreatDoor
