/-
  DERIVED. GIVEN WITH THE SEED: THE CARDS: each row of YtdlgoofjechocaaGreatDoorRows.lean that lists a variable, with what it lists TIED to the program's text (the seventh form; the later family's looks); each row that meets fmt, with fmt's text TOLD by the authors' own Lean function (tested against real Go, not proved from fmt's source: count such statements apart). THE CARD IS WHAT COUNTS. Prove the row's statement (the work); the ties are given (YtdlgoofjechocaaGreatDoorTie.lean); close each card by the builder's one call (the guide's Derived/Test/ToyasCard.lean, 'card_holds'). Laid BY PROGRAM, IN A SANDBOX (cutbox-door.mjs). By AI agents, Wed Nov 11 2026. No macro, syntax, notation, axiom, sorry.
-/
import Derived.Test.YtdlgoofjechocaaGreatDoorRows
import GoSem.ClaimSeven
namespace Go.Proofs.YtdlgoofjechocaaGreatDoor
namespace Rows

/-- THE TIED CARD OF 'interleavelaw41.ExplainText'. -/
def explainTextCard : Claim7 := { stood := { row := explainTextRow, standIns := [], harness := (true, "52aa5158d60919e0877eb67aa0f3d78f11eab327c0519b6f16b2ae02e4aeadb4"), looks := false }, kinds := [], alts := [], laidByText := true, laidKinds := [.data, .data, .data, .data], laidTests := true, laidLooks := .later }
def ExplainTextCardSaid : Prop := Claim7.holds Tryz.pinned (.plain (OpenSpec.ofChange explainTextSpec)) explainTextCard

/-- THE SECOND FORM's CARD OF 'interleavelaw41.ExplainText'. -/
def explainTextUptoCard : Claim7 := { stood := { row := explainTextUptoRow, standIns := [], harness := (true, "52aa5158d60919e0877eb67aa0f3d78f11eab327c0519b6f16b2ae02e4aeadb4"), looks := false }, kinds := [], alts := [], laidByText := true, laidKinds := [.data, .data, .data, .data], laidTests := true, laidLooks := .later }
def ExplainTextUptoCardSaid : Prop := Claim7.holds Tryz.pinned (.plain (OpenSpec.upto explainTextSpec)) explainTextUptoCard
end Rows
end Go.Proofs.YtdlgoofjechocaaGreatDoor
