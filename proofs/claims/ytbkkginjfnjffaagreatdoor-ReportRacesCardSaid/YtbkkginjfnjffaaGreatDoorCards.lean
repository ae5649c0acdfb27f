/-
  DERIVED. GIVEN WITH THE SEED: THE CARDS: each row of YtbkkginjfnjffaaGreatDoorRows.lean that lists a variable, with what it lists TIED to the program's text (the seventh form; the later family's looks); each row that meets fmt, with fmt's text TOLD by the authors' own Lean function (tested against real Go, not proved from fmt's source: count such statements apart). THE CARD IS WHAT COUNTS. Prove the row's statement (the work); the ties are given (YtbkkginjfnjffaaGreatDoorTie.lean); close each card by the builder's one call (the guide's Derived/Test/ToyasCard.lean, 'card_holds'). Laid BY PROGRAM, IN A SANDBOX (cutbox-door.mjs). By AI agents, Wed Nov 11 2026. No macro, syntax, notation, axiom, sorry.
-/
import Derived.Test.YtbkkginjfnjffaaGreatDoorRows
import GoSem.ClaimSeven
namespace Go.Proofs.YtbkkginjfnjffaaGreatDoor
namespace Rows

/-- THE TIED CARD OF 'interleavelaw40.ReportRaces'. -/
def reportRacesCard : Claim7 := { stood := { row := reportRacesRow, standIns := [], harness := (true, "c6b3bfd45ab9c6918ab80a8e31c632e805ac3d706ed6b1b87f005ab481ff6074"), looks := false }, kinds := [], alts := [], laidByText := true, laidKinds := [.data, .data, .data], laidTests := true, laidLooks := .later }
def ReportRacesCardSaid : Prop := Claim7.holds Tryz.pinned (.plain (OpenSpec.ofChange reportRacesSpec)) reportRacesCard

/-- THE SECOND FORM's CARD OF 'interleavelaw40.ReportRaces'. -/
def reportRacesUptoCard : Claim7 := { stood := { row := reportRacesUptoRow, standIns := [], harness := (true, "c6b3bfd45ab9c6918ab80a8e31c632e805ac3d706ed6b1b87f005ab481ff6074"), looks := false }, kinds := [], alts := [], laidByText := true, laidKinds := [.data, .data, .data], laidTests := true, laidLooks := .later }
def ReportRacesUptoCardSaid : Prop := Claim7.holds Tryz.pinned (.plain (OpenSpec.upto reportRacesSpec)) reportRacesUptoCard
end Rows
end Go.Proofs.YtbkkginjfnjffaaGreatDoor
