/-
  DERIVED. GIVEN WITH THE SEED: THE CARDS: each row of YtbkkginjfnjffaaDoorRows.lean that lists a variable, with what it lists TIED to the program's text (the seventh form; the later family's looks); each row that meets fmt, with fmt's text TOLD by the authors' own Lean function (tested against real Go, not proved from fmt's source: count such statements apart). THE CARD IS WHAT COUNTS. Prove the row's statement (the work); the ties are given (YtbkkginjfnjffaaDoorTie.lean); close each card by the builder's one call (the guide's Derived/Test/ToyasCard.lean, 'card_holds'). Laid BY PROGRAM, IN A SANDBOX (cutbox-door.mjs). By AI agents, Wed Nov 11 2026. No macro, syntax, notation, axiom, sorry.
-/
import Derived.Test.YtbkkginjfnjffaaDoorRows
import GoSem.ClaimSeven
namespace Go.Proofs.YtbkkginjfnjffaaDoor
namespace Rows

/-- THE TIED CARD OF 'interleavelaw40.ReportMerge'. -/
def reportMergeCard : Claim7 := { stood := { row := reportMergeRow, standIns := [], harness := (true, "d72118e02f2fd72996af79ce2e8f99646e1b96cff2469196cc1c32fa351fd41e"), looks := false }, kinds := [], alts := [], laidByText := true, laidKinds := [.data, .data, .data], laidTests := true, laidLooks := .later }
def ReportMergeCardSaid : Prop := Claim7.holds Tryd.pinned (.plain (OpenSpec.ofChange reportMergeSpec)) reportMergeCard

/-- THE TIED CARD OF 'interleavelaw40.ReportOrderFree'. -/
def reportOrderFreeCard : Claim7 := { stood := { row := reportOrderFreeRow, standIns := [], harness := (true, "d72118e02f2fd72996af79ce2e8f99646e1b96cff2469196cc1c32fa351fd41e"), looks := false }, kinds := [], alts := [], laidByText := true, laidKinds := [.data, .data, .data], laidTests := true, laidLooks := .later }
def ReportOrderFreeCardSaid : Prop := Claim7.holds Tryd.pinned (.plain (OpenSpec.ofChange reportOrderFreeSpec)) reportOrderFreeCard

/-- THE TIED CARD OF 'interleavelaw40.ReportDoubled'. -/
def reportDoubledCard : Claim7 := { stood := { row := reportDoubledRow, standIns := [], harness := (true, "d72118e02f2fd72996af79ce2e8f99646e1b96cff2469196cc1c32fa351fd41e"), looks := false }, kinds := [], alts := [], laidByText := true, laidKinds := [.data, .data, .data], laidTests := true, laidLooks := .later }
def ReportDoubledCardSaid : Prop := Claim7.holds Tryd.pinned (.plain (OpenSpec.ofChange reportDoubledSpec)) reportDoubledCard

/-- THE TIED CARD OF 'interleavelaw40.ReportLine'. -/
def reportLineCard : Claim7 := { stood := { row := reportLineRow, standIns := [], harness := (true, "d72118e02f2fd72996af79ce2e8f99646e1b96cff2469196cc1c32fa351fd41e"), looks := false }, kinds := [], alts := [], laidByText := true, laidKinds := [.data, .data, .data], laidTests := true, laidLooks := .later }
def ReportLineCardSaid : Prop := Claim7.holds Tryd.pinned (.plain (OpenSpec.ofChange reportLineSpec)) reportLineCard

/-- THE TIED CARD OF 'interleavelaw40.ReportText'. -/
def reportTextCard : Claim7 := { stood := { row := reportTextRow, standIns := [], harness := (true, "d72118e02f2fd72996af79ce2e8f99646e1b96cff2469196cc1c32fa351fd41e"), looks := false }, kinds := [], alts := [], laidByText := true, laidKinds := [.data, .data, .data], laidTests := true, laidLooks := .later }
def ReportTextCardSaid : Prop := Claim7.holds Tryd.pinned (.plain (OpenSpec.ofChange reportTextSpec)) reportTextCard

/-- THE SECOND FORM's CARD OF 'interleavelaw40.ReportMerge'. -/
def reportMergeUptoCard : Claim7 := { stood := { row := reportMergeUptoRow, standIns := [], harness := (true, "d72118e02f2fd72996af79ce2e8f99646e1b96cff2469196cc1c32fa351fd41e"), looks := false }, kinds := [], alts := [], laidByText := true, laidKinds := [.data, .data, .data], laidTests := true, laidLooks := .later }
def ReportMergeUptoCardSaid : Prop := Claim7.holds Tryd.pinned (.plain (OpenSpec.upto reportMergeSpec)) reportMergeUptoCard

/-- THE SECOND FORM's CARD OF 'interleavelaw40.ReportOrderFree'. -/
def reportOrderFreeUptoCard : Claim7 := { stood := { row := reportOrderFreeUptoRow, standIns := [], harness := (true, "d72118e02f2fd72996af79ce2e8f99646e1b96cff2469196cc1c32fa351fd41e"), looks := false }, kinds := [], alts := [], laidByText := true, laidKinds := [.data, .data, .data], laidTests := true, laidLooks := .later }
def ReportOrderFreeUptoCardSaid : Prop := Claim7.holds Tryd.pinned (.plain (OpenSpec.upto reportOrderFreeSpec)) reportOrderFreeUptoCard

/-- THE SECOND FORM's CARD OF 'interleavelaw40.ReportDoubled'. -/
def reportDoubledUptoCard : Claim7 := { stood := { row := reportDoubledUptoRow, standIns := [], harness := (true, "d72118e02f2fd72996af79ce2e8f99646e1b96cff2469196cc1c32fa351fd41e"), looks := false }, kinds := [], alts := [], laidByText := true, laidKinds := [.data, .data, .data], laidTests := true, laidLooks := .later }
def ReportDoubledUptoCardSaid : Prop := Claim7.holds Tryd.pinned (.plain (OpenSpec.upto reportDoubledSpec)) reportDoubledUptoCard

/-- THE SECOND FORM's CARD OF 'interleavelaw40.ReportLine'. -/
def reportLineUptoCard : Claim7 := { stood := { row := reportLineUptoRow, standIns := [], harness := (true, "d72118e02f2fd72996af79ce2e8f99646e1b96cff2469196cc1c32fa351fd41e"), looks := false }, kinds := [], alts := [], laidByText := true, laidKinds := [.data, .data, .data], laidTests := true, laidLooks := .later }
def ReportLineUptoCardSaid : Prop := Claim7.holds Tryd.pinned (.plain (OpenSpec.upto reportLineSpec)) reportLineUptoCard

/-- THE SECOND FORM's CARD OF 'interleavelaw40.ReportText'. -/
def reportTextUptoCard : Claim7 := { stood := { row := reportTextUptoRow, standIns := [], harness := (true, "d72118e02f2fd72996af79ce2e8f99646e1b96cff2469196cc1c32fa351fd41e"), looks := false }, kinds := [], alts := [], laidByText := true, laidKinds := [.data, .data, .data], laidTests := true, laidLooks := .later }
def ReportTextUptoCardSaid : Prop := Claim7.holds Tryd.pinned (.plain (OpenSpec.upto reportTextSpec)) reportTextUptoCard
end Rows
end Go.Proofs.YtbkkginjfnjffaaDoor
