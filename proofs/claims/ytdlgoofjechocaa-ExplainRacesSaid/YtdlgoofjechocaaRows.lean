/-
  No cell of these rows narrows 'for every input' (looked for: loops, veiled, ifaces, maps, wideKeys, modest, calm, conditions, laid).
  DERIVED. THE GIVEN ROWS OF THIS SEAT. 6 by the template 'for every input the law returns true; each argument reads behind the call as it read before'; 0 by the template 'total and deterministic' (their statements: YtdlgoofjechocaaTotals.lean).
  GIVEN WITH THE SEED: the statements are not yours to turn. If you find one false, say at which input.
  Laid BY PROGRAM, IN A SANDBOX (cutbox-rows.mjs): the forced cells as the released guide's own fill.sh prints them over the translation d61bd99e233f536b… (all of the seat's roots in one cut). By AI agents, Wed Nov 11 2026. No macro, syntax, notation, axiom, sorry.
-/
import Derived.Test.YtdlgoofjechocaaChecked
import GoSem.Claim
import GoSem.ClaimJoined
import GoSem.ClaimMapViews
import Derived.JoinedTies
import Derived.KernelRfl
namespace Go.Proofs.Ytdlgoofjechocaa
/- THE CELL 'sum', in the pinned program and in every row, IS THE sha256 OF THE DUMP (.gsa) THAT YtdlgoofjechocaaProg.lean LOADS. Nothing in Lean hashes anything: it is a label: what it is worth is what the hold of that sum in a sandbox is worth. -/
noncomputable def Try.pinned : Pinned := { name := "ytdlgoofjechocaa", sum := "d61bd99e233f536bcbc75bcb102f9319bcaada5e6699dd7f0f228b1bee01db0d", checked := Try.checked }
namespace Rows
def none {H : Type} : Left H := { results := [], args := [] }

/-- 'interleavelaw41.ExplainReason': WHATEVER THE INPUT: true; the input reads as it did. -/
def explainReasonSpec : ChangeSpec := { name := "explainReason", fn := fun _ => fun
  | [d1, d2, d3] => { results := [.lit (.bool true)], args := [d1, d2, d3] }
  | _ => none }
def explainReasonRow : OpenClaim := { program := "ytdlgoofjechocaa", sum := "d61bd99e233f536bcbc75bcb102f9319bcaada5e6699dd7f0f228b1bee01db0d", func := "interleave/interleavelaw41.ExplainReason", spec := "explainReason", unfollowed := true, recurses := true, plainKeys := false, apart := false }
def ExplainReasonSaid : Prop := explainReasonRow.holds Try.pinned (OpenSpec.ofChange explainReasonSpec)

/-- ITS FALSE NEIGHBOUR: 'it returns false'. Refute it at one input. -/
def explainReasonWrong : ChangeSpec := { name := "explainReason", fn := fun _ => fun
  | [d1, d2, d3] => { results := [.lit (.bool false)], args := [d1, d2, d3] }
  | _ => none }
def ExplainReasonWrongFalsely : Prop := explainReasonRow.holds Try.pinned (OpenSpec.ofChange explainReasonWrong)

/-- 'interleavelaw41.ExplainDecides': WHATEVER THE INPUT: true; the input reads as it did. -/
def explainDecidesSpec : ChangeSpec := { name := "explainDecides", fn := fun _ => fun
  | [d1, d2, d3] => { results := [.lit (.bool true)], args := [d1, d2, d3] }
  | _ => none }
def explainDecidesRow : OpenClaim := { program := "ytdlgoofjechocaa", sum := "d61bd99e233f536bcbc75bcb102f9319bcaada5e6699dd7f0f228b1bee01db0d", func := "interleave/interleavelaw41.ExplainDecides", spec := "explainDecides", unfollowed := true, recurses := true, plainKeys := false, apart := false }
def ExplainDecidesSaid : Prop := explainDecidesRow.holds Try.pinned (OpenSpec.ofChange explainDecidesSpec)

/-- ITS FALSE NEIGHBOUR: 'it returns false'. Refute it at one input. -/
def explainDecidesWrong : ChangeSpec := { name := "explainDecides", fn := fun _ => fun
  | [d1, d2, d3] => { results := [.lit (.bool false)], args := [d1, d2, d3] }
  | _ => none }
def ExplainDecidesWrongFalsely : Prop := explainDecidesRow.holds Try.pinned (OpenSpec.ofChange explainDecidesWrong)

/-- 'interleavelaw41.ExplainRaces': WHATEVER THE INPUT: true; the input reads as it did. -/
def explainRacesSpec : ChangeSpec := { name := "explainRaces", fn := fun _ => fun
  | [d] => { results := [.lit (.bool true)], args := [d] }
  | _ => none }
def explainRacesRow : OpenClaim := { program := "ytdlgoofjechocaa", sum := "d61bd99e233f536bcbc75bcb102f9319bcaada5e6699dd7f0f228b1bee01db0d", func := "interleave/interleavelaw41.ExplainRaces", spec := "explainRaces", unfollowed := true, recurses := true, plainKeys := false, apart := false }
def ExplainRacesSaid : Prop := explainRacesRow.holds Try.pinned (OpenSpec.ofChange explainRacesSpec)

/-- ITS FALSE NEIGHBOUR: 'it returns false'. Refute it at one input. -/
def explainRacesWrong : ChangeSpec := { name := "explainRaces", fn := fun _ => fun
  | [d] => { results := [.lit (.bool false)], args := [d] }
  | _ => none }
def ExplainRacesWrongFalsely : Prop := explainRacesRow.holds Try.pinned (OpenSpec.ofChange explainRacesWrong)

/-- 'interleavelaw41.ExplainCheck': WHATEVER THE INPUT: true; the input reads as it did. -/
def explainCheckSpec : ChangeSpec := { name := "explainCheck", fn := fun _ => fun
  | [d1, d2, d3, d4] => { results := [.lit (.bool true)], args := [d1, d2, d3, d4] }
  | _ => none }
def explainCheckRow : OpenClaim := { program := "ytdlgoofjechocaa", sum := "d61bd99e233f536bcbc75bcb102f9319bcaada5e6699dd7f0f228b1bee01db0d", func := "interleave/interleavelaw41.ExplainCheck", spec := "explainCheck", unfollowed := true, recurses := true, plainKeys := false, apart := false }
def ExplainCheckSaid : Prop := explainCheckRow.holds Try.pinned (OpenSpec.ofChange explainCheckSpec)

/-- ITS FALSE NEIGHBOUR: 'it returns false'. Refute it at one input. -/
def explainCheckWrong : ChangeSpec := { name := "explainCheck", fn := fun _ => fun
  | [d1, d2, d3, d4] => { results := [.lit (.bool false)], args := [d1, d2, d3, d4] }
  | _ => none }
def ExplainCheckWrongFalsely : Prop := explainCheckRow.holds Try.pinned (OpenSpec.ofChange explainCheckWrong)

/-- 'interleavelaw41.ExplainOneKind': WHATEVER THE INPUT: true; the input reads as it did. -/
def explainOneKindSpec : ChangeSpec := { name := "explainOneKind", fn := fun _ => fun
  | [d1, d2, d3, d4] => { results := [.lit (.bool true)], args := [d1, d2, d3, d4] }
  | _ => none }
def explainOneKindRow : OpenClaim := { program := "ytdlgoofjechocaa", sum := "d61bd99e233f536bcbc75bcb102f9319bcaada5e6699dd7f0f228b1bee01db0d", func := "interleave/interleavelaw41.ExplainOneKind", spec := "explainOneKind", unfollowed := true, recurses := true, plainKeys := false, apart := false }
def ExplainOneKindSaid : Prop := explainOneKindRow.holds Try.pinned (OpenSpec.ofChange explainOneKindSpec)

/-- ITS FALSE NEIGHBOUR: 'it returns false'. Refute it at one input. -/
def explainOneKindWrong : ChangeSpec := { name := "explainOneKind", fn := fun _ => fun
  | [d1, d2, d3, d4] => { results := [.lit (.bool false)], args := [d1, d2, d3, d4] }
  | _ => none }
def ExplainOneKindWrongFalsely : Prop := explainOneKindRow.holds Try.pinned (OpenSpec.ofChange explainOneKindWrong)

/-- 'interleavelaw41.ExplainLeast': WHATEVER THE INPUT: true; the input reads as it did. -/
def explainLeastSpec : ChangeSpec := { name := "explainLeast", fn := fun _ => fun
  | [d1, d2, d3, d4] => { results := [.lit (.bool true)], args := [d1, d2, d3, d4] }
  | _ => none }
def explainLeastRow : OpenClaim := { program := "ytdlgoofjechocaa", sum := "d61bd99e233f536bcbc75bcb102f9319bcaada5e6699dd7f0f228b1bee01db0d", func := "interleave/interleavelaw41.ExplainLeast", spec := "explainLeast", unfollowed := true, recurses := true, plainKeys := false, apart := false }
def ExplainLeastSaid : Prop := explainLeastRow.holds Try.pinned (OpenSpec.ofChange explainLeastSpec)

/-- ITS FALSE NEIGHBOUR: 'it returns false'. Refute it at one input. -/
def explainLeastWrong : ChangeSpec := { name := "explainLeast", fn := fun _ => fun
  | [d1, d2, d3, d4] => { results := [.lit (.bool false)], args := [d1, d2, d3, d4] }
  | _ => none }
def ExplainLeastWrongFalsely : Prop := explainLeastRow.holds Try.pinned (OpenSpec.ofChange explainLeastWrong)

/- THE SECOND FORM. 'bulk': how many values and letters a reading holds, each counted each time it is reached (what is shared counts as often as it is met; a slice's spare places count too). A statement '..UptoSaid' is the law's where the arguments, and the package variables that the reading takes, are together of bulk at most 1048576: NARROWER than '..Said'. Prove '..Said' where nothing that the law and all that it calls make is longer than what came in: it says more and counts as full. Else prove '..UptoSaid'. A law counts once. -/
mutual
def uptoBulk {H : Type} : DataW H → Nat
  | .lit (.string bytes) => bytes.length + 1
  | .lit _ => 1
  | .nil => 1
  | .ptr d => uptoBulk d + 1
  | .slice elems spare => uptoBulkAll elems + uptoBulkAll spare + 1
  | .agg parts => uptoBulkAll parts + 1
  | .iface _ d => uptoBulk d + 1
  | .map entries => uptoBulkEntries entries + 1
  | .held _ => 1
def uptoBulkAll {H : Type} : List (DataW H) → Nat
  | [] => 0
  | d :: r => uptoBulk d + uptoBulkAll r
def uptoBulkEntries {H : Type} : List (Lit × DataW H) → Nat
  | [] => 0
  | x :: r => uptoBulkEntry x + uptoBulkEntries r
def uptoBulkEntry {H : Type} : Lit × DataW H → Nat
  | (.string bytes, d) => bytes.length + uptoBulk d + 1
  | (_, d) => uptoBulk d + 1
 end
def uptoSmall : (H : Type) → List (DataW H) → Bool := fun _ ds => decide (uptoBulkAll ds ≤ 1048576)
def OpenSpec.upto (s : _root_.Go.ChangeSpec) : _root_.Go.OpenSpec := { _root_.Go.OpenSpec.ofChange s with cond := some uptoSmall }

/-- 'interleavelaw41.ExplainReason', WHERE WHAT IT READS IS OF BULK AT MOST 1048576: true; the input reads as it did. -/
def explainReasonUptoRow : OpenClaim := { program := "ytdlgoofjechocaa", sum := "d61bd99e233f536bcbc75bcb102f9319bcaada5e6699dd7f0f228b1bee01db0d", func := "interleave/interleavelaw41.ExplainReason", spec := "explainReason", unfollowed := true, recurses := true, plainKeys := false, apart := false, narrowed := true }
def ExplainReasonUptoSaid : Prop := explainReasonUptoRow.holds Try.pinned (OpenSpec.upto explainReasonSpec)

/-- 'interleavelaw41.ExplainDecides', WHERE WHAT IT READS IS OF BULK AT MOST 1048576: true; the input reads as it did. -/
def explainDecidesUptoRow : OpenClaim := { program := "ytdlgoofjechocaa", sum := "d61bd99e233f536bcbc75bcb102f9319bcaada5e6699dd7f0f228b1bee01db0d", func := "interleave/interleavelaw41.ExplainDecides", spec := "explainDecides", unfollowed := true, recurses := true, plainKeys := false, apart := false, narrowed := true }
def ExplainDecidesUptoSaid : Prop := explainDecidesUptoRow.holds Try.pinned (OpenSpec.upto explainDecidesSpec)

/-- 'interleavelaw41.ExplainRaces', WHERE WHAT IT READS IS OF BULK AT MOST 1048576: true; the input reads as it did. -/
def explainRacesUptoRow : OpenClaim := { program := "ytdlgoofjechocaa", sum := "d61bd99e233f536bcbc75bcb102f9319bcaada5e6699dd7f0f228b1bee01db0d", func := "interleave/interleavelaw41.ExplainRaces", spec := "explainRaces", unfollowed := true, recurses := true, plainKeys := false, apart := false, narrowed := true }
def ExplainRacesUptoSaid : Prop := explainRacesUptoRow.holds Try.pinned (OpenSpec.upto explainRacesSpec)

/-- 'interleavelaw41.ExplainCheck', WHERE WHAT IT READS IS OF BULK AT MOST 1048576: true; the input reads as it did. -/
def explainCheckUptoRow : OpenClaim := { program := "ytdlgoofjechocaa", sum := "d61bd99e233f536bcbc75bcb102f9319bcaada5e6699dd7f0f228b1bee01db0d", func := "interleave/interleavelaw41.ExplainCheck", spec := "explainCheck", unfollowed := true, recurses := true, plainKeys := false, apart := false, narrowed := true }
def ExplainCheckUptoSaid : Prop := explainCheckUptoRow.holds Try.pinned (OpenSpec.upto explainCheckSpec)

/-- 'interleavelaw41.ExplainOneKind', WHERE WHAT IT READS IS OF BULK AT MOST 1048576: true; the input reads as it did. -/
def explainOneKindUptoRow : OpenClaim := { program := "ytdlgoofjechocaa", sum := "d61bd99e233f536bcbc75bcb102f9319bcaada5e6699dd7f0f228b1bee01db0d", func := "interleave/interleavelaw41.ExplainOneKind", spec := "explainOneKind", unfollowed := true, recurses := true, plainKeys := false, apart := false, narrowed := true }
def ExplainOneKindUptoSaid : Prop := explainOneKindUptoRow.holds Try.pinned (OpenSpec.upto explainOneKindSpec)

/-- 'interleavelaw41.ExplainLeast', WHERE WHAT IT READS IS OF BULK AT MOST 1048576: true; the input reads as it did. -/
def explainLeastUptoRow : OpenClaim := { program := "ytdlgoofjechocaa", sum := "d61bd99e233f536bcbc75bcb102f9319bcaada5e6699dd7f0f228b1bee01db0d", func := "interleave/interleavelaw41.ExplainLeast", spec := "explainLeast", unfollowed := true, recurses := true, plainKeys := false, apart := false, narrowed := true }
def ExplainLeastUptoSaid : Prop := explainLeastUptoRow.holds Try.pinned (OpenSpec.upto explainLeastSpec)

end Rows
end Go.Proofs.Ytdlgoofjechocaa
