/-
  No cell of these rows narrows 'for every input' (looked for: loops, veiled, ifaces, maps, wideKeys, modest, calm, conditions, laid).
  DERIVED. THE GIVEN ROWS OF THIS SEAT. 9 by the template 'for every input the law returns true; each argument reads behind the call as it read before'; 0 by the template 'total and deterministic' (their statements: YtnckehomadnhoaaTotals.lean).
  GIVEN WITH THE SEED: the statements are not yours to turn. If you find one false, say at which input.
  Laid BY PROGRAM, IN A SANDBOX (cutbox-rows.mjs): the forced cells as the released guide's own fill.sh prints them over the translation 53392b4d30b979db… (all of the seat's roots in one cut). By AI agents, Wed Nov 11 2026. No macro, syntax, notation, axiom, sorry.
-/
import Derived.Test.YtnckehomadnhoaaChecked
import GoSem.Claim
import GoSem.ClaimJoined
import GoSem.ClaimMapViews
import Derived.JoinedTies
import Derived.KernelRfl
namespace Go.Proofs.Ytnckehomadnhoaa
/- THE CELL 'sum', in the pinned program and in every row, IS THE sha256 OF THE DUMP (.gsa) THAT YtnckehomadnhoaaProg.lean LOADS. Nothing in Lean hashes anything: it is a label: what it is worth is what the hold of that sum in a sandbox is worth. -/
noncomputable def Try.pinned : Pinned := { name := "ytnckehomadnhoaa", sum := "53392b4d30b979dba94b11470305d5578caa6a7cfd0e3ae377d932cc2e5061b0", checked := Try.checked }
namespace Rows
def none {H : Type} : Left H := { results := [], args := [] }

/-- 'interleavelaw34.OrderEdgesMatchReference': WHATEVER THE INPUT: true; the input reads as it did. -/
def orderEdgesMatchReferenceSpec : ChangeSpec := { name := "orderEdgesMatchReference", fn := fun _ => fun
  | [d] => { results := [.lit (.bool true)], args := [d] }
  | _ => none }
def orderEdgesMatchReferenceRow : OpenClaim := { program := "ytnckehomadnhoaa", sum := "53392b4d30b979dba94b11470305d5578caa6a7cfd0e3ae377d932cc2e5061b0", func := "interleave/interleavelaw34.OrderEdgesMatchReference", spec := "orderEdgesMatchReference", unfollowed := true, recurses := true, plainKeys := false, apart := false }
def OrderEdgesMatchReferenceSaid : Prop := orderEdgesMatchReferenceRow.holds Try.pinned (OpenSpec.ofChange orderEdgesMatchReferenceSpec)

/-- ITS FALSE NEIGHBOUR: 'it returns false'. Refute it at one input. -/
def orderEdgesMatchReferenceWrong : ChangeSpec := { name := "orderEdgesMatchReference", fn := fun _ => fun
  | [d] => { results := [.lit (.bool false)], args := [d] }
  | _ => none }
def OrderEdgesMatchReferenceWrongFalsely : Prop := orderEdgesMatchReferenceRow.holds Try.pinned (OpenSpec.ofChange orderEdgesMatchReferenceWrong)

/-- 'interleavelaw34.OrderBeforeMatchesReference': WHATEVER THE INPUT: true; the input reads as it did. -/
def orderBeforeMatchesReferenceSpec : ChangeSpec := { name := "orderBeforeMatchesReference", fn := fun _ => fun
  | [d1, d2, d3] => { results := [.lit (.bool true)], args := [d1, d2, d3] }
  | _ => none }
def orderBeforeMatchesReferenceRow : OpenClaim := { program := "ytnckehomadnhoaa", sum := "53392b4d30b979dba94b11470305d5578caa6a7cfd0e3ae377d932cc2e5061b0", func := "interleave/interleavelaw34.OrderBeforeMatchesReference", spec := "orderBeforeMatchesReference", unfollowed := true, recurses := true, plainKeys := false, apart := false }
def OrderBeforeMatchesReferenceSaid : Prop := orderBeforeMatchesReferenceRow.holds Try.pinned (OpenSpec.ofChange orderBeforeMatchesReferenceSpec)

/-- ITS FALSE NEIGHBOUR: 'it returns false'. Refute it at one input. -/
def orderBeforeMatchesReferenceWrong : ChangeSpec := { name := "orderBeforeMatchesReference", fn := fun _ => fun
  | [d1, d2, d3] => { results := [.lit (.bool false)], args := [d1, d2, d3] }
  | _ => none }
def OrderBeforeMatchesReferenceWrongFalsely : Prop := orderBeforeMatchesReferenceRow.holds Try.pinned (OpenSpec.ofChange orderBeforeMatchesReferenceWrong)

/-- 'interleavelaw34.OrderConesMatchReference': WHATEVER THE INPUT: true; the input reads as it did. -/
def orderConesMatchReferenceSpec : ChangeSpec := { name := "orderConesMatchReference", fn := fun _ => fun
  | [d1, d2] => { results := [.lit (.bool true)], args := [d1, d2] }
  | _ => none }
def orderConesMatchReferenceRow : OpenClaim := { program := "ytnckehomadnhoaa", sum := "53392b4d30b979dba94b11470305d5578caa6a7cfd0e3ae377d932cc2e5061b0", func := "interleave/interleavelaw34.OrderConesMatchReference", spec := "orderConesMatchReference", unfollowed := true, recurses := true, plainKeys := false, apart := false }
def OrderConesMatchReferenceSaid : Prop := orderConesMatchReferenceRow.holds Try.pinned (OpenSpec.ofChange orderConesMatchReferenceSpec)

/-- ITS FALSE NEIGHBOUR: 'it returns false'. Refute it at one input. -/
def orderConesMatchReferenceWrong : ChangeSpec := { name := "orderConesMatchReference", fn := fun _ => fun
  | [d1, d2] => { results := [.lit (.bool false)], args := [d1, d2] }
  | _ => none }
def OrderConesMatchReferenceWrongFalsely : Prop := orderConesMatchReferenceRow.holds Try.pinned (OpenSpec.ofChange orderConesMatchReferenceWrong)

/-- 'interleavelaw34.OrderRacesMatchReference': WHATEVER THE INPUT: true; the input reads as it did. -/
def orderRacesMatchReferenceSpec : ChangeSpec := { name := "orderRacesMatchReference", fn := fun _ => fun
  | [d] => { results := [.lit (.bool true)], args := [d] }
  | _ => none }
def orderRacesMatchReferenceRow : OpenClaim := { program := "ytnckehomadnhoaa", sum := "53392b4d30b979dba94b11470305d5578caa6a7cfd0e3ae377d932cc2e5061b0", func := "interleave/interleavelaw34.OrderRacesMatchReference", spec := "orderRacesMatchReference", unfollowed := true, recurses := true, plainKeys := false, apart := false }
def OrderRacesMatchReferenceSaid : Prop := orderRacesMatchReferenceRow.holds Try.pinned (OpenSpec.ofChange orderRacesMatchReferenceSpec)

/-- ITS FALSE NEIGHBOUR: 'it returns false'. Refute it at one input. -/
def orderRacesMatchReferenceWrong : ChangeSpec := { name := "orderRacesMatchReference", fn := fun _ => fun
  | [d] => { results := [.lit (.bool false)], args := [d] }
  | _ => none }
def OrderRacesMatchReferenceWrongFalsely : Prop := orderRacesMatchReferenceRow.holds Try.pinned (OpenSpec.ofChange orderRacesMatchReferenceWrong)

/-- 'interleavelaw34.OrderIsPartialOrder': WHATEVER THE INPUT: true; the input reads as it did. -/
def orderIsPartialOrderSpec : ChangeSpec := { name := "orderIsPartialOrder", fn := fun _ => fun
  | [d] => { results := [.lit (.bool true)], args := [d] }
  | _ => none }
def orderIsPartialOrderRow : OpenClaim := { program := "ytnckehomadnhoaa", sum := "53392b4d30b979dba94b11470305d5578caa6a7cfd0e3ae377d932cc2e5061b0", func := "interleave/interleavelaw34.OrderIsPartialOrder", spec := "orderIsPartialOrder", unfollowed := true, recurses := true, plainKeys := false, apart := false }
def OrderIsPartialOrderSaid : Prop := orderIsPartialOrderRow.holds Try.pinned (OpenSpec.ofChange orderIsPartialOrderSpec)

/-- ITS FALSE NEIGHBOUR: 'it returns false'. Refute it at one input. -/
def orderIsPartialOrderWrong : ChangeSpec := { name := "orderIsPartialOrder", fn := fun _ => fun
  | [d] => { results := [.lit (.bool false)], args := [d] }
  | _ => none }
def OrderIsPartialOrderWrongFalsely : Prop := orderIsPartialOrderRow.holds Try.pinned (OpenSpec.ofChange orderIsPartialOrderWrong)

/-- 'interleavelaw34.OrderDependsOnThePast': WHATEVER THE INPUT: true; the input reads as it did. -/
def orderDependsOnThePastSpec : ChangeSpec := { name := "orderDependsOnThePast", fn := fun _ => fun
  | [d1, d2] => { results := [.lit (.bool true)], args := [d1, d2] }
  | _ => none }
def orderDependsOnThePastRow : OpenClaim := { program := "ytnckehomadnhoaa", sum := "53392b4d30b979dba94b11470305d5578caa6a7cfd0e3ae377d932cc2e5061b0", func := "interleave/interleavelaw34.OrderDependsOnThePast", spec := "orderDependsOnThePast", unfollowed := true, recurses := true, plainKeys := false, apart := false }
def OrderDependsOnThePastSaid : Prop := orderDependsOnThePastRow.holds Try.pinned (OpenSpec.ofChange orderDependsOnThePastSpec)

/-- ITS FALSE NEIGHBOUR: 'it returns false'. Refute it at one input. -/
def orderDependsOnThePastWrong : ChangeSpec := { name := "orderDependsOnThePast", fn := fun _ => fun
  | [d1, d2] => { results := [.lit (.bool false)], args := [d1, d2] }
  | _ => none }
def OrderDependsOnThePastWrongFalsely : Prop := orderDependsOnThePastRow.holds Try.pinned (OpenSpec.ofChange orderDependsOnThePastWrong)

/-- 'interleavelaw34.OrderConesAreClosed': WHATEVER THE INPUT: true; the input reads as it did. -/
def orderConesAreClosedSpec : ChangeSpec := { name := "orderConesAreClosed", fn := fun _ => fun
  | [d1, d2] => { results := [.lit (.bool true)], args := [d1, d2] }
  | _ => none }
def orderConesAreClosedRow : OpenClaim := { program := "ytnckehomadnhoaa", sum := "53392b4d30b979dba94b11470305d5578caa6a7cfd0e3ae377d932cc2e5061b0", func := "interleave/interleavelaw34.OrderConesAreClosed", spec := "orderConesAreClosed", unfollowed := true, recurses := true, plainKeys := false, apart := false }
def OrderConesAreClosedSaid : Prop := orderConesAreClosedRow.holds Try.pinned (OpenSpec.ofChange orderConesAreClosedSpec)

/-- ITS FALSE NEIGHBOUR: 'it returns false'. Refute it at one input. -/
def orderConesAreClosedWrong : ChangeSpec := { name := "orderConesAreClosed", fn := fun _ => fun
  | [d1, d2] => { results := [.lit (.bool false)], args := [d1, d2] }
  | _ => none }
def OrderConesAreClosedWrongFalsely : Prop := orderConesAreClosedRow.holds Try.pinned (OpenSpec.ofChange orderConesAreClosedWrong)

/-- 'interleavelaw34.OrderExchange': WHATEVER THE INPUT: true; the input reads as it did. -/
def orderExchangeSpec : ChangeSpec := { name := "orderExchange", fn := fun _ => fun
  | [d1, d2] => { results := [.lit (.bool true)], args := [d1, d2] }
  | _ => none }
def orderExchangeRow : OpenClaim := { program := "ytnckehomadnhoaa", sum := "53392b4d30b979dba94b11470305d5578caa6a7cfd0e3ae377d932cc2e5061b0", func := "interleave/interleavelaw34.OrderExchange", spec := "orderExchange", unfollowed := true, recurses := true, plainKeys := false, apart := false }
def OrderExchangeSaid : Prop := orderExchangeRow.holds Try.pinned (OpenSpec.ofChange orderExchangeSpec)

/-- ITS FALSE NEIGHBOUR: 'it returns false'. Refute it at one input. -/
def orderExchangeWrong : ChangeSpec := { name := "orderExchange", fn := fun _ => fun
  | [d1, d2] => { results := [.lit (.bool false)], args := [d1, d2] }
  | _ => none }
def OrderExchangeWrongFalsely : Prop := orderExchangeRow.holds Try.pinned (OpenSpec.ofChange orderExchangeWrong)

/-- 'interleavelaw34.OrderLocksExclude': WHATEVER THE INPUT: true; the input reads as it did. -/
def orderLocksExcludeSpec : ChangeSpec := { name := "orderLocksExclude", fn := fun _ => fun
  | [d1, d2, d3] => { results := [.lit (.bool true)], args := [d1, d2, d3] }
  | _ => none }
def orderLocksExcludeRow : OpenClaim := { program := "ytnckehomadnhoaa", sum := "53392b4d30b979dba94b11470305d5578caa6a7cfd0e3ae377d932cc2e5061b0", func := "interleave/interleavelaw34.OrderLocksExclude", spec := "orderLocksExclude", unfollowed := true, recurses := true, plainKeys := false, apart := false }
def OrderLocksExcludeSaid : Prop := orderLocksExcludeRow.holds Try.pinned (OpenSpec.ofChange orderLocksExcludeSpec)

/-- ITS FALSE NEIGHBOUR: 'it returns false'. Refute it at one input. -/
def orderLocksExcludeWrong : ChangeSpec := { name := "orderLocksExclude", fn := fun _ => fun
  | [d1, d2, d3] => { results := [.lit (.bool false)], args := [d1, d2, d3] }
  | _ => none }
def OrderLocksExcludeWrongFalsely : Prop := orderLocksExcludeRow.holds Try.pinned (OpenSpec.ofChange orderLocksExcludeWrong)

/- THE SECOND FORM. 'bulk': how many values and letters a reading holds, each counted each time it is reached (what is shared counts as often as it is met; a slice's spare places count too). A statement '..UptoSaid' is the law's where the arguments, and the package variables that the reading takes, are together of bulk at most 1048576: NARROWER than '..Said'. Prove '..Said' where nothing that the law and all that it calls make is longer than what came in: it says more and counts as full. Else prove '..UptoSaid'. A law counts once. -/
mutual
def uptoBulk {H : Type} : DataW H → Nat
  | .lit (.string bytes) => bytes.length + 1
  | .lit _ => 1
  | .nil => 1
  | .ptr d => uptoBulk d + 1
  | .slice elems spare => uptoBulkAll elems + uptoBulkAll spare + 1
  | .agg parts => uptoBulkAll parts + 1
  | .iface _ d => uptoBulk d + 1
  | .map entries => uptoBulkEntries entries + 1
  | .held _ => 1
def uptoBulkAll {H : Type} : List (DataW H) → Nat
  | [] => 0
  | d :: r => uptoBulk d + uptoBulkAll r
def uptoBulkEntries {H : Type} : List (Lit × DataW H) → Nat
  | [] => 0
  | x :: r => uptoBulkEntry x + uptoBulkEntries r
def uptoBulkEntry {H : Type} : Lit × DataW H → Nat
  | (.string bytes, d) => bytes.length + uptoBulk d + 1
  | (_, d) => uptoBulk d + 1
 end
def uptoSmall : (H : Type) → List (DataW H) → Bool := fun _ ds => decide (uptoBulkAll ds ≤ 1048576)
def OpenSpec.upto (s : _root_.Go.ChangeSpec) : _root_.Go.OpenSpec := { _root_.Go.OpenSpec.ofChange s with cond := some uptoSmall }

/-- 'interleavelaw34.OrderEdgesMatchReference', WHERE WHAT IT READS IS OF BULK AT MOST 1048576: true; the input reads as it did. -/
def orderEdgesMatchReferenceUptoRow : OpenClaim := { program := "ytnckehomadnhoaa", sum := "53392b4d30b979dba94b11470305d5578caa6a7cfd0e3ae377d932cc2e5061b0", func := "interleave/interleavelaw34.OrderEdgesMatchReference", spec := "orderEdgesMatchReference", unfollowed := true, recurses := true, plainKeys := false, apart := false, narrowed := true }
def OrderEdgesMatchReferenceUptoSaid : Prop := orderEdgesMatchReferenceUptoRow.holds Try.pinned (OpenSpec.upto orderEdgesMatchReferenceSpec)

/-- 'interleavelaw34.OrderBeforeMatchesReference', WHERE WHAT IT READS IS OF BULK AT MOST 1048576: true; the input reads as it did. -/
def orderBeforeMatchesReferenceUptoRow : OpenClaim := { program := "ytnckehomadnhoaa", sum := "53392b4d30b979dba94b11470305d5578caa6a7cfd0e3ae377d932cc2e5061b0", func := "interleave/interleavelaw34.OrderBeforeMatchesReference", spec := "orderBeforeMatchesReference", unfollowed := true, recurses := true, plainKeys := false, apart := false, narrowed := true }
def OrderBeforeMatchesReferenceUptoSaid : Prop := orderBeforeMatchesReferenceUptoRow.holds Try.pinned (OpenSpec.upto orderBeforeMatchesReferenceSpec)

/-- 'interleavelaw34.OrderConesMatchReference', WHERE WHAT IT READS IS OF BULK AT MOST 1048576: true; the input reads as it did. -/
def orderConesMatchReferenceUptoRow : OpenClaim := { program := "ytnckehomadnhoaa", sum := "53392b4d30b979dba94b11470305d5578caa6a7cfd0e3ae377d932cc2e5061b0", func := "interleave/interleavelaw34.OrderConesMatchReference", spec := "orderConesMatchReference", unfollowed := true, recurses := true, plainKeys := false, apart := false, narrowed := true }
def OrderConesMatchReferenceUptoSaid : Prop := orderConesMatchReferenceUptoRow.holds Try.pinned (OpenSpec.upto orderConesMatchReferenceSpec)

/-- 'interleavelaw34.OrderRacesMatchReference', WHERE WHAT IT READS IS OF BULK AT MOST 1048576: true; the input reads as it did. -/
def orderRacesMatchReferenceUptoRow : OpenClaim := { program := "ytnckehomadnhoaa", sum := "53392b4d30b979dba94b11470305d5578caa6a7cfd0e3ae377d932cc2e5061b0", func := "interleave/interleavelaw34.OrderRacesMatchReference", spec := "orderRacesMatchReference", unfollowed := true, recurses := true, plainKeys := false, apart := false, narrowed := true }
def OrderRacesMatchReferenceUptoSaid : Prop := orderRacesMatchReferenceUptoRow.holds Try.pinned (OpenSpec.upto orderRacesMatchReferenceSpec)

/-- 'interleavelaw34.OrderIsPartialOrder', WHERE WHAT IT READS IS OF BULK AT MOST 1048576: true; the input reads as it did. -/
def orderIsPartialOrderUptoRow : OpenClaim := { program := "ytnckehomadnhoaa", sum := "53392b4d30b979dba94b11470305d5578caa6a7cfd0e3ae377d932cc2e5061b0", func := "interleave/interleavelaw34.OrderIsPartialOrder", spec := "orderIsPartialOrder", unfollowed := true, recurses := true, plainKeys := false, apart := false, narrowed := true }
def OrderIsPartialOrderUptoSaid : Prop := orderIsPartialOrderUptoRow.holds Try.pinned (OpenSpec.upto orderIsPartialOrderSpec)

/-- 'interleavelaw34.OrderDependsOnThePast', WHERE WHAT IT READS IS OF BULK AT MOST 1048576: true; the input reads as it did. -/
def orderDependsOnThePastUptoRow : OpenClaim := { program := "ytnckehomadnhoaa", sum := "53392b4d30b979dba94b11470305d5578caa6a7cfd0e3ae377d932cc2e5061b0", func := "interleave/interleavelaw34.OrderDependsOnThePast", spec := "orderDependsOnThePast", unfollowed := true, recurses := true, plainKeys := false, apart := false, narrowed := true }
def OrderDependsOnThePastUptoSaid : Prop := orderDependsOnThePastUptoRow.holds Try.pinned (OpenSpec.upto orderDependsOnThePastSpec)

/-- 'interleavelaw34.OrderConesAreClosed', WHERE WHAT IT READS IS OF BULK AT MOST 1048576: true; the input reads as it did. -/
def orderConesAreClosedUptoRow : OpenClaim := { program := "ytnckehomadnhoaa", sum := "53392b4d30b979dba94b11470305d5578caa6a7cfd0e3ae377d932cc2e5061b0", func := "interleave/interleavelaw34.OrderConesAreClosed", spec := "orderConesAreClosed", unfollowed := true, recurses := true, plainKeys := false, apart := false, narrowed := true }
def OrderConesAreClosedUptoSaid : Prop := orderConesAreClosedUptoRow.holds Try.pinned (OpenSpec.upto orderConesAreClosedSpec)

/-- 'interleavelaw34.OrderExchange', WHERE WHAT IT READS IS OF BULK AT MOST 1048576: true; the input reads as it did. -/
def orderExchangeUptoRow : OpenClaim := { program := "ytnckehomadnhoaa", sum := "53392b4d30b979dba94b11470305d5578caa6a7cfd0e3ae377d932cc2e5061b0", func := "interleave/interleavelaw34.OrderExchange", spec := "orderExchange", unfollowed := true, recurses := true, plainKeys := false, apart := false, narrowed := true }
def OrderExchangeUptoSaid : Prop := orderExchangeUptoRow.holds Try.pinned (OpenSpec.upto orderExchangeSpec)

/-- 'interleavelaw34.OrderLocksExclude', WHERE WHAT IT READS IS OF BULK AT MOST 1048576: true; the input reads as it did. -/
def orderLocksExcludeUptoRow : OpenClaim := { program := "ytnckehomadnhoaa", sum := "53392b4d30b979dba94b11470305d5578caa6a7cfd0e3ae377d932cc2e5061b0", func := "interleave/interleavelaw34.OrderLocksExclude", spec := "orderLocksExclude", unfollowed := true, recurses := true, plainKeys := false, apart := false, narrowed := true }
def OrderLocksExcludeUptoSaid : Prop := orderLocksExcludeUptoRow.holds Try.pinned (OpenSpec.upto orderLocksExcludeSpec)

end Rows
end Go.Proofs.Ytnckehomadnhoaa
