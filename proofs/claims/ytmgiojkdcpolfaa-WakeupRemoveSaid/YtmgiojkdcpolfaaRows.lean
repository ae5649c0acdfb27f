/-
  No cell of these rows narrows 'for every input' (looked for: loops, veiled, ifaces, maps, wideKeys, modest, calm, conditions, laid).
  DERIVED. THE GIVEN ROWS OF THIS SEAT. 6 by the template 'for every input the law returns true; each argument reads behind the call as it read before'; 0 by the template 'total and deterministic' (their statements: YtmgiojkdcpolfaaTotals.lean).
  GIVEN WITH THE SEED: the statements are not yours to turn. If you find one false, say at which input.
  Laid BY PROGRAM, IN A SANDBOX (cutbox-rows.mjs): the forced cells as the released guide's own fill.sh prints them over the translation 5186c347f902f528… (all of the seat's roots in one cut). By AI agents, Wed Nov 11 2026. No macro, syntax, notation, axiom, sorry.
-/
import Derived.Test.YtmgiojkdcpolfaaChecked
import GoSem.Claim
import GoSem.ClaimJoined
import GoSem.ClaimMapViews
import Derived.JoinedTies
import Derived.KernelRfl
namespace Go.Proofs.Ytmgiojkdcpolfaa
/- THE CELL 'sum', in the pinned program and in every row, IS THE sha256 OF THE DUMP (.gsa) THAT YtmgiojkdcpolfaaProg.lean LOADS. Nothing in Lean hashes anything: it is a label: what it is worth is what the hold of that sum in a sandbox is worth. -/
noncomputable def Try.pinned : Pinned := { name := "ytmgiojkdcpolfaa", sum := "5186c347f902f5283b540a148bedc6c32ad4e7595e592730ade7b40538b84949", checked := Try.checked }
namespace Rows
def none {H : Type} : Left H := { results := [], args := [] }

/-- 'interleavelaw50.WakeupInsertMatchesReference': WHATEVER THE INPUT: true; the input reads as it did. -/
def wakeupInsertMatchesReferenceSpec : ChangeSpec := { name := "wakeupInsertMatchesReference", fn := fun _ => fun
  | [d] => { results := [.lit (.bool true)], args := [d] }
  | _ => none }
def wakeupInsertMatchesReferenceRow : OpenClaim := { program := "ytmgiojkdcpolfaa", sum := "5186c347f902f5283b540a148bedc6c32ad4e7595e592730ade7b40538b84949", func := "interleave/interleavelaw50.WakeupInsertMatchesReference", spec := "wakeupInsertMatchesReference", unfollowed := true, recurses := true, apart := false }
def WakeupInsertMatchesReferenceSaid : Prop := wakeupInsertMatchesReferenceRow.holds Try.pinned (OpenSpec.ofChange wakeupInsertMatchesReferenceSpec)

/-- ITS FALSE NEIGHBOUR: 'it returns false'. Refute it at one input. -/
def wakeupInsertMatchesReferenceWrong : ChangeSpec := { name := "wakeupInsertMatchesReference", fn := fun _ => fun
  | [d] => { results := [.lit (.bool false)], args := [d] }
  | _ => none }
def WakeupInsertMatchesReferenceWrongFalsely : Prop := wakeupInsertMatchesReferenceRow.holds Try.pinned (OpenSpec.ofChange wakeupInsertMatchesReferenceWrong)

/-- 'interleavelaw50.WakeupInsertTwice': WHATEVER THE INPUT: true; the input reads as it did. -/
def wakeupInsertTwiceSpec : ChangeSpec := { name := "wakeupInsertTwice", fn := fun _ => fun
  | [d] => { results := [.lit (.bool true)], args := [d] }
  | _ => none }
def wakeupInsertTwiceRow : OpenClaim := { program := "ytmgiojkdcpolfaa", sum := "5186c347f902f5283b540a148bedc6c32ad4e7595e592730ade7b40538b84949", func := "interleave/interleavelaw50.WakeupInsertTwice", spec := "wakeupInsertTwice", unfollowed := true, recurses := true, apart := false }
def WakeupInsertTwiceSaid : Prop := wakeupInsertTwiceRow.holds Try.pinned (OpenSpec.ofChange wakeupInsertTwiceSpec)

/-- ITS FALSE NEIGHBOUR: 'it returns false'. Refute it at one input. -/
def wakeupInsertTwiceWrong : ChangeSpec := { name := "wakeupInsertTwice", fn := fun _ => fun
  | [d] => { results := [.lit (.bool false)], args := [d] }
  | _ => none }
def WakeupInsertTwiceWrongFalsely : Prop := wakeupInsertTwiceRow.holds Try.pinned (OpenSpec.ofChange wakeupInsertTwiceWrong)

/-- 'interleavelaw50.WakeupEquivalentIsNotInserted': WHATEVER THE INPUT: true; the input reads as it did. -/
def wakeupEquivalentIsNotInsertedSpec : ChangeSpec := { name := "wakeupEquivalentIsNotInserted", fn := fun _ => fun
  | [d1, d2] => { results := [.lit (.bool true)], args := [d1, d2] }
  | _ => none }
def wakeupEquivalentIsNotInsertedRow : OpenClaim := { program := "ytmgiojkdcpolfaa", sum := "5186c347f902f5283b540a148bedc6c32ad4e7595e592730ade7b40538b84949", func := "interleave/interleavelaw50.WakeupEquivalentIsNotInserted", spec := "wakeupEquivalentIsNotInserted", unfollowed := true, recurses := true, apart := false }
def WakeupEquivalentIsNotInsertedSaid : Prop := wakeupEquivalentIsNotInsertedRow.holds Try.pinned (OpenSpec.ofChange wakeupEquivalentIsNotInsertedSpec)

/-- ITS FALSE NEIGHBOUR: 'it returns false'. Refute it at one input. -/
def wakeupEquivalentIsNotInsertedWrong : ChangeSpec := { name := "wakeupEquivalentIsNotInserted", fn := fun _ => fun
  | [d1, d2] => { results := [.lit (.bool false)], args := [d1, d2] }
  | _ => none }
def WakeupEquivalentIsNotInsertedWrongFalsely : Prop := wakeupEquivalentIsNotInsertedRow.holds Try.pinned (OpenSpec.ofChange wakeupEquivalentIsNotInsertedWrong)

/-- 'interleavelaw50.WakeupInitialsMatchReference': WHATEVER THE INPUT: true; the input reads as it did. -/
def wakeupInitialsMatchReferenceSpec : ChangeSpec := { name := "wakeupInitialsMatchReference", fn := fun _ => fun
  | [d1, d2] => { results := [.lit (.bool true)], args := [d1, d2] }
  | _ => none }
def wakeupInitialsMatchReferenceRow : OpenClaim := { program := "ytmgiojkdcpolfaa", sum := "5186c347f902f5283b540a148bedc6c32ad4e7595e592730ade7b40538b84949", func := "interleave/interleavelaw50.WakeupInitialsMatchReference", spec := "wakeupInitialsMatchReference", unfollowed := true, recurses := true, apart := false }
def WakeupInitialsMatchReferenceSaid : Prop := wakeupInitialsMatchReferenceRow.holds Try.pinned (OpenSpec.ofChange wakeupInitialsMatchReferenceSpec)

/-- ITS FALSE NEIGHBOUR: 'it returns false'. Refute it at one input. -/
def wakeupInitialsMatchReferenceWrong : ChangeSpec := { name := "wakeupInitialsMatchReference", fn := fun _ => fun
  | [d1, d2] => { results := [.lit (.bool false)], args := [d1, d2] }
  | _ => none }
def WakeupInitialsMatchReferenceWrongFalsely : Prop := wakeupInitialsMatchReferenceRow.holds Try.pinned (OpenSpec.ofChange wakeupInitialsMatchReferenceWrong)

/-- 'interleavelaw50.WakeupRemove': WHATEVER THE INPUT: true; the input reads as it did. -/
def wakeupRemoveSpec : ChangeSpec := { name := "wakeupRemove", fn := fun _ => fun
  | [d1, d2] => { results := [.lit (.bool true)], args := [d1, d2] }
  | _ => none }
def wakeupRemoveRow : OpenClaim := { program := "ytmgiojkdcpolfaa", sum := "5186c347f902f5283b540a148bedc6c32ad4e7595e592730ade7b40538b84949", func := "interleave/interleavelaw50.WakeupRemove", spec := "wakeupRemove", unfollowed := true, recurses := true, apart := false }
def WakeupRemoveSaid : Prop := wakeupRemoveRow.holds Try.pinned (OpenSpec.ofChange wakeupRemoveSpec)

/-- ITS FALSE NEIGHBOUR: 'it returns false'. Refute it at one input. -/
def wakeupRemoveWrong : ChangeSpec := { name := "wakeupRemove", fn := fun _ => fun
  | [d1, d2] => { results := [.lit (.bool false)], args := [d1, d2] }
  | _ => none }
def WakeupRemoveWrongFalsely : Prop := wakeupRemoveRow.holds Try.pinned (OpenSpec.ofChange wakeupRemoveWrong)

/-- 'interleavelaw50.WakeupExploresClasses': WHATEVER THE INPUT: true; the input reads as it did. -/
def wakeupExploresClassesSpec : ChangeSpec := { name := "wakeupExploresClasses", fn := fun _ => fun
  | [d] => { results := [.lit (.bool true)], args := [d] }
  | _ => none }
def wakeupExploresClassesRow : OpenClaim := { program := "ytmgiojkdcpolfaa", sum := "5186c347f902f5283b540a148bedc6c32ad4e7595e592730ade7b40538b84949", func := "interleave/interleavelaw50.WakeupExploresClasses", spec := "wakeupExploresClasses", unfollowed := true, recurses := true, apart := false }
def WakeupExploresClassesSaid : Prop := wakeupExploresClassesRow.holds Try.pinned (OpenSpec.ofChange wakeupExploresClassesSpec)

/-- ITS FALSE NEIGHBOUR: 'it returns false'. Refute it at one input. -/
def wakeupExploresClassesWrong : ChangeSpec := { name := "wakeupExploresClasses", fn := fun _ => fun
  | [d] => { results := [.lit (.bool false)], args := [d] }
  | _ => none }
def WakeupExploresClassesWrongFalsely : Prop := wakeupExploresClassesRow.holds Try.pinned (OpenSpec.ofChange wakeupExploresClassesWrong)

/- THE SECOND FORM. 'bulk': how many values and letters a reading holds, each counted each time it is reached (what is shared counts as often as it is met; a slice's spare places count too). A statement '..UptoSaid' is the law's where the arguments, and the package variables that the reading takes, are together of bulk at most 1048576: NARROWER than '..Said'. Prove '..Said' where nothing that the law and all that it calls make is longer than what came in: it says more and counts as full. Else prove '..UptoSaid'. A law counts once. -/
mutual
def uptoBulk {H : Type} : DataW H → Nat
  | .lit (.string bytes) => bytes.length + 1
  | .lit _ => 1
  | .nil => 1
  | .ptr d => uptoBulk d + 1
  | .slice elems spare => uptoBulkAll elems + uptoBulkAll spare + 1
  | .agg parts => uptoBulkAll parts + 1
  | .iface _ d => uptoBulk d + 1
  | .map entries => uptoBulkEntries entries + 1
  | .held _ => 1
def uptoBulkAll {H : Type} : List (DataW H) → Nat
  | [] => 0
  | d :: r => uptoBulk d + uptoBulkAll r
def uptoBulkEntries {H : Type} : List (Lit × DataW H) → Nat
  | [] => 0
  | x :: r => uptoBulkEntry x + uptoBulkEntries r
def uptoBulkEntry {H : Type} : Lit × DataW H → Nat
  | (.string bytes, d) => bytes.length + uptoBulk d + 1
  | (_, d) => uptoBulk d + 1
 end
def uptoSmall : (H : Type) → List (DataW H) → Bool := fun _ ds => decide (uptoBulkAll ds ≤ 1048576)
def OpenSpec.upto (s : _root_.Go.ChangeSpec) : _root_.Go.OpenSpec := { _root_.Go.OpenSpec.ofChange s with cond := some uptoSmall }

/-- 'interleavelaw50.WakeupInsertMatchesReference', WHERE WHAT IT READS IS OF BULK AT MOST 1048576: true; the input reads as it did. -/
def wakeupInsertMatchesReferenceUptoRow : OpenClaim := { program := "ytmgiojkdcpolfaa", sum := "5186c347f902f5283b540a148bedc6c32ad4e7595e592730ade7b40538b84949", func := "interleave/interleavelaw50.WakeupInsertMatchesReference", spec := "wakeupInsertMatchesReference", unfollowed := true, recurses := true, apart := false, narrowed := true }
def WakeupInsertMatchesReferenceUptoSaid : Prop := wakeupInsertMatchesReferenceUptoRow.holds Try.pinned (OpenSpec.upto wakeupInsertMatchesReferenceSpec)

/-- 'interleavelaw50.WakeupInsertTwice', WHERE WHAT IT READS IS OF BULK AT MOST 1048576: true; the input reads as it did. -/
def wakeupInsertTwiceUptoRow : OpenClaim := { program := "ytmgiojkdcpolfaa", sum := "5186c347f902f5283b540a148bedc6c32ad4e7595e592730ade7b40538b84949", func := "interleave/interleavelaw50.WakeupInsertTwice", spec := "wakeupInsertTwice", unfollowed := true, recurses := true, apart := false, narrowed := true }
def WakeupInsertTwiceUptoSaid : Prop := wakeupInsertTwiceUptoRow.holds Try.pinned (OpenSpec.upto wakeupInsertTwiceSpec)

/-- 'interleavelaw50.WakeupEquivalentIsNotInserted', WHERE WHAT IT READS IS OF BULK AT MOST 1048576: true; the input reads as it did. -/
def wakeupEquivalentIsNotInsertedUptoRow : OpenClaim := { program := "ytmgiojkdcpolfaa", sum := "5186c347f902f5283b540a148bedc6c32ad4e7595e592730ade7b40538b84949", func := "interleave/interleavelaw50.WakeupEquivalentIsNotInserted", spec := "wakeupEquivalentIsNotInserted", unfollowed := true, recurses := true, apart := false, narrowed := true }
def WakeupEquivalentIsNotInsertedUptoSaid : Prop := wakeupEquivalentIsNotInsertedUptoRow.holds Try.pinned (OpenSpec.upto wakeupEquivalentIsNotInsertedSpec)

/-- 'interleavelaw50.WakeupInitialsMatchReference', WHERE WHAT IT READS IS OF BULK AT MOST 1048576: true; the input reads as it did. -/
def wakeupInitialsMatchReferenceUptoRow : OpenClaim := { program := "ytmgiojkdcpolfaa", sum := "5186c347f902f5283b540a148bedc6c32ad4e7595e592730ade7b40538b84949", func := "interleave/interleavelaw50.WakeupInitialsMatchReference", spec := "wakeupInitialsMatchReference", unfollowed := true, recurses := true, apart := false, narrowed := true }
def WakeupInitialsMatchReferenceUptoSaid : Prop := wakeupInitialsMatchReferenceUptoRow.holds Try.pinned (OpenSpec.upto wakeupInitialsMatchReferenceSpec)

/-- 'interleavelaw50.WakeupRemove', WHERE WHAT IT READS IS OF BULK AT MOST 1048576: true; the input reads as it did. -/
def wakeupRemoveUptoRow : OpenClaim := { program := "ytmgiojkdcpolfaa", sum := "5186c347f902f5283b540a148bedc6c32ad4e7595e592730ade7b40538b84949", func := "interleave/interleavelaw50.WakeupRemove", spec := "wakeupRemove", unfollowed := true, recurses := true, apart := false, narrowed := true }
def WakeupRemoveUptoSaid : Prop := wakeupRemoveUptoRow.holds Try.pinned (OpenSpec.upto wakeupRemoveSpec)

/-- 'interleavelaw50.WakeupExploresClasses', WHERE WHAT IT READS IS OF BULK AT MOST 1048576: true; the input reads as it did. -/
def wakeupExploresClassesUptoRow : OpenClaim := { program := "ytmgiojkdcpolfaa", sum := "5186c347f902f5283b540a148bedc6c32ad4e7595e592730ade7b40538b84949", func := "interleave/interleavelaw50.WakeupExploresClasses", spec := "wakeupExploresClasses", unfollowed := true, recurses := true, apart := false, narrowed := true }
def WakeupExploresClassesUptoSaid : Prop := wakeupExploresClassesUptoRow.holds Try.pinned (OpenSpec.upto wakeupExploresClassesSpec)

end Rows
end Go.Proofs.Ytmgiojkdcpolfaa
