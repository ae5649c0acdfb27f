/-
  No cell of these rows narrows 'for every input' (looked for: loops, veiled, ifaces, maps, wideKeys, modest, calm, conditions, laid).
  DERIVED. THE GIVEN ROWS OF THIS SEAT. 6 by the template 'for every input the law returns true; each argument reads behind the call as it read before'; 0 by the template 'total and deterministic' (their statements: YtbhkcejjehgfcaaTotals.lean).
  GIVEN WITH THE SEED: the statements are not yours to turn. If you find one false, say at which input.
  Laid BY PROGRAM, IN A SANDBOX (cutbox-rows.mjs): the forced cells as the released guide's own fill.sh prints them over the translation 07992e011ca16d65… (all of the seat's roots in one cut). By AI agents, Wed Nov 11 2026. No macro, syntax, notation, axiom, sorry.
-/
import Derived.Test.YtbhkcejjehgfcaaChecked
import GoSem.Claim
import GoSem.ClaimJoined
import GoSem.ClaimMapViews
import Derived.JoinedTies
import Derived.KernelRfl
namespace Go.Proofs.Ytbhkcejjehgfcaa
/- THE CELL 'sum', in the pinned program and in every row, IS THE sha256 OF THE DUMP (.gsa) THAT YtbhkcejjehgfcaaProg.lean LOADS. Nothing in Lean hashes anything: it is a label: what it is worth is what the hold of that sum in a sandbox is worth. -/
noncomputable def Try.pinned : Pinned := { name := "ytbhkcejjehgfcaa", sum := "07992e011ca16d6529fabca0afa4ba016916d6e869112cd05ef9f5aa15ca6787", checked := Try.checked }
namespace Rows
def none {H : Type} : Left H := { results := [], args := [] }

/-- 'interleavelaw49.SleepValid': WHATEVER THE INPUT: true; the input reads as it did. -/
def sleepValidSpec : ChangeSpec := { name := "sleepValid", fn := fun _ => fun
  | [d] => { results := [.lit (.bool true)], args := [d] }
  | _ => none }
def sleepValidRow : OpenClaim := { program := "ytbhkcejjehgfcaa", sum := "07992e011ca16d6529fabca0afa4ba016916d6e869112cd05ef9f5aa15ca6787", func := "interleave/interleavelaw49.SleepValid", spec := "sleepValid", inPlace := ["maps.clone"], unfollowed := true, recurses := true, apart := false }
def SleepValidSaid : Prop := sleepValidRow.holds Try.pinned (OpenSpec.ofChange sleepValidSpec)

/-- ITS FALSE NEIGHBOUR: 'it returns false'. Refute it at one input. -/
def sleepValidWrong : ChangeSpec := { name := "sleepValid", fn := fun _ => fun
  | [d] => { results := [.lit (.bool false)], args := [d] }
  | _ => none }
def SleepValidWrongFalsely : Prop := sleepValidRow.holds Try.pinned (OpenSpec.ofChange sleepValidWrong)

/-- 'interleavelaw49.SleepMatchesReference': WHATEVER THE INPUT: true; the input reads as it did. -/
def sleepMatchesReferenceSpec : ChangeSpec := { name := "sleepMatchesReference", fn := fun _ => fun
  | [d] => { results := [.lit (.bool true)], args := [d] }
  | _ => none }
def sleepMatchesReferenceRow : OpenClaim := { program := "ytbhkcejjehgfcaa", sum := "07992e011ca16d6529fabca0afa4ba016916d6e869112cd05ef9f5aa15ca6787", func := "interleave/interleavelaw49.SleepMatchesReference", spec := "sleepMatchesReference", inPlace := ["maps.clone"], unfollowed := true, recurses := true, apart := false }
def SleepMatchesReferenceSaid : Prop := sleepMatchesReferenceRow.holds Try.pinned (OpenSpec.ofChange sleepMatchesReferenceSpec)

/-- ITS FALSE NEIGHBOUR: 'it returns false'. Refute it at one input. -/
def sleepMatchesReferenceWrong : ChangeSpec := { name := "sleepMatchesReference", fn := fun _ => fun
  | [d] => { results := [.lit (.bool false)], args := [d] }
  | _ => none }
def SleepMatchesReferenceWrongFalsely : Prop := sleepMatchesReferenceRow.holds Try.pinned (OpenSpec.ofChange sleepMatchesReferenceWrong)

/-- 'interleavelaw49.SleepCounts': WHATEVER THE INPUT: true; the input reads as it did. -/
def sleepCountsSpec : ChangeSpec := { name := "sleepCounts", fn := fun _ => fun
  | [d] => { results := [.lit (.bool true)], args := [d] }
  | _ => none }
def sleepCountsRow : OpenClaim := { program := "ytbhkcejjehgfcaa", sum := "07992e011ca16d6529fabca0afa4ba016916d6e869112cd05ef9f5aa15ca6787", func := "interleave/interleavelaw49.SleepCounts", spec := "sleepCounts", inPlace := ["maps.clone"], unfollowed := true, recurses := true, apart := false }
def SleepCountsSaid : Prop := sleepCountsRow.holds Try.pinned (OpenSpec.ofChange sleepCountsSpec)

/-- ITS FALSE NEIGHBOUR: 'it returns false'. Refute it at one input. -/
def sleepCountsWrong : ChangeSpec := { name := "sleepCounts", fn := fun _ => fun
  | [d] => { results := [.lit (.bool false)], args := [d] }
  | _ => none }
def SleepCountsWrongFalsely : Prop := sleepCountsRow.holds Try.pinned (OpenSpec.ofChange sleepCountsWrong)

/-- 'interleavelaw49.SleepRepresents': WHATEVER THE INPUT: true; the input reads as it did. -/
def sleepRepresentsSpec : ChangeSpec := { name := "sleepRepresents", fn := fun _ => fun
  | [d1, d2] => { results := [.lit (.bool true)], args := [d1, d2] }
  | _ => none }
def sleepRepresentsRow : OpenClaim := { program := "ytbhkcejjehgfcaa", sum := "07992e011ca16d6529fabca0afa4ba016916d6e869112cd05ef9f5aa15ca6787", func := "interleave/interleavelaw49.SleepRepresents", spec := "sleepRepresents", inPlace := ["maps.clone"], unfollowed := true, recurses := true, apart := false }
def SleepRepresentsSaid : Prop := sleepRepresentsRow.holds Try.pinned (OpenSpec.ofChange sleepRepresentsSpec)

/-- ITS FALSE NEIGHBOUR: 'it returns false'. Refute it at one input. -/
def sleepRepresentsWrong : ChangeSpec := { name := "sleepRepresents", fn := fun _ => fun
  | [d1, d2] => { results := [.lit (.bool false)], args := [d1, d2] }
  | _ => none }
def SleepRepresentsWrongFalsely : Prop := sleepRepresentsRow.holds Try.pinned (OpenSpec.ofChange sleepRepresentsWrong)

/-- 'interleavelaw49.SleepRenumbered': WHATEVER THE INPUT: true; the input reads as it did. -/
def sleepRenumberedSpec : ChangeSpec := { name := "sleepRenumbered", fn := fun _ => fun
  | [d1, d2] => { results := [.lit (.bool true)], args := [d1, d2] }
  | _ => none }
def sleepRenumberedRow : OpenClaim := { program := "ytbhkcejjehgfcaa", sum := "07992e011ca16d6529fabca0afa4ba016916d6e869112cd05ef9f5aa15ca6787", func := "interleave/interleavelaw49.SleepRenumbered", spec := "sleepRenumbered", inPlace := ["maps.clone"], unfollowed := true, recurses := true, apart := false }
def SleepRenumberedSaid : Prop := sleepRenumberedRow.holds Try.pinned (OpenSpec.ofChange sleepRenumberedSpec)

/-- ITS FALSE NEIGHBOUR: 'it returns false'. Refute it at one input. -/
def sleepRenumberedWrong : ChangeSpec := { name := "sleepRenumbered", fn := fun _ => fun
  | [d1, d2] => { results := [.lit (.bool false)], args := [d1, d2] }
  | _ => none }
def SleepRenumberedWrongFalsely : Prop := sleepRenumberedRow.holds Try.pinned (OpenSpec.ofChange sleepRenumberedWrong)

/-- 'interleavelaw49.SleepDependences': WHATEVER THE INPUT: true; the input reads as it did. -/
def sleepDependencesSpec : ChangeSpec := { name := "sleepDependences", fn := fun _ => fun
  | [d1, d2] => { results := [.lit (.bool true)], args := [d1, d2] }
  | _ => none }
def sleepDependencesRow : OpenClaim := { program := "ytbhkcejjehgfcaa", sum := "07992e011ca16d6529fabca0afa4ba016916d6e869112cd05ef9f5aa15ca6787", func := "interleave/interleavelaw49.SleepDependences", spec := "sleepDependences", inPlace := ["maps.clone"], unfollowed := true, recurses := true, apart := false }
def SleepDependencesSaid : Prop := sleepDependencesRow.holds Try.pinned (OpenSpec.ofChange sleepDependencesSpec)

/-- ITS FALSE NEIGHBOUR: 'it returns false'. Refute it at one input. -/
def sleepDependencesWrong : ChangeSpec := { name := "sleepDependences", fn := fun _ => fun
  | [d1, d2] => { results := [.lit (.bool false)], args := [d1, d2] }
  | _ => none }
def SleepDependencesWrongFalsely : Prop := sleepDependencesRow.holds Try.pinned (OpenSpec.ofChange sleepDependencesWrong)

/- THE SECOND FORM. 'bulk': how many values and letters a reading holds, each counted each time it is reached (what is shared counts as often as it is met; a slice's spare places count too). A statement '..UptoSaid' is the law's where the arguments, and the package variables that the reading takes, are together of bulk at most 1048576: NARROWER than '..Said'. Prove '..Said' where nothing that the law and all that it calls make is longer than what came in: it says more and counts as full. Else prove '..UptoSaid'. A law counts once. -/
mutual
def uptoBulk {H : Type} : DataW H → Nat
  | .lit (.string bytes) => bytes.length + 1
  | .lit _ => 1
  | .nil => 1
  | .ptr d => uptoBulk d + 1
  | .slice elems spare => uptoBulkAll elems + uptoBulkAll spare + 1
  | .agg parts => uptoBulkAll parts + 1
  | .iface _ d => uptoBulk d + 1
  | .map entries => uptoBulkEntries entries + 1
  | .held _ => 1
def uptoBulkAll {H : Type} : List (DataW H) → Nat
  | [] => 0
  | d :: r => uptoBulk d + uptoBulkAll r
def uptoBulkEntries {H : Type} : List (Lit × DataW H) → Nat
  | [] => 0
  | x :: r => uptoBulkEntry x + uptoBulkEntries r
def uptoBulkEntry {H : Type} : Lit × DataW H → Nat
  | (.string bytes, d) => bytes.length + uptoBulk d + 1
  | (_, d) => uptoBulk d + 1
 end
def uptoSmall : (H : Type) → List (DataW H) → Bool := fun _ ds => decide (uptoBulkAll ds ≤ 1048576)
def OpenSpec.upto (s : _root_.Go.ChangeSpec) : _root_.Go.OpenSpec := { _root_.Go.OpenSpec.ofChange s with cond := some uptoSmall }

/-- 'interleavelaw49.SleepValid', WHERE WHAT IT READS IS OF BULK AT MOST 1048576: true; the input reads as it did. -/
def sleepValidUptoRow : OpenClaim := { program := "ytbhkcejjehgfcaa", sum := "07992e011ca16d6529fabca0afa4ba016916d6e869112cd05ef9f5aa15ca6787", func := "interleave/interleavelaw49.SleepValid", spec := "sleepValid", inPlace := ["maps.clone"], unfollowed := true, recurses := true, apart := false, narrowed := true }
def SleepValidUptoSaid : Prop := sleepValidUptoRow.holds Try.pinned (OpenSpec.upto sleepValidSpec)

/-- 'interleavelaw49.SleepMatchesReference', WHERE WHAT IT READS IS OF BULK AT MOST 1048576: true; the input reads as it did. -/
def sleepMatchesReferenceUptoRow : OpenClaim := { program := "ytbhkcejjehgfcaa", sum := "07992e011ca16d6529fabca0afa4ba016916d6e869112cd05ef9f5aa15ca6787", func := "interleave/interleavelaw49.SleepMatchesReference", spec := "sleepMatchesReference", inPlace := ["maps.clone"], unfollowed := true, recurses := true, apart := false, narrowed := true }
def SleepMatchesReferenceUptoSaid : Prop := sleepMatchesReferenceUptoRow.holds Try.pinned (OpenSpec.upto sleepMatchesReferenceSpec)

/-- 'interleavelaw49.SleepCounts', WHERE WHAT IT READS IS OF BULK AT MOST 1048576: true; the input reads as it did. -/
def sleepCountsUptoRow : OpenClaim := { program := "ytbhkcejjehgfcaa", sum := "07992e011ca16d6529fabca0afa4ba016916d6e869112cd05ef9f5aa15ca6787", func := "interleave/interleavelaw49.SleepCounts", spec := "sleepCounts", inPlace := ["maps.clone"], unfollowed := true, recurses := true, apart := false, narrowed := true }
def SleepCountsUptoSaid : Prop := sleepCountsUptoRow.holds Try.pinned (OpenSpec.upto sleepCountsSpec)

/-- 'interleavelaw49.SleepRepresents', WHERE WHAT IT READS IS OF BULK AT MOST 1048576: true; the input reads as it did. -/
def sleepRepresentsUptoRow : OpenClaim := { program := "ytbhkcejjehgfcaa", sum := "07992e011ca16d6529fabca0afa4ba016916d6e869112cd05ef9f5aa15ca6787", func := "interleave/interleavelaw49.SleepRepresents", spec := "sleepRepresents", inPlace := ["maps.clone"], unfollowed := true, recurses := true, apart := false, narrowed := true }
def SleepRepresentsUptoSaid : Prop := sleepRepresentsUptoRow.holds Try.pinned (OpenSpec.upto sleepRepresentsSpec)

/-- 'interleavelaw49.SleepRenumbered', WHERE WHAT IT READS IS OF BULK AT MOST 1048576: true; the input reads as it did. -/
def sleepRenumberedUptoRow : OpenClaim := { program := "ytbhkcejjehgfcaa", sum := "07992e011ca16d6529fabca0afa4ba016916d6e869112cd05ef9f5aa15ca6787", func := "interleave/interleavelaw49.SleepRenumbered", spec := "sleepRenumbered", inPlace := ["maps.clone"], unfollowed := true, recurses := true, apart := false, narrowed := true }
def SleepRenumberedUptoSaid : Prop := sleepRenumberedUptoRow.holds Try.pinned (OpenSpec.upto sleepRenumberedSpec)

/-- 'interleavelaw49.SleepDependences', WHERE WHAT IT READS IS OF BULK AT MOST 1048576: true; the input reads as it did. -/
def sleepDependencesUptoRow : OpenClaim := { program := "ytbhkcejjehgfcaa", sum := "07992e011ca16d6529fabca0afa4ba016916d6e869112cd05ef9f5aa15ca6787", func := "interleave/interleavelaw49.SleepDependences", spec := "sleepDependences", inPlace := ["maps.clone"], unfollowed := true, recurses := true, apart := false, narrowed := true }
def SleepDependencesUptoSaid : Prop := sleepDependencesUptoRow.holds Try.pinned (OpenSpec.upto sleepDependencesSpec)

end Rows
end Go.Proofs.Ytbhkcejjehgfcaa
