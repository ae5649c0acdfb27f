/-
  No cell of these rows narrows 'for every input' (looked for: loops, veiled, ifaces, maps, wideKeys, modest, calm, conditions, laid).
  DERIVED. THE GIVEN ROWS OF THIS SEAT. 8 by the template 'for every input the law returns true; each argument reads behind the call as it read before'; 0 by the template 'total and deterministic' (their statements: YtkfngaobgnijmaaTotals.lean).
  GIVEN WITH THE SEED: the statements are not yours to turn. If you find one false, say at which input.
  Laid BY PROGRAM, IN A SANDBOX (cutbox-rows.mjs): the forced cells as the released guide's own fill.sh prints them over the translation 6203d74b296b6b58… (all of the seat's roots in one cut). By AI agents, Wed Nov 11 2026. No macro, syntax, notation, axiom, sorry.
-/
import Derived.Test.YtkfngaobgnijmaaChecked
import GoSem.Claim
import GoSem.ClaimJoined
import GoSem.ClaimMapViews
import Derived.JoinedTies
import Derived.KernelRfl
namespace Go.Proofs.Ytkfngaobgnijmaa
/- THE CELL 'sum', in the pinned program and in every row, IS THE sha256 OF THE DUMP (.gsa) THAT YtkfngaobgnijmaaProg.lean LOADS. Nothing in Lean hashes anything: it is a label: what it is worth is what the hold of that sum in a sandbox is worth. -/
noncomputable def Try.pinned : Pinned := { name := "ytkfngaobgnijmaa", sum := "6203d74b296b6b587c8280ccff00625e3b26626a495d5536d4bc5012de4b3fcf", checked := Try.checked }
namespace Rows
def none {H : Type} : Left H := { results := [], args := [] }

/-- 'interleavelaw33.EpochOf': WHATEVER THE INPUT: true; the input reads as it did. -/
def epochOfSpec : ChangeSpec := { name := "epochOf", fn := fun _ => fun
  | [d1, d2, d3] => { results := [.lit (.bool true)], args := [d1, d2, d3] }
  | _ => none }
def epochOfRow : OpenClaim := { program := "ytkfngaobgnijmaa", sum := "6203d74b296b6b587c8280ccff00625e3b26626a495d5536d4bc5012de4b3fcf", func := "interleave/interleavelaw33.EpochOf", spec := "epochOf", unfollowed := true, recurses := true, apart := false }
def EpochOfSaid : Prop := epochOfRow.holds Try.pinned (OpenSpec.ofChange epochOfSpec)

/-- ITS FALSE NEIGHBOUR: 'it returns false'. Refute it at one input. -/
def epochOfWrong : ChangeSpec := { name := "epochOf", fn := fun _ => fun
  | [d1, d2, d3] => { results := [.lit (.bool false)], args := [d1, d2, d3] }
  | _ => none }
def EpochOfWrongFalsely : Prop := epochOfRow.holds Try.pinned (OpenSpec.ofChange epochOfWrong)

/-- 'interleavelaw33.EpochAdd': WHATEVER THE INPUT: true; the input reads as it did. -/
def epochAddSpec : ChangeSpec := { name := "epochAdd", fn := fun _ => fun
  | [d1, d2, d3] => { results := [.lit (.bool true)], args := [d1, d2, d3] }
  | _ => none }
def epochAddRow : OpenClaim := { program := "ytkfngaobgnijmaa", sum := "6203d74b296b6b587c8280ccff00625e3b26626a495d5536d4bc5012de4b3fcf", func := "interleave/interleavelaw33.EpochAdd", spec := "epochAdd", unfollowed := true, recurses := true, apart := false }
def EpochAddSaid : Prop := epochAddRow.holds Try.pinned (OpenSpec.ofChange epochAddSpec)

/-- ITS FALSE NEIGHBOUR: 'it returns false'. Refute it at one input. -/
def epochAddWrong : ChangeSpec := { name := "epochAdd", fn := fun _ => fun
  | [d1, d2, d3] => { results := [.lit (.bool false)], args := [d1, d2, d3] }
  | _ => none }
def EpochAddWrongFalsely : Prop := epochAddRow.holds Try.pinned (OpenSpec.ofChange epochAddWrong)

/-- 'interleavelaw33.EpochCovered': WHATEVER THE INPUT: true; the input reads as it did. -/
def epochCoveredSpec : ChangeSpec := { name := "epochCovered", fn := fun _ => fun
  | [d1, d2] => { results := [.lit (.bool true)], args := [d1, d2] }
  | _ => none }
def epochCoveredRow : OpenClaim := { program := "ytkfngaobgnijmaa", sum := "6203d74b296b6b587c8280ccff00625e3b26626a495d5536d4bc5012de4b3fcf", func := "interleave/interleavelaw33.EpochCovered", spec := "epochCovered", unfollowed := true, recurses := true, apart := false }
def EpochCoveredSaid : Prop := epochCoveredRow.holds Try.pinned (OpenSpec.ofChange epochCoveredSpec)

/-- ITS FALSE NEIGHBOUR: 'it returns false'. Refute it at one input. -/
def epochCoveredWrong : ChangeSpec := { name := "epochCovered", fn := fun _ => fun
  | [d1, d2] => { results := [.lit (.bool false)], args := [d1, d2] }
  | _ => none }
def EpochCoveredWrongFalsely : Prop := epochCoveredRow.holds Try.pinned (OpenSpec.ofChange epochCoveredWrong)

/-- 'interleavelaw33.EpochDropExact': WHATEVER THE INPUT: true; the input reads as it did. -/
def epochDropExactSpec : ChangeSpec := { name := "epochDropExact", fn := fun _ => fun
  | [d1, d2, d3] => { results := [.lit (.bool true)], args := [d1, d2, d3] }
  | _ => none }
def epochDropExactRow : OpenClaim := { program := "ytkfngaobgnijmaa", sum := "6203d74b296b6b587c8280ccff00625e3b26626a495d5536d4bc5012de4b3fcf", func := "interleave/interleavelaw33.EpochDropExact", spec := "epochDropExact", unfollowed := true, recurses := true, apart := false }
def EpochDropExactSaid : Prop := epochDropExactRow.holds Try.pinned (OpenSpec.ofChange epochDropExactSpec)

/-- ITS FALSE NEIGHBOUR: 'it returns false'. Refute it at one input. -/
def epochDropExactWrong : ChangeSpec := { name := "epochDropExact", fn := fun _ => fun
  | [d1, d2, d3] => { results := [.lit (.bool false)], args := [d1, d2, d3] }
  | _ => none }
def EpochDropExactWrongFalsely : Prop := epochDropExactRow.holds Try.pinned (OpenSpec.ofChange epochDropExactWrong)

/-- 'interleavelaw33.EpochHistory': WHATEVER THE INPUT: true; the input reads as it did. -/
def epochHistorySpec : ChangeSpec := { name := "epochHistory", fn := fun _ => fun
  | [d] => { results := [.lit (.bool true)], args := [d] }
  | _ => none }
def epochHistoryRow : OpenClaim := { program := "ytkfngaobgnijmaa", sum := "6203d74b296b6b587c8280ccff00625e3b26626a495d5536d4bc5012de4b3fcf", func := "interleave/interleavelaw33.EpochHistory", spec := "epochHistory", unfollowed := true, recurses := true, apart := false }
def EpochHistorySaid : Prop := epochHistoryRow.holds Try.pinned (OpenSpec.ofChange epochHistorySpec)

/-- ITS FALSE NEIGHBOUR: 'it returns false'. Refute it at one input. -/
def epochHistoryWrong : ChangeSpec := { name := "epochHistory", fn := fun _ => fun
  | [d] => { results := [.lit (.bool false)], args := [d] }
  | _ => none }
def EpochHistoryWrongFalsely : Prop := epochHistoryRow.holds Try.pinned (OpenSpec.ofChange epochHistoryWrong)

/-- 'interleavelaw33.EpochValid': WHATEVER THE INPUT: true; the input reads as it did. -/
def epochValidSpec : ChangeSpec := { name := "epochValid", fn := fun _ => fun
  | [d] => { results := [.lit (.bool true)], args := [d] }
  | _ => none }
def epochValidRow : OpenClaim := { program := "ytkfngaobgnijmaa", sum := "6203d74b296b6b587c8280ccff00625e3b26626a495d5536d4bc5012de4b3fcf", func := "interleave/interleavelaw33.EpochValid", spec := "epochValid", unfollowed := true, recurses := true, apart := false }
def EpochValidSaid : Prop := epochValidRow.holds Try.pinned (OpenSpec.ofChange epochValidSpec)

/-- ITS FALSE NEIGHBOUR: 'it returns false'. Refute it at one input. -/
def epochValidWrong : ChangeSpec := { name := "epochValid", fn := fun _ => fun
  | [d] => { results := [.lit (.bool false)], args := [d] }
  | _ => none }
def EpochValidWrongFalsely : Prop := epochValidRow.holds Try.pinned (OpenSpec.ofChange epochValidWrong)

/-- 'interleavelaw33.EpochOneForm': WHATEVER THE INPUT: true; the input reads as it did. -/
def epochOneFormSpec : ChangeSpec := { name := "epochOneForm", fn := fun _ => fun
  | [d1, d2] => { results := [.lit (.bool true)], args := [d1, d2] }
  | _ => none }
def epochOneFormRow : OpenClaim := { program := "ytkfngaobgnijmaa", sum := "6203d74b296b6b587c8280ccff00625e3b26626a495d5536d4bc5012de4b3fcf", func := "interleave/interleavelaw33.EpochOneForm", spec := "epochOneForm", unfollowed := true, recurses := true, apart := false }
def EpochOneFormSaid : Prop := epochOneFormRow.holds Try.pinned (OpenSpec.ofChange epochOneFormSpec)

/-- ITS FALSE NEIGHBOUR: 'it returns false'. Refute it at one input. -/
def epochOneFormWrong : ChangeSpec := { name := "epochOneForm", fn := fun _ => fun
  | [d1, d2] => { results := [.lit (.bool false)], args := [d1, d2] }
  | _ => none }
def EpochOneFormWrongFalsely : Prop := epochOneFormRow.holds Try.pinned (OpenSpec.ofChange epochOneFormWrong)

/-- 'interleavelaw33.EpochAddKeeps': WHATEVER THE INPUT: true; the input reads as it did. -/
def epochAddKeepsSpec : ChangeSpec := { name := "epochAddKeeps", fn := fun _ => fun
  | [d1, d2, d3] => { results := [.lit (.bool true)], args := [d1, d2, d3] }
  | _ => none }
def epochAddKeepsRow : OpenClaim := { program := "ytkfngaobgnijmaa", sum := "6203d74b296b6b587c8280ccff00625e3b26626a495d5536d4bc5012de4b3fcf", func := "interleave/interleavelaw33.EpochAddKeeps", spec := "epochAddKeeps", unfollowed := true, recurses := true, apart := false }
def EpochAddKeepsSaid : Prop := epochAddKeepsRow.holds Try.pinned (OpenSpec.ofChange epochAddKeepsSpec)

/-- ITS FALSE NEIGHBOUR: 'it returns false'. Refute it at one input. -/
def epochAddKeepsWrong : ChangeSpec := { name := "epochAddKeeps", fn := fun _ => fun
  | [d1, d2, d3] => { results := [.lit (.bool false)], args := [d1, d2, d3] }
  | _ => none }
def EpochAddKeepsWrongFalsely : Prop := epochAddKeepsRow.holds Try.pinned (OpenSpec.ofChange epochAddKeepsWrong)

/- THE SECOND FORM. 'bulk': how many values and letters a reading holds, each counted each time it is reached (what is shared counts as often as it is met; a slice's spare places count too). A statement '..UptoSaid' is the law's where the arguments, and the package variables that the reading takes, are together of bulk at most 1048576: NARROWER than '..Said'. Prove '..Said' where nothing that the law and all that it calls make is longer than what came in: it says more and counts as full. Else prove '..UptoSaid'. A law counts once. -/
mutual
def uptoBulk {H : Type} : DataW H → Nat
  | .lit (.string bytes) => bytes.length + 1
  | .lit _ => 1
  | .nil => 1
  | .ptr d => uptoBulk d + 1
  | .slice elems spare => uptoBulkAll elems + uptoBulkAll spare + 1
  | .agg parts => uptoBulkAll parts + 1
  | .iface _ d => uptoBulk d + 1
  | .map entries => uptoBulkEntries entries + 1
  | .held _ => 1
def uptoBulkAll {H : Type} : List (DataW H) → Nat
  | [] => 0
  | d :: r => uptoBulk d + uptoBulkAll r
def uptoBulkEntries {H : Type} : List (Lit × DataW H) → Nat
  | [] => 0
  | x :: r => uptoBulkEntry x + uptoBulkEntries r
def uptoBulkEntry {H : Type} : Lit × DataW H → Nat
  | (.string bytes, d) => bytes.length + uptoBulk d + 1
  | (_, d) => uptoBulk d + 1
 end
def uptoSmall : (H : Type) → List (DataW H) → Bool := fun _ ds => decide (uptoBulkAll ds ≤ 1048576)
def OpenSpec.upto (s : _root_.Go.ChangeSpec) : _root_.Go.OpenSpec := { _root_.Go.OpenSpec.ofChange s with cond := some uptoSmall }

/-- 'interleavelaw33.EpochOf', WHERE WHAT IT READS IS OF BULK AT MOST 1048576: true; the input reads as it did. -/
def epochOfUptoRow : OpenClaim := { program := "ytkfngaobgnijmaa", sum := "6203d74b296b6b587c8280ccff00625e3b26626a495d5536d4bc5012de4b3fcf", func := "interleave/interleavelaw33.EpochOf", spec := "epochOf", unfollowed := true, recurses := true, apart := false, narrowed := true }
def EpochOfUptoSaid : Prop := epochOfUptoRow.holds Try.pinned (OpenSpec.upto epochOfSpec)

/-- 'interleavelaw33.EpochAdd', WHERE WHAT IT READS IS OF BULK AT MOST 1048576: true; the input reads as it did. -/
def epochAddUptoRow : OpenClaim := { program := "ytkfngaobgnijmaa", sum := "6203d74b296b6b587c8280ccff00625e3b26626a495d5536d4bc5012de4b3fcf", func := "interleave/interleavelaw33.EpochAdd", spec := "epochAdd", unfollowed := true, recurses := true, apart := false, narrowed := true }
def EpochAddUptoSaid : Prop := epochAddUptoRow.holds Try.pinned (OpenSpec.upto epochAddSpec)

/-- 'interleavelaw33.EpochCovered', WHERE WHAT IT READS IS OF BULK AT MOST 1048576: true; the input reads as it did. -/
def epochCoveredUptoRow : OpenClaim := { program := "ytkfngaobgnijmaa", sum := "6203d74b296b6b587c8280ccff00625e3b26626a495d5536d4bc5012de4b3fcf", func := "interleave/interleavelaw33.EpochCovered", spec := "epochCovered", unfollowed := true, recurses := true, apart := false, narrowed := true }
def EpochCoveredUptoSaid : Prop := epochCoveredUptoRow.holds Try.pinned (OpenSpec.upto epochCoveredSpec)

/-- 'interleavelaw33.EpochDropExact', WHERE WHAT IT READS IS OF BULK AT MOST 1048576: true; the input reads as it did. -/
def epochDropExactUptoRow : OpenClaim := { program := "ytkfngaobgnijmaa", sum := "6203d74b296b6b587c8280ccff00625e3b26626a495d5536d4bc5012de4b3fcf", func := "interleave/interleavelaw33.EpochDropExact", spec := "epochDropExact", unfollowed := true, recurses := true, apart := false, narrowed := true }
def EpochDropExactUptoSaid : Prop := epochDropExactUptoRow.holds Try.pinned (OpenSpec.upto epochDropExactSpec)

/-- 'interleavelaw33.EpochHistory', WHERE WHAT IT READS IS OF BULK AT MOST 1048576: true; the input reads as it did. -/
def epochHistoryUptoRow : OpenClaim := { program := "ytkfngaobgnijmaa", sum := "6203d74b296b6b587c8280ccff00625e3b26626a495d5536d4bc5012de4b3fcf", func := "interleave/interleavelaw33.EpochHistory", spec := "epochHistory", unfollowed := true, recurses := true, apart := false, narrowed := true }
def EpochHistoryUptoSaid : Prop := epochHistoryUptoRow.holds Try.pinned (OpenSpec.upto epochHistorySpec)

/-- 'interleavelaw33.EpochValid', WHERE WHAT IT READS IS OF BULK AT MOST 1048576: true; the input reads as it did. -/
def epochValidUptoRow : OpenClaim := { program := "ytkfngaobgnijmaa", sum := "6203d74b296b6b587c8280ccff00625e3b26626a495d5536d4bc5012de4b3fcf", func := "interleave/interleavelaw33.EpochValid", spec := "epochValid", unfollowed := true, recurses := true, apart := false, narrowed := true }
def EpochValidUptoSaid : Prop := epochValidUptoRow.holds Try.pinned (OpenSpec.upto epochValidSpec)

/-- 'interleavelaw33.EpochOneForm', WHERE WHAT IT READS IS OF BULK AT MOST 1048576: true; the input reads as it did. -/
def epochOneFormUptoRow : OpenClaim := { program := "ytkfngaobgnijmaa", sum := "6203d74b296b6b587c8280ccff00625e3b26626a495d5536d4bc5012de4b3fcf", func := "interleave/interleavelaw33.EpochOneForm", spec := "epochOneForm", unfollowed := true, recurses := true, apart := false, narrowed := true }
def EpochOneFormUptoSaid : Prop := epochOneFormUptoRow.holds Try.pinned (OpenSpec.upto epochOneFormSpec)

/-- 'interleavelaw33.EpochAddKeeps', WHERE WHAT IT READS IS OF BULK AT MOST 1048576: true; the input reads as it did. -/
def epochAddKeepsUptoRow : OpenClaim := { program := "ytkfngaobgnijmaa", sum := "6203d74b296b6b587c8280ccff00625e3b26626a495d5536d4bc5012de4b3fcf", func := "interleave/interleavelaw33.EpochAddKeeps", spec := "epochAddKeeps", unfollowed := true, recurses := true, apart := false, narrowed := true }
def EpochAddKeepsUptoSaid : Prop := epochAddKeepsUptoRow.holds Try.pinned (OpenSpec.upto epochAddKeepsSpec)

end Rows
end Go.Proofs.Ytkfngaobgnijmaa
