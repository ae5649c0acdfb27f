/-
  No cell of these rows narrows 'for every input' (looked for: loops, veiled, ifaces, maps, wideKeys, modest, calm, conditions, laid).
  DERIVED. THE GIVEN ROWS OF THIS SEAT. 7 by the template 'for every input the law returns true; each argument reads behind the call as it read before'; 0 by the template 'total and deterministic' (their statements: YthncoanmmnileaaTotals.lean).
  GIVEN WITH THE SEED: the statements are not yours to turn. If you find one false, say at which input.
  Laid BY PROGRAM, IN A SANDBOX (cutbox-rows.mjs): the forced cells as the released guide's own fill.sh prints them over the translation 17776f5dcc4bfefe… (all of the seat's roots in one cut). By AI agents, Wed Nov 11 2026. No macro, syntax, notation, axiom, sorry.
-/
import Derived.Test.YthncoanmmnileaaChecked
import GoSem.Claim
import GoSem.ClaimJoined
import GoSem.ClaimMapViews
import Derived.JoinedTies
import Derived.KernelRfl
namespace Go.Proofs.Ythncoanmmnileaa
/- THE CELL 'sum', in the pinned program and in every row, IS THE sha256 OF THE DUMP (.gsa) THAT YthncoanmmnileaaProg.lean LOADS. Nothing in Lean hashes anything: it is a label: what it is worth is what the hold of that sum in a sandbox is worth. -/
noncomputable def Try.pinned : Pinned := { name := "ythncoanmmnileaa", sum := "17776f5dcc4bfefe2cf15b29ea7899def991ed3384e5092353e029b137d5ddc6", checked := Try.checked }
namespace Rows
def none {H : Type} : Left H := { results := [], args := [] }

/-- 'interleavelaw01.LinesTable': WHATEVER THE INPUT: true; the input reads as it did. -/
def linesTableSpec : ChangeSpec := { name := "linesTable", fn := fun _ => fun
  | [d] => { results := [.lit (.bool true)], args := [d] }
  | _ => none }
def linesTableRow : OpenClaim := { program := "ythncoanmmnileaa", sum := "17776f5dcc4bfefe2cf15b29ea7899def991ed3384e5092353e029b137d5ddc6", func := "interleave/interleavelaw01.LinesTable", spec := "linesTable", unfollowed := true, recurses := true, apart := false }
def LinesTableSaid : Prop := linesTableRow.holds Try.pinned (OpenSpec.ofChange linesTableSpec)

/-- ITS FALSE NEIGHBOUR: 'it returns false'. Refute it at one input. -/
def linesTableWrong : ChangeSpec := { name := "linesTable", fn := fun _ => fun
  | [d] => { results := [.lit (.bool false)], args := [d] }
  | _ => none }
def LinesTableWrongFalsely : Prop := linesTableRow.holds Try.pinned (OpenSpec.ofChange linesTableWrong)

/-- 'interleavelaw01.LinesValid': WHATEVER THE INPUT: true; the input reads as it did. -/
def linesValidSpec : ChangeSpec := { name := "linesValid", fn := fun _ => fun
  | [d] => { results := [.lit (.bool true)], args := [d] }
  | _ => none }
def linesValidRow : OpenClaim := { program := "ythncoanmmnileaa", sum := "17776f5dcc4bfefe2cf15b29ea7899def991ed3384e5092353e029b137d5ddc6", func := "interleave/interleavelaw01.LinesValid", spec := "linesValid", unfollowed := true, recurses := true, apart := false }
def LinesValidSaid : Prop := linesValidRow.holds Try.pinned (OpenSpec.ofChange linesValidSpec)

/-- ITS FALSE NEIGHBOUR: 'it returns false'. Refute it at one input. -/
def linesValidWrong : ChangeSpec := { name := "linesValid", fn := fun _ => fun
  | [d] => { results := [.lit (.bool false)], args := [d] }
  | _ => none }
def LinesValidWrongFalsely : Prop := linesValidRow.holds Try.pinned (OpenSpec.ofChange linesValidWrong)

/-- 'interleavelaw01.LinesPosition': WHATEVER THE INPUT: true; the input reads as it did. -/
def linesPositionSpec : ChangeSpec := { name := "linesPosition", fn := fun _ => fun
  | [d1, d2] => { results := [.lit (.bool true)], args := [d1, d2] }
  | _ => none }
def linesPositionRow : OpenClaim := { program := "ythncoanmmnileaa", sum := "17776f5dcc4bfefe2cf15b29ea7899def991ed3384e5092353e029b137d5ddc6", func := "interleave/interleavelaw01.LinesPosition", spec := "linesPosition", unfollowed := true, recurses := true, apart := false }
def LinesPositionSaid : Prop := linesPositionRow.holds Try.pinned (OpenSpec.ofChange linesPositionSpec)

/-- ITS FALSE NEIGHBOUR: 'it returns false'. Refute it at one input. -/
def linesPositionWrong : ChangeSpec := { name := "linesPosition", fn := fun _ => fun
  | [d1, d2] => { results := [.lit (.bool false)], args := [d1, d2] }
  | _ => none }
def LinesPositionWrongFalsely : Prop := linesPositionRow.holds Try.pinned (OpenSpec.ofChange linesPositionWrong)

/-- 'interleavelaw01.LinesOffset': WHATEVER THE INPUT: true; the input reads as it did. -/
def linesOffsetSpec : ChangeSpec := { name := "linesOffset", fn := fun _ => fun
  | [d1, d2, d3] => { results := [.lit (.bool true)], args := [d1, d2, d3] }
  | _ => none }
def linesOffsetRow : OpenClaim := { program := "ythncoanmmnileaa", sum := "17776f5dcc4bfefe2cf15b29ea7899def991ed3384e5092353e029b137d5ddc6", func := "interleave/interleavelaw01.LinesOffset", spec := "linesOffset", unfollowed := true, recurses := true, apart := false }
def LinesOffsetSaid : Prop := linesOffsetRow.holds Try.pinned (OpenSpec.ofChange linesOffsetSpec)

/-- ITS FALSE NEIGHBOUR: 'it returns false'. Refute it at one input. -/
def linesOffsetWrong : ChangeSpec := { name := "linesOffset", fn := fun _ => fun
  | [d1, d2, d3] => { results := [.lit (.bool false)], args := [d1, d2, d3] }
  | _ => none }
def LinesOffsetWrongFalsely : Prop := linesOffsetRow.holds Try.pinned (OpenSpec.ofChange linesOffsetWrong)

/-- 'interleavelaw01.LinesSpan': WHATEVER THE INPUT: true; the input reads as it did. -/
def linesSpanSpec : ChangeSpec := { name := "linesSpan", fn := fun _ => fun
  | [d1, d2] => { results := [.lit (.bool true)], args := [d1, d2] }
  | _ => none }
def linesSpanRow : OpenClaim := { program := "ythncoanmmnileaa", sum := "17776f5dcc4bfefe2cf15b29ea7899def991ed3384e5092353e029b137d5ddc6", func := "interleave/interleavelaw01.LinesSpan", spec := "linesSpan", unfollowed := true, recurses := true, apart := false }
def LinesSpanSaid : Prop := linesSpanRow.holds Try.pinned (OpenSpec.ofChange linesSpanSpec)

/-- ITS FALSE NEIGHBOUR: 'it returns false'. Refute it at one input. -/
def linesSpanWrong : ChangeSpec := { name := "linesSpan", fn := fun _ => fun
  | [d1, d2] => { results := [.lit (.bool false)], args := [d1, d2] }
  | _ => none }
def LinesSpanWrongFalsely : Prop := linesSpanRow.holds Try.pinned (OpenSpec.ofChange linesSpanWrong)

/-- 'interleavelaw01.LinesInverse': WHATEVER THE INPUT: true; the input reads as it did. -/
def linesInverseSpec : ChangeSpec := { name := "linesInverse", fn := fun _ => fun
  | [d1, d2, d3] => { results := [.lit (.bool true)], args := [d1, d2, d3] }
  | _ => none }
def linesInverseRow : OpenClaim := { program := "ythncoanmmnileaa", sum := "17776f5dcc4bfefe2cf15b29ea7899def991ed3384e5092353e029b137d5ddc6", func := "interleave/interleavelaw01.LinesInverse", spec := "linesInverse", unfollowed := true, recurses := true, apart := false }
def LinesInverseSaid : Prop := linesInverseRow.holds Try.pinned (OpenSpec.ofChange linesInverseSpec)

/-- ITS FALSE NEIGHBOUR: 'it returns false'. Refute it at one input. -/
def linesInverseWrong : ChangeSpec := { name := "linesInverse", fn := fun _ => fun
  | [d1, d2, d3] => { results := [.lit (.bool false)], args := [d1, d2, d3] }
  | _ => none }
def LinesInverseWrongFalsely : Prop := linesInverseRow.holds Try.pinned (OpenSpec.ofChange linesInverseWrong)

/-- 'interleavelaw01.LinesCover': WHATEVER THE INPUT: true; the input reads as it did. -/
def linesCoverSpec : ChangeSpec := { name := "linesCover", fn := fun _ => fun
  | [d] => { results := [.lit (.bool true)], args := [d] }
  | _ => none }
def linesCoverRow : OpenClaim := { program := "ythncoanmmnileaa", sum := "17776f5dcc4bfefe2cf15b29ea7899def991ed3384e5092353e029b137d5ddc6", func := "interleave/interleavelaw01.LinesCover", spec := "linesCover", unfollowed := true, recurses := true, apart := false }
def LinesCoverSaid : Prop := linesCoverRow.holds Try.pinned (OpenSpec.ofChange linesCoverSpec)

/-- ITS FALSE NEIGHBOUR: 'it returns false'. Refute it at one input. -/
def linesCoverWrong : ChangeSpec := { name := "linesCover", fn := fun _ => fun
  | [d] => { results := [.lit (.bool false)], args := [d] }
  | _ => none }
def LinesCoverWrongFalsely : Prop := linesCoverRow.holds Try.pinned (OpenSpec.ofChange linesCoverWrong)

/- THE SECOND FORM. 'bulk': how many values and letters a reading holds, each counted each time it is reached (what is shared counts as often as it is met; a slice's spare places count too). A statement '..UptoSaid' is the law's where the arguments, and the package variables that the reading takes, are together of bulk at most 1048576: NARROWER than '..Said'. Prove '..Said' where nothing that the law and all that it calls make is longer than what came in: it says more and counts as full. Else prove '..UptoSaid'. A law counts once. -/
mutual
def uptoBulk {H : Type} : DataW H → Nat
  | .lit (.string bytes) => bytes.length + 1
  | .lit _ => 1
  | .nil => 1
  | .ptr d => uptoBulk d + 1
  | .slice elems spare => uptoBulkAll elems + uptoBulkAll spare + 1
  | .agg parts => uptoBulkAll parts + 1
  | .iface _ d => uptoBulk d + 1
  | .map entries => uptoBulkEntries entries + 1
  | .held _ => 1
def uptoBulkAll {H : Type} : List (DataW H) → Nat
  | [] => 0
  | d :: r => uptoBulk d + uptoBulkAll r
def uptoBulkEntries {H : Type} : List (Lit × DataW H) → Nat
  | [] => 0
  | x :: r => uptoBulkEntry x + uptoBulkEntries r
def uptoBulkEntry {H : Type} : Lit × DataW H → Nat
  | (.string bytes, d) => bytes.length + uptoBulk d + 1
  | (_, d) => uptoBulk d + 1
 end
def uptoSmall : (H : Type) → List (DataW H) → Bool := fun _ ds => decide (uptoBulkAll ds ≤ 1048576)
def OpenSpec.upto (s : _root_.Go.ChangeSpec) : _root_.Go.OpenSpec := { _root_.Go.OpenSpec.ofChange s with cond := some uptoSmall }

/-- 'interleavelaw01.LinesTable', WHERE WHAT IT READS IS OF BULK AT MOST 1048576: true; the input reads as it did. -/
def linesTableUptoRow : OpenClaim := { program := "ythncoanmmnileaa", sum := "17776f5dcc4bfefe2cf15b29ea7899def991ed3384e5092353e029b137d5ddc6", func := "interleave/interleavelaw01.LinesTable", spec := "linesTable", unfollowed := true, recurses := true, apart := false, narrowed := true }
def LinesTableUptoSaid : Prop := linesTableUptoRow.holds Try.pinned (OpenSpec.upto linesTableSpec)

/-- 'interleavelaw01.LinesValid', WHERE WHAT IT READS IS OF BULK AT MOST 1048576: true; the input reads as it did. -/
def linesValidUptoRow : OpenClaim := { program := "ythncoanmmnileaa", sum := "17776f5dcc4bfefe2cf15b29ea7899def991ed3384e5092353e029b137d5ddc6", func := "interleave/interleavelaw01.LinesValid", spec := "linesValid", unfollowed := true, recurses := true, apart := false, narrowed := true }
def LinesValidUptoSaid : Prop := linesValidUptoRow.holds Try.pinned (OpenSpec.upto linesValidSpec)

/-- 'interleavelaw01.LinesPosition', WHERE WHAT IT READS IS OF BULK AT MOST 1048576: true; the input reads as it did. -/
def linesPositionUptoRow : OpenClaim := { program := "ythncoanmmnileaa", sum := "17776f5dcc4bfefe2cf15b29ea7899def991ed3384e5092353e029b137d5ddc6", func := "interleave/interleavelaw01.LinesPosition", spec := "linesPosition", unfollowed := true, recurses := true, apart := false, narrowed := true }
def LinesPositionUptoSaid : Prop := linesPositionUptoRow.holds Try.pinned (OpenSpec.upto linesPositionSpec)

/-- 'interleavelaw01.LinesOffset', WHERE WHAT IT READS IS OF BULK AT MOST 1048576: true; the input reads as it did. -/
def linesOffsetUptoRow : OpenClaim := { program := "ythncoanmmnileaa", sum := "17776f5dcc4bfefe2cf15b29ea7899def991ed3384e5092353e029b137d5ddc6", func := "interleave/interleavelaw01.LinesOffset", spec := "linesOffset", unfollowed := true, recurses := true, apart := false, narrowed := true }
def LinesOffsetUptoSaid : Prop := linesOffsetUptoRow.holds Try.pinned (OpenSpec.upto linesOffsetSpec)

/-- 'interleavelaw01.LinesSpan', WHERE WHAT IT READS IS OF BULK AT MOST 1048576: true; the input reads as it did. -/
def linesSpanUptoRow : OpenClaim := { program := "ythncoanmmnileaa", sum := "17776f5dcc4bfefe2cf15b29ea7899def991ed3384e5092353e029b137d5ddc6", func := "interleave/interleavelaw01.LinesSpan", spec := "linesSpan", unfollowed := true, recurses := true, apart := false, narrowed := true }
def LinesSpanUptoSaid : Prop := linesSpanUptoRow.holds Try.pinned (OpenSpec.upto linesSpanSpec)

/-- 'interleavelaw01.LinesInverse', WHERE WHAT IT READS IS OF BULK AT MOST 1048576: true; the input reads as it did. -/
def linesInverseUptoRow : OpenClaim := { program := "ythncoanmmnileaa", sum := "17776f5dcc4bfefe2cf15b29ea7899def991ed3384e5092353e029b137d5ddc6", func := "interleave/interleavelaw01.LinesInverse", spec := "linesInverse", unfollowed := true, recurses := true, apart := false, narrowed := true }
def LinesInverseUptoSaid : Prop := linesInverseUptoRow.holds Try.pinned (OpenSpec.upto linesInverseSpec)

/-- 'interleavelaw01.LinesCover', WHERE WHAT IT READS IS OF BULK AT MOST 1048576: true; the input reads as it did. -/
def linesCoverUptoRow : OpenClaim := { program := "ythncoanmmnileaa", sum := "17776f5dcc4bfefe2cf15b29ea7899def991ed3384e5092353e029b137d5ddc6", func := "interleave/interleavelaw01.LinesCover", spec := "linesCover", unfollowed := true, recurses := true, apart := false, narrowed := true }
def LinesCoverUptoSaid : Prop := linesCoverUptoRow.holds Try.pinned (OpenSpec.upto linesCoverSpec)

end Rows
end Go.Proofs.Ythncoanmmnileaa
