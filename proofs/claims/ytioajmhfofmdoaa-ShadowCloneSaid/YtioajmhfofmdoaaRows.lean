/-
  No cell of these rows narrows 'for every input' (looked for: loops, veiled, ifaces, maps, wideKeys, modest, calm, conditions, laid).
  DERIVED. THE GIVEN ROWS OF THIS SEAT. 6 by the template 'for every input the law returns true; each argument reads behind the call as it read before'; 0 by the template 'total and deterministic' (their statements: YtioajmhfofmdoaaTotals.lean).
  GIVEN WITH THE SEED: the statements are not yours to turn. If you find one false, say at which input.
  Laid BY PROGRAM, IN A SANDBOX (cutbox-rows.mjs): the forced cells as the released guide's own fill.sh prints them over the translation 913cdff1775450ae… (all of the seat's roots in one cut). By AI agents, Wed Nov 11 2026. No macro, syntax, notation, axiom, sorry.
-/
import Derived.Test.YtioajmhfofmdoaaChecked
import GoSem.Claim
import GoSem.ClaimJoined
import GoSem.ClaimMapViews
import Derived.JoinedTies
import Derived.KernelRfl
namespace Go.Proofs.Ytioajmhfofmdoaa
/- THE CELL 'sum', in the pinned program and in every row, IS THE sha256 OF THE DUMP (.gsa) THAT YtioajmhfofmdoaaProg.lean LOADS. Nothing in Lean hashes anything: it is a label: what it is worth is what the hold of that sum in a sandbox is worth. -/
noncomputable def Try.pinned : Pinned := { name := "ytioajmhfofmdoaa", sum := "913cdff1775450aeef1596f4926df692d0b50c4e44a10d6d4e8f74d7cdd27c95", checked := Try.checked }
namespace Rows
def none {H : Type} : Left H := { results := [], args := [] }

/-- 'interleavelaw36.ShadowWords': WHATEVER THE INPUT: true; the input reads as it did. -/
def shadowWordsSpec : ChangeSpec := { name := "shadowWords", fn := fun _ => fun
  | [d1, d2] => { results := [.lit (.bool true)], args := [d1, d2] }
  | _ => none }
def shadowWordsRow : OpenClaim := { program := "ytioajmhfofmdoaa", sum := "913cdff1775450aeef1596f4926df692d0b50c4e44a10d6d4e8f74d7cdd27c95", func := "interleave/interleavelaw36.ShadowWords", spec := "shadowWords", unfollowed := true, recurses := true, plainKeys := false, apart := false }
def ShadowWordsSaid : Prop := shadowWordsRow.holds Try.pinned (OpenSpec.ofChange shadowWordsSpec)

/-- ITS FALSE NEIGHBOUR: 'it returns false'. Refute it at one input. -/
def shadowWordsWrong : ChangeSpec := { name := "shadowWords", fn := fun _ => fun
  | [d1, d2] => { results := [.lit (.bool false)], args := [d1, d2] }
  | _ => none }
def ShadowWordsWrongFalsely : Prop := shadowWordsRow.holds Try.pinned (OpenSpec.ofChange shadowWordsWrong)

/-- 'interleavelaw36.ShadowPages': WHATEVER THE INPUT: true; the input reads as it did. -/
def shadowPagesSpec : ChangeSpec := { name := "shadowPages", fn := fun _ => fun
  | [d] => { results := [.lit (.bool true)], args := [d] }
  | _ => none }
def shadowPagesRow : OpenClaim := { program := "ytioajmhfofmdoaa", sum := "913cdff1775450aeef1596f4926df692d0b50c4e44a10d6d4e8f74d7cdd27c95", func := "interleave/interleavelaw36.ShadowPages", spec := "shadowPages", unfollowed := true, recurses := true, plainKeys := false, apart := false }
def ShadowPagesSaid : Prop := shadowPagesRow.holds Try.pinned (OpenSpec.ofChange shadowPagesSpec)

/-- ITS FALSE NEIGHBOUR: 'it returns false'. Refute it at one input. -/
def shadowPagesWrong : ChangeSpec := { name := "shadowPages", fn := fun _ => fun
  | [d] => { results := [.lit (.bool false)], args := [d] }
  | _ => none }
def ShadowPagesWrongFalsely : Prop := shadowPagesRow.holds Try.pinned (OpenSpec.ofChange shadowPagesWrong)

/-- 'interleavelaw36.ShadowClear': WHATEVER THE INPUT: true; the input reads as it did. -/
def shadowClearSpec : ChangeSpec := { name := "shadowClear", fn := fun _ => fun
  | [d1, d2] => { results := [.lit (.bool true)], args := [d1, d2] }
  | _ => none }
def shadowClearRow : OpenClaim := { program := "ytioajmhfofmdoaa", sum := "913cdff1775450aeef1596f4926df692d0b50c4e44a10d6d4e8f74d7cdd27c95", func := "interleave/interleavelaw36.ShadowClear", spec := "shadowClear", unfollowed := true, recurses := true, plainKeys := false, apart := false }
def ShadowClearSaid : Prop := shadowClearRow.holds Try.pinned (OpenSpec.ofChange shadowClearSpec)

/-- ITS FALSE NEIGHBOUR: 'it returns false'. Refute it at one input. -/
def shadowClearWrong : ChangeSpec := { name := "shadowClear", fn := fun _ => fun
  | [d1, d2] => { results := [.lit (.bool false)], args := [d1, d2] }
  | _ => none }
def ShadowClearWrongFalsely : Prop := shadowClearRow.holds Try.pinned (OpenSpec.ofChange shadowClearWrong)

/-- 'interleavelaw36.ShadowLocations': WHATEVER THE INPUT: true; the input reads as it did. -/
def shadowLocationsSpec : ChangeSpec := { name := "shadowLocations", fn := fun _ => fun
  | [d1, d2] => { results := [.lit (.bool true)], args := [d1, d2] }
  | _ => none }
def shadowLocationsRow : OpenClaim := { program := "ytioajmhfofmdoaa", sum := "913cdff1775450aeef1596f4926df692d0b50c4e44a10d6d4e8f74d7cdd27c95", func := "interleave/interleavelaw36.ShadowLocations", spec := "shadowLocations", unfollowed := true, recurses := true, plainKeys := false, apart := false }
def ShadowLocationsSaid : Prop := shadowLocationsRow.holds Try.pinned (OpenSpec.ofChange shadowLocationsSpec)

/-- ITS FALSE NEIGHBOUR: 'it returns false'. Refute it at one input. -/
def shadowLocationsWrong : ChangeSpec := { name := "shadowLocations", fn := fun _ => fun
  | [d1, d2] => { results := [.lit (.bool false)], args := [d1, d2] }
  | _ => none }
def ShadowLocationsWrongFalsely : Prop := shadowLocationsRow.holds Try.pinned (OpenSpec.ofChange shadowLocationsWrong)

/-- 'interleavelaw36.ShadowClone': WHATEVER THE INPUT: true; the input reads as it did. -/
def shadowCloneSpec : ChangeSpec := { name := "shadowClone", fn := fun _ => fun
  | [d1, d2, d3] => { results := [.lit (.bool true)], args := [d1, d2, d3] }
  | _ => none }
def shadowCloneRow : OpenClaim := { program := "ytioajmhfofmdoaa", sum := "913cdff1775450aeef1596f4926df692d0b50c4e44a10d6d4e8f74d7cdd27c95", func := "interleave/interleavelaw36.ShadowClone", spec := "shadowClone", inPlace := ["maps.clone"], unfollowed := true, recurses := true, plainKeys := false, apart := false }
def ShadowCloneSaid : Prop := shadowCloneRow.holds Try.pinned (OpenSpec.ofChange shadowCloneSpec)

/-- ITS FALSE NEIGHBOUR: 'it returns false'. Refute it at one input. -/
def shadowCloneWrong : ChangeSpec := { name := "shadowClone", fn := fun _ => fun
  | [d1, d2, d3] => { results := [.lit (.bool false)], args := [d1, d2, d3] }
  | _ => none }
def ShadowCloneWrongFalsely : Prop := shadowCloneRow.holds Try.pinned (OpenSpec.ofChange shadowCloneWrong)

/-- 'interleavelaw36.ShadowNil': WHATEVER THE INPUT: true; the input reads as it did. -/
def shadowNilSpec : ChangeSpec := { name := "shadowNil", fn := fun _ => fun
  | [d] => { results := [.lit (.bool true)], args := [d] }
  | _ => none }
def shadowNilRow : OpenClaim := { program := "ytioajmhfofmdoaa", sum := "913cdff1775450aeef1596f4926df692d0b50c4e44a10d6d4e8f74d7cdd27c95", func := "interleave/interleavelaw36.ShadowNil", spec := "shadowNil", inPlace := ["maps.clone"], unfollowed := true, recurses := true, plainKeys := false, apart := false }
def ShadowNilSaid : Prop := shadowNilRow.holds Try.pinned (OpenSpec.ofChange shadowNilSpec)

/-- ITS FALSE NEIGHBOUR: 'it returns false'. Refute it at one input. -/
def shadowNilWrong : ChangeSpec := { name := "shadowNil", fn := fun _ => fun
  | [d] => { results := [.lit (.bool false)], args := [d] }
  | _ => none }
def ShadowNilWrongFalsely : Prop := shadowNilRow.holds Try.pinned (OpenSpec.ofChange shadowNilWrong)

/- THE SECOND FORM. 'bulk': how many values and letters a reading holds, each counted each time it is reached (what is shared counts as often as it is met; a slice's spare places count too). A statement '..UptoSaid' is the law's where the arguments, and the package variables that the reading takes, are together of bulk at most 1048576: NARROWER than '..Said'. Prove '..Said' where nothing that the law and all that it calls make is longer than what came in: it says more and counts as full. Else prove '..UptoSaid'. A law counts once. -/
mutual
def uptoBulk {H : Type} : DataW H → Nat
  | .lit (.string bytes) => bytes.length + 1
  | .lit _ => 1
  | .nil => 1
  | .ptr d => uptoBulk d + 1
  | .slice elems spare => uptoBulkAll elems + uptoBulkAll spare + 1
  | .agg parts => uptoBulkAll parts + 1
  | .iface _ d => uptoBulk d + 1
  | .map entries => uptoBulkEntries entries + 1
  | .held _ => 1
def uptoBulkAll {H : Type} : List (DataW H) → Nat
  | [] => 0
  | d :: r => uptoBulk d + uptoBulkAll r
def uptoBulkEntries {H : Type} : List (Lit × DataW H) → Nat
  | [] => 0
  | x :: r => uptoBulkEntry x + uptoBulkEntries r
def uptoBulkEntry {H : Type} : Lit × DataW H → Nat
  | (.string bytes, d) => bytes.length + uptoBulk d + 1
  | (_, d) => uptoBulk d + 1
 end
def uptoSmall : (H : Type) → List (DataW H) → Bool := fun _ ds => decide (uptoBulkAll ds ≤ 1048576)
def OpenSpec.upto (s : _root_.Go.ChangeSpec) : _root_.Go.OpenSpec := { _root_.Go.OpenSpec.ofChange s with cond := some uptoSmall }

/-- 'interleavelaw36.ShadowWords', WHERE WHAT IT READS IS OF BULK AT MOST 1048576: true; the input reads as it did. -/
def shadowWordsUptoRow : OpenClaim := { program := "ytioajmhfofmdoaa", sum := "913cdff1775450aeef1596f4926df692d0b50c4e44a10d6d4e8f74d7cdd27c95", func := "interleave/interleavelaw36.ShadowWords", spec := "shadowWords", unfollowed := true, recurses := true, plainKeys := false, apart := false, narrowed := true }
def ShadowWordsUptoSaid : Prop := shadowWordsUptoRow.holds Try.pinned (OpenSpec.upto shadowWordsSpec)

/-- 'interleavelaw36.ShadowPages', WHERE WHAT IT READS IS OF BULK AT MOST 1048576: true; the input reads as it did. -/
def shadowPagesUptoRow : OpenClaim := { program := "ytioajmhfofmdoaa", sum := "913cdff1775450aeef1596f4926df692d0b50c4e44a10d6d4e8f74d7cdd27c95", func := "interleave/interleavelaw36.ShadowPages", spec := "shadowPages", unfollowed := true, recurses := true, plainKeys := false, apart := false, narrowed := true }
def ShadowPagesUptoSaid : Prop := shadowPagesUptoRow.holds Try.pinned (OpenSpec.upto shadowPagesSpec)

/-- 'interleavelaw36.ShadowClear', WHERE WHAT IT READS IS OF BULK AT MOST 1048576: true; the input reads as it did. -/
def shadowClearUptoRow : OpenClaim := { program := "ytioajmhfofmdoaa", sum := "913cdff1775450aeef1596f4926df692d0b50c4e44a10d6d4e8f74d7cdd27c95", func := "interleave/interleavelaw36.ShadowClear", spec := "shadowClear", unfollowed := true, recurses := true, plainKeys := false, apart := false, narrowed := true }
def ShadowClearUptoSaid : Prop := shadowClearUptoRow.holds Try.pinned (OpenSpec.upto shadowClearSpec)

/-- 'interleavelaw36.ShadowLocations', WHERE WHAT IT READS IS OF BULK AT MOST 1048576: true; the input reads as it did. -/
def shadowLocationsUptoRow : OpenClaim := { program := "ytioajmhfofmdoaa", sum := "913cdff1775450aeef1596f4926df692d0b50c4e44a10d6d4e8f74d7cdd27c95", func := "interleave/interleavelaw36.ShadowLocations", spec := "shadowLocations", unfollowed := true, recurses := true, plainKeys := false, apart := false, narrowed := true }
def ShadowLocationsUptoSaid : Prop := shadowLocationsUptoRow.holds Try.pinned (OpenSpec.upto shadowLocationsSpec)

/-- 'interleavelaw36.ShadowClone', WHERE WHAT IT READS IS OF BULK AT MOST 1048576: true; the input reads as it did. -/
def shadowCloneUptoRow : OpenClaim := { program := "ytioajmhfofmdoaa", sum := "913cdff1775450aeef1596f4926df692d0b50c4e44a10d6d4e8f74d7cdd27c95", func := "interleave/interleavelaw36.ShadowClone", spec := "shadowClone", inPlace := ["maps.clone"], unfollowed := true, recurses := true, plainKeys := false, apart := false, narrowed := true }
def ShadowCloneUptoSaid : Prop := shadowCloneUptoRow.holds Try.pinned (OpenSpec.upto shadowCloneSpec)

/-- 'interleavelaw36.ShadowNil', WHERE WHAT IT READS IS OF BULK AT MOST 1048576: true; the input reads as it did. -/
def shadowNilUptoRow : OpenClaim := { program := "ytioajmhfofmdoaa", sum := "913cdff1775450aeef1596f4926df692d0b50c4e44a10d6d4e8f74d7cdd27c95", func := "interleave/interleavelaw36.ShadowNil", spec := "shadowNil", inPlace := ["maps.clone"], unfollowed := true, recurses := true, plainKeys := false, apart := false, narrowed := true }
def ShadowNilUptoSaid : Prop := shadowNilUptoRow.holds Try.pinned (OpenSpec.upto shadowNilSpec)

end Rows
end Go.Proofs.Ytioajmhfofmdoaa
