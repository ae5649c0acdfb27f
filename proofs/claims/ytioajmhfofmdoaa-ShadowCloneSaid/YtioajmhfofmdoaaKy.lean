/- The map of pages: keys, elements. -/
import Derived.Test.YtioajmhfofmdoaaRf
import Derived.Maps.OwnSet
import Derived.DeepKeys4
namespace Go.Proofs.Ytioajmhfofmdoaa
open Go.RowKit Go.Sort Go.Maps

theorem Try.laidOut : laidOutB Try.prog = true := by kernel_rfl
noncomputable def keyF : Array Field := match Try.prog.underlying 67 with | some (.struct f) => f | _ => #[]
theorem keyS : Try.prog.underlying 67 = some (.struct keyF) := by kernel_rfl
theorem keyN : keyF.all (·.name != "_") = true := by kernel_rfl
theorem keyL : keyF.toList.map (fun f => (f.type, f.offset)) = [(3, 0), (3, 1)] := by kernel_rfl
theorem key_law : WideMaps.KeyLaw Try.prog 67 := deep_law_laid Try.laidOut (m := 2) (by omega) (of_decide_eq_true (by kernel_rfl)) (by kernel_rfl) (by rw [keyS])
theorem keyed : Keyed Try.prog 67 := Keyed.of_law key_law
theorem mapU : Try.prog.underlying 59 = some (.map 67 65) := by kernel_rfl
/-- What the key of a page reads as. -/
def kyl (o p : Int) : Lit := .string (keyBytes [.int .i64 o, .int .i64 p])
theorem key_of (o p : Int) (ho : (Lit.int .i64 o).wf = true) (hp : (Lit.int .i64 p).wf = true) : keyOf Try.prog 67 (.agg #[.int .i64 o, .int .i64 p]) = some (kyl o p) := by
  have hk : Try.prog.keyType 67 = true := by kernel_rfl
  have hc : Try.prog.cellsOf 67 = 2 := by kernel_rfl
  have hf : (Value.agg #[.int .i64 o, .int .i64 p]).formed Try.prog 67 = true := by
    unfold Value.formed; rw [keyS]; simp [hc]
  unfold keyOf
  rw [keyS]
  simp only [hk, hf, Bool.and_self, if_true]
  have hu : Try.prog.underlying 3 = some (.int .i64) := by kernel_rfl
  have hci : Try.prog.cellsOf 3 = 1 := by kernel_rfl
  obtain ⟨m, hm⟩ : ∃ m, Try.prog.types.size = m + 1 := ⟨Try.prog.types.size - 1, by have : 0 < Try.prog.types.size := of_decide_eq_true (by kernel_rfl); omega⟩
  rw [hm]
  have hi : ∀ x : Int, (Lit.int .i64 x).wf = true → Try.prog.keyLits (m + 1) 3 [.int .i64 x] = some [.int .i64 x] := fun x hx => by
    unfold Program.keyLits
    rw [hu]
    simp [hx]
  rw [show m + 1 + 1 = (m + 1) + 1 from rfl]
  unfold Program.keyLits
  rw [keyS]
  have hl := keyL
  simp only [Value.cells, keyN, hc, List.length_cons, List.length_nil, and_self, if_true]
  generalize keyF.toList = L at hl
  have hlen : L.length = 2 := by have := congrArg List.length hl; simpa using this
  match L, hlen with
  | [a, b], _ =>
    simp at hl
    obtain ⟨⟨h1, h2⟩, h3, h4⟩ := hl
    simp [h1, h2, h3, h4, hci, hi o ho, hi p hp, kyl]
/-- An element of the map: a page's block, or nil. -/
def pgR (v : Value) : Option (DataW Nat × List MemPlace) :=
  match v with
  | .pointer (some ⟨b, 0, none⟩) => some (.held b, [])
  | .pointer none => some (.nil, [])
  | _ => none
theorem pgR_inv {v : Value} {d : DataW Nat} {ps : List MemPlace} (h : pgR v = some (d, ps)) : (∃ b, v = .pointer (some ⟨b, 0, none⟩) ∧ d = .held b) ∨ v = .pointer none ∧ d = .nil := by
  unfold pgR at h
  split at h
  · rename_i b
    simp at h
    exact .inl ⟨b, rfl, h.1.symm⟩
  · simp at h
    exact .inr ⟨rfl, h.1.symm⟩
  · cases h

end Go.Proofs.Ytioajmhfofmdoaa
