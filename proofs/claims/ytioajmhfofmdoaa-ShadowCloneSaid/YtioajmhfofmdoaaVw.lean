/- The map behind a store or a delete, key by key. -/
import Derived.Test.YtioajmhfofmdoaaPs
namespace Go.Proofs.Ytioajmhfofmdoaa
open Go.RowKit Go.Sort Go.Maps

theorem Pg.wf {o : Int} {p : Nat} (h : Pg o p) : (Lit.int .i64 o).wf = true ∧ (Lit.int .i64 (p : Int)).wf = true := by
  obtain ⟨a, b, c⟩ := h
  exact ⟨wf_i64 (by omega), wf_i64 (by omega)⟩
theorem kyl_ne {o o' : Int} {p p' : Nat} (h : Pg o p) (h' : Pg o' p') (hne : ¬ (o' = o ∧ p' = p)) : kyl o' p' ≠ kyl o p := fun e => by
  have := kyl_inj h'.wf.1 h'.wf.2 h.wf.1 h.wf.2 e
  exact hne ⟨this.1, by omega⟩
theorem at_put {D : DataW Nat} (hD : IsMap D) {o o' : Int} {p p' : Nat} (h : Pg o p) (h' : Pg o' p') (b : Nat) :
    (D.put (kyl o p) (.held b)).atKey (kyl o' p') .nil = if o' = o ∧ p' = p then .held b else D.atKey (kyl o' p') .nil := by
  split
  · rename_i e
    obtain ⟨rfl, rfl⟩ := e
    exact atKey_put_same hD (keyed.key (key_of o' p' h.wf.1 h.wf.2)) _ _
  · rename_i hne
    exact atKey_put_other (kyl_ne h h' hne) _ _
theorem at_del {D : DataW Nat} {o o' : Int} {p p' : Nat} (h : Pg o p) (h' : Pg o' p') :
    (D.del (kyl o p)).atKey (kyl o' p') .nil = if o' = o ∧ p' = p then .nil else D.atKey (kyl o' p') .nil := by
  split
  · rename_i e
    obtain ⟨rfl, rfl⟩ := e
    exact atKey_del_same _
  · rename_i hne
    exact atKey_del_other (kyl_ne h h' hne) _

end Go.Proofs.Ytioajmhfofmdoaa
