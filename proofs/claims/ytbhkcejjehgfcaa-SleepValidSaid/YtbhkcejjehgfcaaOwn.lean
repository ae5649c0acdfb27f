/- Rows of a call's own: kept through calls, stores into other rows, appends. -/
import Derived.Test.YtbhkcejjehgfcaaQm
namespace Go.Proofs.Ytbhkcejjehgfcaa
open Go.RowKit Go.Sort

theorem own_of_block {w w' : World} {base : Nat} {e : TypeId} {size : Nat} {v : Value} {n : Nat} {xs : List Value} (h : w.ownsRow base e size v n xs) (hk : ∀ g, v.ownBlock = some g → w'.heap[g]? = w.heap[g]?) : w'.ownsRow base e size v n xs := by
  refine ⟨h.1, ?_⟩
  rcases h.2 with hn | ⟨g, cap, cur, rfl, hb, hgg, rest⟩
  · exact .inl hn
  · exact .inr ⟨g, cap, cur, rfl, hb, (hk g rfl).trans hgg, rest⟩
theorem own_gw {w : World} {base : Nat} {e : TypeId} {size : Nat} {v : Value} {n : Nat} {xs : List Value} (h : w.ownsRow base e size v n xs) (p : Regrown) : (gw w p).ownsRow base e size v n xs :=
  own_of_block h fun g hg => gw_heap w p g (h.lt g hg).2
theorem own_setRow {w : World} {base : Nat} {e : TypeId} {size : Nat} {v : Value} {n : Nat} {xs : List Value} (h : w.ownsRow base e size v n xs) {g : Nat} (hg : g < base) (cs : Array Value) : (w.setRow g cs).ownsRow base e size v n xs :=
  own_of_block h fun k hk => setRow_other w g k cs (by have := (h.lt k hk).1; omega)
theorem below_grown {B : Nat} {w0 w w' : World} {row : Option Nat} (hb : Below B w0 w) (hg : w.grownBy w' row) (hB : B ≤ w.heap.size) (hr : ∀ k, row = some k → B ≤ k) : Below B w0 w' :=
  hb.trans ⟨hg.os, hg.tape, hg.output, hg.size, fun k hk => hg.block k (Nat.lt_of_lt_of_le hk hB) (fun e => by have := hr k e.symm; omega)⟩
/-- The cells of a row of one's own, by their numbers. -/
theorem own_cell {w : World} {base : Nat} {e : TypeId} {size : Nat} {g n cap : Nat} {off : Nat} {xs : List Value} (h : w.ownsRow base e size (.slice (some ⟨g, off, none⟩) n cap) n xs) {j : Nat} {u : Value} (hu : xs[j]? = some u) : w.cell? ⟨g, j, none⟩ = some u := by
  rcases h.2 with ⟨he, _⟩ | ⟨g', cap', cur, he, _, hgg, _, _, _, htake⟩
  · cases he
  · cases he
    rw [cell_of_row w g j cur e (0, 0) hgg]
    rw [← htake, List.getElem?_take] at hu
    split at hu
    · simpa using hu
    · cases hu

/-! ### A stop: the walk goes no further here. -/
inductive StopBox (p : Prop) : Type
  | mk
def Stop (p : Prop) (_ : StopBox p) : Prop := p
theorem Stop.here {p : Prop} (h : Stop p .mk) : p := h
theorem Stop.on {p : Prop} {b : StopBox p} (h : p) : Stop p b := h

end Go.Proofs.Ytbhkcejjehgfcaa
