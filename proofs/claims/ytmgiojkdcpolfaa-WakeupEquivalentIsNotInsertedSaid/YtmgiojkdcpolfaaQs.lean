/- A row of steps that is written. -/
import Derived.Test.YtmgiojkdcpolfaaTw
import Derived.Test.YtmgiojkdcpolfaaEq
import Derived.Laws.IdiomCopy
namespace Go.Proofs.Ytmgiojkdcpolfaa
open Go.RowKit Go.Sort PT

theorem size_setCells (b : Nat) : ∀ (vs : List Value) (o : Nat) (w : World), (w.setCells b o vs).heap.size = w.heap.size
  | [], _, _ => rfl
  | v :: r, o, w => by rw [World.setCells, size_setCells b r (o + 1)]; simp
theorem below_setCells {w0 : World} {B b : Nat} (hb : B ≤ b) : ∀ (vs : List Value) (o : Nat) (w : World), Below B w0 w → Below B w0 (w.setCells b o vs)
  | [], _, _, h => h
  | _ :: r, o, _, h => below_setCells hb r (o + 1) _ (h.setCell (p := ⟨b, o, none⟩) hb _)
theorem Row.setCells {w : World} {b : Nat} {l : List PS} {k : Nat} {x : PS} (h : Row 4 stC w (some ⟨b, 0, none⟩) l) (hk : k < l.length) : Row 4 stC (w.setCells b (k * 4) (stC x)) (some ⟨b, 0, none⟩) (l.set k x) := fun h0 => by
  obtain ⟨b', off, e, ho, hc⟩ := h (by simpa using h0)
  cases e
  refine ⟨b, 0, rfl, by unfold Old at *; rw [size_setCells]; exact ho, fun j hj i hi => ?_⟩
  rw [List.length_set] at hj
  rw [Nat.zero_add]
  by_cases e : j = k
  · subst e
    have hs : ∀ i, i < (stC x).length → (w.cell? ⟨b, j * 4 + i, none⟩).isSome = true := fun i hi => by
      have := hc j hk i hi
      rw [Nat.zero_add] at this
      rw [this]
      have : i < (stC l[j]).length := hi
      rw [List.getElem?_eq_getElem this]; rfl
    rw [World.cell?_setCells_in b (stC x) (j * 4) w hs i hi, List.getElem_set_self, List.getElem?_eq_getElem]
  · rw [World.cell?_setCells_out b (stC x) (k * 4) w _ (fun _ _ => by simp; omega), List.getElem_set_ne (by omega)]
    have := hc j hj i hi
    rwa [Nat.zero_add] at this
structure MR (w W : World) (g : Nat) (l M : List PS) : Prop where
  below : Below w.heap.size w W
  low : w.heap.size ≤ g
  row : Row 4 stC W (some ⟨g, 0, none⟩) M
  lt : g < W.heap.size
  fz : ∀ i, W.frozen? ⟨g, i, none⟩ = false
  eqv : Eqv l M
theorem MR.then {w W W' : World} {g : Nat} {l M : List PS} (h : MR w W g l M) (hb : Below W.heap.size W W') : MR w W' g l M :=
  ⟨h.below.trans (hb.mono h.below.size), h.low, h.row.below hb, Nat.lt_of_lt_of_le h.lt hb.size, fun i => by
    have h1 := h.fz i
    unfold World.frozen? at h1 ⊢
    rw [hb.block g h.lt]
    exact h1, h.eqv⟩
theorem MR.gw {w W : World} {g : Nat} {l M : List PS} (h : MR w W g l M) (p : Regrown) : MR w (gw W p) g l M := h.then (gw_below _ _)
theorem MR.put {w W : World} {g : Nat} {l M : List PS} {k : Nat} {a b : PS} (h : MR w W g l M) (ha : M[k]? = some a) (hb : M[k + 1]? = some b) (hd : dep a b = false) :
    MR w ((W.setCells g (k * 4) (stC b)).setCells g ((k + 1) * 4) (stC a)) g l ((M.set k b).set (k + 1) a) := by
  have h1 := (List.getElem?_eq_some_iff.1 hb).1
  exact ⟨below_setCells h.low _ _ _ (below_setCells h.low _ _ _ h.below), h.low, (h.row.setCells (by omega)).setCells (by simpa using h1), by rw [size_setCells, size_setCells]; exact h.lt,
    fun i => by rw [World.frozen?_setCells, World.frozen?_setCells]; exact h.fz i, h.eqv.put ha hb hd⟩
theorem MR.rd {w W : World} {g : Nat} {l M : List PS} (h : MR w W g l M) (hl : ∀ s ∈ l, Rd w s) : ∀ s ∈ M, Rd W s := fun s hs => (hl s (h.eqv.perm.mem_iff.2 hs)).below h.below
theorem MR.len {w W : World} {g : Nat} {l M : List PS} (h : MR w W g l M) : M.length = l.length := h.eqv.perm.length_eq.symm
end Go.Proofs.Ytmgiojkdcpolfaa
