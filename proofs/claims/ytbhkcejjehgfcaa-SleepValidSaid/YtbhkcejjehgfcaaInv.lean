/- A region that draws its order, by an invariant over what has come up. -/
import Derived.Test.YtbhkcejjehgfcaaLib
namespace Go.Proofs.Ytbhkcejjehgfcaa
open Go.RowKit Go.Sort

/-- How many operations have not come up. -/
def left (listed : Array Bool) : Nat := (listed.toList.filter (fun b => !b)).length
theorem left_set {listed : Array Bool} {i : Nat} (h : listed.getD i true = false) : left (listed.setIfInBounds i true) + 1 = left listed := by
  have hi : i < listed.size := by
    rcases Nat.lt_or_ge i listed.size with h' | h'
    · exact h'
    · simp [Array.getElem?_eq_none h'] at h
  unfold left
  rw [Array.toList_setIfInBounds]
  have hv : listed.toList[i]? = some false := by simpa [hi] using h
  generalize listed.toList = l at *
  clear h hi
  induction l generalizing i with
  | nil => simp at hv
  | cons x l ih =>
    cases i with
    | zero => simp at hv; subst hv; simp
    | succ i =>
      have h := ih (i := i) (by simpa using hv)
      cases x <;> simp <;> omega
theorem ready_nil_of_left {md : Region.Mode} {ops : Array Oper} {listed : Array Bool} (h : left listed = 0) : Region.ready md ops listed = [] := by
  unfold Region.ready
  rw [List.filter_eq_nil_iff]
  intro i _ hc
  simp only [Bool.and_eq_true, Bool.not_eq_true'] at hc
  have hf := hc.1
  have := left_set hf
  omega

/-- A region that draws its order, by an invariant over what has come up. -/
theorem wpAny_inv {P : Program} {md : Region.Mode} {ops : Array Oper} {Q : Exit → Act → World → Prop} (I : Array Bool → Act → World → Prop)
    (step : ∀ listed a w i, I listed a w → i ∈ Region.ready md ops listed → wpOp P ops Q i (I (listed.setIfInBounds i true)) a w)
    (done : ∀ listed a w, I listed a w → Region.ready md ops listed = [] → Q .normal a w) :
    ∀ (fuel : Nat) (listed : Array Bool) (a : Act) (w : World), left listed ≤ fuel → I listed a w → wpAny P md ops Q fuel listed a w
  | 0, listed, a, w, hf, h => ⟨ready_nil_of_left (by omega), done _ _ _ h (ready_nil_of_left (by omega))⟩
  | fuel + 1, listed, a, w, hf, h => ⟨fun hr => done _ _ _ h hr, fun i hi => wpOp_mono (fun a' w' h' => wpAny_inv I step done fuel _ a' w' (by have := left_set (mem_ready.1 hi).1; omega) h') (step _ _ _ _ h hi)⟩
theorem wp_region_inv {P : Program} {id : Nat} {ops : Array Oper} {Q : Exit → Act → World → Prop} {a : Act} {w : World} (hm : P.follows .mixedOrders = true) (I : Array Bool → Act → World → Prop)
    (start : I (Array.replicate ops.size false) a w.drew)
    (step : ∀ listed a w i, I listed a w → i ∈ Region.ready .any ops listed → wpOp P ops Q i (I (listed.setIfInBounds i true)) a w)
    (done : ∀ listed a w, I listed a w → Region.ready .any ops listed = [] → Q .normal a w) : (Code.region id ops true).wp P Q a w :=
  wp_region_any hm (wpAny_inv I step done _ _ _ _ (by simp [left]) start)

end Go.Proofs.Ytbhkcejjehgfcaa
