/- Valid threads, plainly; the contracts at threads that are few. -/
import Derived.Test.YtbhkcejjehgfcaaEh
namespace Go.Proofs.Ytbhkcejjehgfcaa
open Go.RowKit Go.Sort
set_option linter.unusedSimpArgs false
set_option linter.unusedVariables false

theorem okRow_at {t : Nat} : ∀ {l : List St} {i : Nat}, okRow t l i = true → ∀ (j : Nat) (s : St), l[j]? = some s → s.g = (t : Int) ∧ s.c = ((i + j : Nat) : Int) ∧ s.gs = [(t : Int)]
  | [], i, _, j, s, hs => by simp at hs
  | x :: r, i, h, j, s, hs => by
    rw [okRow, Bool.and_eq_true] at h
    cases j with
    | zero =>
      simp only [List.getElem?_cons_zero, Option.some.injEq] at hs
      subst hs
      have h1 := h.1
      simp only [okSt, Bool.and_eq_true, beq_iff_eq] at h1
      obtain ⟨h2, h3, h4, h5⟩ := h1
      refine ⟨h2, h3, ?_⟩
      obtain ⟨y, hy⟩ := List.length_eq_one_iff.1 h4
      rw [hy] at h5 ⊢
      simpa using h5
    | succ j =>
      have := okRow_at h.2 j s (by simpa using hs)
      refine ⟨this.1, ?_, this.2.2⟩
      rw [this.2.1]; congr 1; omega
theorem okAll_at : ∀ {ths : List (List St)} {k : Nat}, okAll ths k = true → ∀ (j : Nat) (l : List St), ths[j]? = some l → okRow (k + j) l 0 = true
  | [], k, _, j, l, h => by simp at h
  | x :: r, k, h, j, l, hl => by
    rw [okAll, Bool.and_eq_true] at h
    cases j with
    | zero => simp at hl; subst hl; exact h.1
    | succ j =>
      have := okAll_at h.2 j l (by simpa using hl)
      rwa [show k + 1 + j = k + (j + 1) by omega] at this
theorem rem_zero (ths : List (List St)) : remB ths (List.replicate ths.length 0) = totB ths := by
  unfold remB totB
  congr 1
  apply List.ext_getElem (by simp)
  intro i h1 h2
  have hi : i < ths.length := by simpa using h1
  simp [List.getD_eq_getElem?_getD, hi]
theorem validB_ok {ths : List (List St)} (h : validB ths = true) : 1 ≤ ths.length ∧ ths.length ≤ 8 ∧ remB ths (List.replicate ths.length 0) ≤ 12 ∧ ∀ (t : Nat) (l : List St), ths[t]? = some l → ∀ (i : Nat) (s : St), l[i]? = some s → s.g = (t : Int) ∧ s.c = (i : Int) ∧ s.gs = [(t : Int)] := by
  simp only [validB, Bool.and_eq_true, decide_eq_true_eq] at h
  obtain ⟨h1, h2, h3, h4⟩ := h
  refine ⟨h1, h2, by rw [rem_zero]; exact h4, fun t l hl i s hs => ?_⟩
  have := okRow_at (okAll_at h3 t l hl) i s hs
  simpa using this
theorem fewB_ok {ths : List (List St)} (h : fewB ths = true) : ths.length ≤ 10 ∧ ∀ l ∈ ths, l.length ≤ 14 ∧ ∀ s ∈ l, s.gs.length ≤ 8 ∧ s.ts.length ≤ 8 := by
  simp only [fewB, Bool.and_eq_true, decide_eq_true_eq, List.all_eq_true] at h
  refine ⟨h.1, fun l hl => ?_⟩
  have := h.2 l hl
  simp only [fewL, fewS, Bool.and_eq_true, decide_eq_true_eq, List.all_eq_true] at this
  exact this
theorem few_st {ths : List (List St)} (h : fewB ths = true) : ∀ l ∈ ths, l.length ≤ 1000 ∧ ∀ s ∈ l, StOk s := fun l hl =>
  have h1 := (fewB_ok h).2 l hl
  ⟨by omega, fun s hs => ⟨by have := (h1.2 s hs).1; omega, by have := (h1.2 s hs).2; omega⟩⟩
theorem valid_stv {ths : List (List St)} (hf : fewB ths = true) (h : validB ths = true) : ∀ l ∈ ths, ∀ s ∈ l, StV s := fun l hl s hs => by
  obtain ⟨t, ht⟩ := List.mem_iff_getElem?.1 hl
  obtain ⟨i, hi⟩ := List.mem_iff_getElem?.1 hs
  obtain ⟨_, h8, _, h1⟩ := validB_ok h
  obtain ⟨e1, e2, e3⟩ := h1 t l ht i s hi
  have := (List.getElem?_eq_some_iff.1 ht).1
  exact ⟨(few_st hf l hl).2 s hs, by rw [e3, e1], by omega, by omega⟩
def visA (ths : List (List St)) : List (List St) := visB ths 13 (List.replicate ths.length 0) [] fun _ => false
def classesB (ths : List (List St)) : Nat := if validB ths = true then (visA ths).length else 0
theorem svalid_at (ths : List (List St)) (hf : fewB ths = true) : PureC Try.prog 12 [.p (thsP ths)] (.bool (validB ths)) :=
  valid_ok ths (by have := (fewB_ok hf).1; omega) (fun l hl => (few_st hf l hl).1)
theorem rvalid_at (ths : List (List St)) (hf : fewB ths = true) : PureC Try.prog 11 [.p (thsP ths)] (.bool (validB ths)) :=
  refValid_ok ths (by have := (fewB_ok hf).1; omega) (fun l hl => (few_st hf l hl).1)
theorem classes_at (ths : List (List St)) (hf : fewB ths = true) : PureC Try.prog 14 [.p (thsP ths)] (.int (classesB ths)) := by
  have h := classes_ok ths (few_st hf) (validB ths) (svalid_at ths hf) (fun hv => ⟨(validB_ok hv).2.1, (validB_ok hv).2.2.1⟩)
  have e : ((classesB ths : Nat) : Int) = (if validB ths = true then ((visB ths 13 (List.replicate ths.length 0) [] fun _ => false).length : Int) else 0) := by
    unfold classesB visA
    split <;> rfl
  rw [e]
  exact h
theorem explore_at (ths : List (List St)) (hf : fewB ths = true) : PureC Try.prog 13 [.p (thsP ths)] (.p (.seq 1 (rowOf pksP (exploreB (validB ths) ths)))) :=
  explore_ok ths (few_st hf) (validB ths) (svalid_at ths hf) (fun hv => ⟨(validB_ok hv).2.1, (validB_ok hv).2.2.1, valid_stv hf hv⟩)
end Go.Proofs.Ytbhkcejjehgfcaa
