/- Same in plain Lean; the example. -/
import Derived.Test.YtmgiojkdcpolfaaSq
import Derived.Test.YtmgiojkdcpolfaaPl
namespace Go.Proofs.Ytmgiojkdcpolfaa
open Go.RowKit Go.Sort PT

theorem eqL_map (ps qs : List PA) : eqL sameP ps qs = eqL (eqL same) (ps.map PA.l) (qs.map PA.l) := by
  unfold eqL
  rw [List.zip_map, List.all_map]
  simp
  rfl
theorem eqL_refl {α : Type} {f : α → α → Bool} (hf : ∀ x, f x x = true) (l : List α) : eqL f l l = true := by
  simp only [eqL, beq_self_eq_true, Bool.true_and, List.all_eq_true]
  rintro ⟨x, y⟩ h
  obtain ⟨i, hi⟩ := List.mem_iff_getElem?.1 h
  rw [List.getElem?_zip_eq_some] at hi
  obtain ⟨h1, h2⟩ := hi
  simp only at h1 h2
  rw [h1] at h2
  cases h2
  exact hf x
theorem eqL_of {α : Type} {f : α → α → Bool} {β : Type} (v : α → β) (hf : ∀ x y, f x y = true ↔ v x = v y) (a b : List α) : eqL f a b = true ↔ a.map v = b.map v := by
  constructor
  · intro h
    simp only [eqL, Bool.and_eq_true, beq_iff_eq, List.all_eq_true] at h
    refine List.ext_getElem (by simpa using h.1) fun i h1 h2 => ?_
    simp only [List.getElem_map]
    rw [← hf]
    simp at h1 h2
    exact h.2 (a[i], b[i]) (List.mem_of_getElem? (zip_get (List.getElem?_eq_getElem h1) (List.getElem?_eq_getElem h2)))
  · intro h
    have hl : a.length = b.length := by simpa using congrArg List.length h
    simp only [eqL, hl, beq_self_eq_true, Bool.true_and, List.all_eq_true]
    rintro ⟨x, y⟩ hm
    obtain ⟨i, hi⟩ := List.mem_iff_getElem?.1 hm
    rw [List.getElem?_zip_eq_some] at hi
    obtain ⟨h1, h2⟩ := hi
    simp only at h1 h2 ⊢
    rw [hf]
    have := congrArg (·[i]?) h
    simp only [List.getElem?_map, h1, h2, Option.map_some, Option.some.injEq] at this
    exact this
/-- What Same looks at. -/
def vs (p : PS) : Int × Int × List Int × List Tch := (p.g, p.c, p.gs, p.ts)
theorem ints_iff (a b : List Int) : eqL (fun x y => x == y) a b = true ↔ a = b := by
  have := eqL_of (f := fun x y : Int => x == y) id (by simp) a b
  simpa using this
theorem tchs_iff (a b : List Tch) : eqL sameT a b = true ↔ a = b := by
  have := eqL_of (f := sameT) id (fun x y => ⟨sameT_iff, fun h => by simp only [id] at h; subst h; simp [sameT]⟩) a b
  simpa using this
theorem same_iff (p q : PS) : same p q = true ↔ vs p = vs q := by
  simp only [same, pk, Bool.and_eq_true, beq_iff_eq, ints_iff, tchs_iff, vs, Prod.mk.injEq]
  constructor
  · rintro ⟨⟨⟨h1, h2⟩, h3⟩, h4⟩; exact ⟨h1, h2, h3, h4⟩
  · rintro ⟨h1, h2, h3, h4⟩; exact ⟨⟨⟨h1, h2⟩, h3⟩, h4⟩
theorem same_refl (p : PS) : same p p = true := (same_iff p p).2 rfl
theorem sameL_iff (a b : List PS) : eqL same a b = true ↔ a.map vs = b.map vs := eqL_of vs same_iff a b
theorem samePs_iff (ps qs : List PA) : eqL sameP ps qs = true ↔ ps.map (fun p => p.l.map vs) = qs.map (fun p => p.l.map vs) := eqL_of (fun p : PA => p.l.map vs) (fun x y => sameL_iff x.l y.l) ps qs
theorem samePs_refl {ps qs : List PA} (h : ps.map PA.l = qs.map PA.l) : eqL sameP ps qs = true := by
  rw [samePs_iff]
  have := congrArg (List.map (List.map vs)) h
  simpa [List.map_map, Function.comp_def] using this

/-! ### The example -/
theorem wo_at1 {x y : PS} {l : List PS} (h1 : pk x y = false) : wo (x :: y :: l) y = if dep x y then none else some (x :: l) := by
  have := wo_hit (l := x :: y :: l) (x := y) (k := 1) (y := y) (by simp [List.findIdx?_cons, h1]; simp [pk]) rfl
  rw [this]
  simp only [iniB]
  cases h : dep x y <;> simp [h]
theorem aw1 (s a b : PS) : insT (.nd s []) [a, b] true = .nd s (chain [a, b]) := by
  rw [insT]; simp [insL]
theorem aw2 {s a b c : PS} (h1 : pk c a = false) (h2 : dep c a = false) (h3 : pk c b = false) (h4 : dep c b = false) : insT (.nd s (chain [a, b])) [c, a, b] true = .nd s (chain [a, b]) := by
  rw [insT]
  simp only [chain, insL, T.s, wo_at1 h1, h2]
  simp [insT, insL, T.s, wo_at1 h3, h4]
theorem aw3 {s a b : PS} (h1 : pk b a = false) (h2 : dep b a = true) : insT (.nd s (chain [a, b])) [b, a] true = .nd s (chain [a, b] ++ chain [b, a]) := by
  rw [insT]
  simp only [chain, insL, T.s, wo_at1 h1, h2]
  simp

end Go.Proofs.Ytmgiojkdcpolfaa
