/- 'exchanging two adjacent threads does not change the number of classes' -/
import Derived.ProofKit
import Derived.HandedShaped
import Derived.OpenShut
import Derived.Test.YtbhkcejjehgfcaaZ06
/- Classes of threads that are like each other. -/
namespace Go.Proofs.Ytbhkcejjehgfcaa
open Go.RowKit Go.Sort
set_option linter.unusedSimpArgs false
set_option linter.unusedVariables false

def stepsOf (ths : List (List St)) : List St := ths.flatten
theorem end_iff {ths : List (List St)} {pos : List Nat} : endU ths pos ths.length = true ↔ ∀ t, stepOf ths pos t = none := by
  simp only [endU, endB, List.all_eq_true, List.mem_range, Option.isNone_iff_eq_none]
  constructor
  · intro h t
    by_cases ht : t < ths.length
    · exact h t ht
    · unfold stepOf
      rw [List.getElem?_eq_none (by omega)]
      rfl
  · intro h t _; exact h t
theorem step_mem {ths : List (List St)} {pos : List Nat} {t : Nat} {s : St} (h : stepOf ths pos t = some s) : s ∈ stepsOf ths := by
  obtain ⟨l, k, h1, _, h3⟩ := stepOf_some.1 h
  exact List.mem_flatten.2 ⟨l, List.mem_of_getElem? h1, List.mem_of_getElem? h3⟩
theorem comp_mem {ths : List (List St)} : ∀ {r : List St} {pos : List Nat}, CompB ths pos r → ∀ s ∈ r, s ∈ stepsOf ths
  | [], _, _, s, hs => by cases hs
  | x :: r, pos, ⟨t, h1, h2⟩, s, hs => by
    rcases List.mem_cons.1 hs with rfl | hs
    · exact step_mem h1
    · exact comp_mem h2 s hs
/-- Threads that are others with other numbers and other touches. -/
structure Sim (ths ths' : List (List St)) (σ τ : Nat → Nat) (φ : St → St) : Prop where
  left : ∀ t, τ (σ t) = t
  right : ∀ t, σ (τ t) = t
  len : ths'.length = ths.length
  th : ∀ t, ths'[σ t]? = (ths[t]?).map (List.map φ)
def Cor (σ : Nat → Nat) (pos pos' : List Nat) : Prop := ∀ t, pos'[σ t]? = pos[t]?
section
variable {ths ths' : List (List St)} {σ τ : Nat → Nat} {φ : St → St}
theorem Sim.step (h : Sim ths ths' σ τ φ) {pos pos' : List Nat} (hc : Cor σ pos pos') (t : Nat) : stepOf ths' pos' (σ t) = (stepOf ths pos t).map φ := by
  unfold stepOf
  rw [h.th, hc]
  cases ths[t]? with
  | none => rfl
  | some l =>
    cases pos[t]? with
    | none => rfl
    | some k => simp
theorem Sim.bump (h : Sim ths ths' σ τ φ) {pos pos' : List Nat} (hc : Cor σ pos pos') (t : Nat) : Cor σ (bump pos t) (bump pos' (σ t)) := fun u => by
  unfold Go.Proofs.Ytbhkcejjehgfcaa.bump
  have e : pos'.getD (σ t) 0 = pos.getD t 0 := by simp only [List.getD_eq_getElem?_getD, hc t]
  rw [e]
  by_cases hu : t = u
  · subst hu
    rw [List.getElem?_set, List.getElem?_set, if_pos rfl, if_pos rfl]
    have := hc t
    by_cases h1 : t < pos.length
    · have h2 : σ t < pos'.length := by
        rw [List.getElem?_eq_getElem h1] at this
        exact (List.getElem?_eq_some_iff.1 this).1
      rw [if_pos h1, if_pos h2]
    · have h2 : ¬ σ t < pos'.length := by
        rw [List.getElem?_eq_none (show pos.length ≤ t by omega)] at this
        exact Nat.not_lt.2 (List.getElem?_eq_none_iff.1 this)
      rw [if_neg h1, if_neg h2]
  · have hne : σ t ≠ σ u := fun e => hu (by rw [← h.left t, e, h.left])
    rw [List.getElem?_set_ne hne, List.getElem?_set_ne hu]
    exact hc u
theorem Sim.zero (h : Sim ths ths' σ τ φ) : Cor σ (List.replicate ths.length 0) (List.replicate ths'.length 0) := fun t => by
  rw [List.getElem?_replicate, List.getElem?_replicate]
  have e : σ t < ths'.length ↔ t < ths.length := by
    have := h.th t
    constructor
    · intro h1
      rw [List.getElem?_eq_getElem h1] at this
      cases h2 : ths[t]? with
      | none => rw [h2] at this; cases this
      | some l => exact (List.getElem?_eq_some_iff.1 h2).1
    · intro h1
      rw [List.getElem?_eq_getElem h1] at this
      exact (List.getElem?_eq_some_iff.1 this).1
  by_cases h1 : t < ths.length
  · rw [if_pos h1, if_pos (e.2 h1)]
  · rw [if_neg h1, if_neg fun h2 => h1 (e.1 h2)]
theorem Sim.comp (h : Sim ths ths' σ τ φ) : ∀ {r : List St} {pos pos' : List Nat}, Cor σ pos pos' → CompB ths pos r → CompB ths' pos' (r.map φ)
  | [], pos, pos', hc, hr => by
    have h1 := end_iff.1 hr
    refine end_iff.2 fun t => ?_
    have := h.step hc (τ t)
    rwa [h.right, h1] at this
  | s :: r, pos, pos', hc, ⟨t, h1, h2⟩ => ⟨σ t, by rw [h.step hc, h1]; rfl, h.comp (h.bump hc t) h2⟩
end
theorem visA_R (ths : List (List St)) : visB ths 13 (List.replicate ths.length 0) [] (fun _ => false) = visR ths 13 (List.replicate ths.length 0) fun _ => false := by
  rw [visB_R]; simp
theorem visA_vis {ths : List (List St)} (ho : ThOk ths) (hr : remB ths (List.replicate ths.length 0) ≤ 12) : Vis ths (List.replicate ths.length 0) (fun _ => false) (visR ths 13 (List.replicate ths.length 0) fun _ => false) fun _ => True := vis_vis ho 13 _ _ (by omega)
theorem noz_none {ths : List (List St)} {pos : List Nat} {r : List St} : NoZ ths pos (fun _ => false) r := fun u x h => by cases h
/-- Where more depends on each other, there are no fewer classes. -/
theorem cls_le {ths ths' : List (List St)} {σ τ : Nat → Nat} {φ : St → St} (h : Sim ths ths' σ τ φ) (ho : ThOk ths) (ho' : ThOk ths') (hr : remB ths (List.replicate ths.length 0) ≤ 12) (hr' : remB ths' (List.replicate ths'.length 0) ≤ 12)
    (ψ : St → St) (hψ : ∀ s ∈ stepsOf ths, ψ (φ s) = s) (hD : ∀ a ∈ stepsOf ths, ∀ b ∈ stepsOf ths, dpB (φ a) (φ b) = false → dpB a b = false) :
    (visR ths 13 (List.replicate ths.length 0) fun _ => false).length ≤ (visR ths' 13 (List.replicate ths'.length 0) fun _ => false).length := by
  obtain ⟨s1, f1, a1⟩ := visA_vis ho hr
  obtain ⟨s2, f2, a2⟩ := visA_vis ho' hr'
  refine len_le (S := fun r y => CompB ths (List.replicate ths.length 0) r ∧ Sw dpB (r.map φ) y) (R := Sw dpB) a1 (fun r hrm => ?_) (fun r r' y _ _ hS hS' => ?_)
  · obtain ⟨hc, _⟩ := s1 r hrm
    obtain ⟨y, hy, hsw⟩ := f2 _ (h.comp h.zero hc) noz_none trivial
    exact ⟨y, hy, hc, hsw⟩
  · have hsw := (hS.2.trans hS'.2.symm).map (D' := dpB) ψ (fun a ha b hb hab => by
      obtain ⟨a', ha', rfl⟩ := List.mem_map.1 ha
      obtain ⟨b', hb', rfl⟩ := List.mem_map.1 hb
      have ma := comp_mem hS.1 a' ha'
      have mb := comp_mem hS.1 b' hb'
      rw [hψ a' ma, hψ b' mb]
      exact hD a' ma b' mb hab)
    have e : ∀ q, CompB ths (List.replicate ths.length 0) q → (q.map φ).map ψ = q := fun q hq => by
      rw [List.map_map]
      have : q.map (ψ ∘ φ) = q.map id := List.map_congr_left fun x hx => hψ x (comp_mem hq x hx)
      rw [this, List.map_id]
    rwa [e r hS.1, e r' hS'.1] at hsw
/-- Where steps of two threads never depend on each other there is one class. -/
theorem free_front {ths : List (List St)} (ho : ThOk ths) (hfree : ∀ a ∈ stepsOf ths, ∀ b ∈ stepsOf ths, a.g ≠ b.g → dpB a b = false) {t : Nat} {s : St} : ∀ {r : List St} {pos : List Nat}, CompB ths pos r → stepOf ths pos t = some s → ∃ m, Frn dpB r s m
  | [], pos, hr, hs => by rw [end_iff.1 hr t] at hs; cases hs
  | y :: r, pos, ⟨t', h1, h2⟩, hs => by
    by_cases e : t = t'
    · subst e
      rw [hs] at h1; cases h1
      exact ⟨r, .head _ _⟩
    · obtain ⟨m, hm⟩ := free_front ho hfree h2 (by rw [step_ne e]; exact hs)
      have hne : y.g ≠ s.g := by rw [(ho.g h1).1, (ho.g hs).1]; omega
      exact ⟨y :: m, hm.cons (hfree _ (step_mem h1) _ (step_mem hs) hne) (hfree _ (step_mem hs) _ (step_mem h1) hne.symm)⟩
theorem free_sw {ths : List (List St)} (ho : ThOk ths) (hfree : ∀ a ∈ stepsOf ths, ∀ b ∈ stepsOf ths, a.g ≠ b.g → dpB a b = false) : ∀ {r r' : List St} {pos : List Nat}, CompB ths pos r → CompB ths pos r' → Sw dpB r r'
  | [], r', pos, h, h' => by rw [(comp_nil h').2 h]; exact .refl _
  | s :: r, r', pos, ⟨t, h1, h2⟩, h' => by
    obtain ⟨m, hm⟩ := free_front ho hfree h' h1
    obtain ⟨t2, e1, e2⟩ := comp_front ho h' hm
    have : t2 = t := by have := (ho.g e1).1.symm.trans (ho.g h1).1; omega
    subst this
    exact (Sw.cons s (free_sw ho hfree h2 e2)).trans hm.sw.symm
theorem free_one {ths : List (List St)} (ho : ThOk ths) (hfree : ∀ a ∈ stepsOf ths, ∀ b ∈ stepsOf ths, a.g ≠ b.g → dpB a b = false) (hr : remB ths (List.replicate ths.length 0) ≤ 12) (hne : visR ths 13 (List.replicate ths.length 0) (fun _ => false) ≠ []) : (visR ths 13 (List.replicate ths.length 0) fun _ => false).length = 1 := by
  obtain ⟨s1, f1, a1⟩ := visA_vis ho hr
  match hv : visR ths 13 (List.replicate ths.length 0) (fun _ => false), hne with
  | [x], _ => rfl
  | x :: y :: l, _ =>
    rw [hv] at s1 a1
    exact absurd (free_sw ho hfree (s1 x (by simp)).1 (s1 y (by simp)).1) ((List.pairwise_cons.1 a1).1 y (by simp))
end Go.Proofs.Ytbhkcejjehgfcaa
/- The number of complete runs. -/
namespace Go.Proofs.Ytbhkcejjehgfcaa
open Go.RowKit Go.Sort
set_option linter.unusedSimpArgs false
set_option linter.unusedVariables false

def fct : Nat → Nat
  | 0 => 1
  | n + 1 => (n + 1) * fct n
theorem fct_pos : ∀ n, 0 < fct n
  | 0 => Nat.one_pos
  | n + 1 => Nat.mul_pos (Nat.succ_pos n) (fct_pos n)
def lenOf (ths : List (List St)) (t : Nat) : Nat := (ths.getD t []).length
/-- What thread t has left. -/
def leftB (ths : List (List St)) (pos : List Nat) (t : Nat) : Nat := lenOf ths t - pos.getD t 0
def facB (ths : List (List St)) (pos : List Nat) : Nat := ((List.range ths.length).map fun t => fct (leftB ths pos t)).prod
/-- The number of complete runs from pos. -/
def cntB (ths : List (List St)) : Nat → List Nat → Nat
  | 0, _ => 0
  | n + 1, pos => ((List.range ths.length).map fun t => if (stepOf ths pos t).isSome then cntB ths n (bump pos t) else 0).sum + (if endU ths pos ths.length = true then 1 else 0)
theorem left_bump {ths : List (List St)} {pos : List Nat} {t : Nat} {s : St} (h : stepOf ths pos t = some s) : leftB ths pos t = leftB ths (bump pos t) t + 1 ∧ ∀ u, u ≠ t → leftB ths (bump pos t) u = leftB ths pos u := by
  obtain ⟨l, k, h1, h2, h3⟩ := stepOf_some.1 h
  have hp := (List.getElem?_eq_some_iff.1 h2).1
  have hk := (List.getElem?_eq_some_iff.1 h3).1
  refine ⟨?_, fun u hu => ?_⟩
  · simp only [leftB, lenOf, bump, List.getD_eq_getElem?_getD, List.getElem?_set_self hp, h1, h2, Option.getD_some]
    omega
  · simp only [leftB, bump, List.getD_eq_getElem?_getD, List.getElem?_set_ne (Ne.symm hu)]
theorem left_none {ths : List (List St)} {pos : List Nat} (hp : PosOk ths pos) {t : Nat} (ht : t < ths.length) (h : stepOf ths pos t = none) : leftB ths pos t = 0 := by
  obtain ⟨l, hl⟩ := at_lt ht
  obtain ⟨k, hk⟩ := at_lt (l := pos) (k := t) (by rw [hp.len]; exact ht)
  have h1 := hp.le t l k hl hk
  have h2 : l[k]? = none := by simpa [stepOf, hl, hk] using h
  have h3 := List.getElem?_eq_none_iff.1 h2
  simp only [leftB, lenOf, List.getD_eq_getElem?_getD, hl, hk, Option.getD_some]
  omega
theorem prod_set (l : List Nat) (f g : Nat → Nat) (t c : Nat) (hn : l.Nodup) (ht : t ∈ l) (h : ∀ u, u ≠ t → f u = g u) (h1 : g t = c * f t) : (l.map g).prod = c * (l.map f).prod := by
  induction l with
  | nil => cases ht
  | cons x r ih =>
    obtain ⟨hx, hr⟩ := List.nodup_cons.1 hn
    simp only [List.map_cons, List.prod_cons]
    rcases List.mem_cons.1 ht with rfl | ht
    · have : r.map f = r.map g := List.map_congr_left fun u hu => h u (fun e => hx (e ▸ hu))
      rw [this, h1, Nat.mul_assoc]
    · rw [ih hr ht, h x (fun e => hx (e ▸ ht))]
      rw [← Nat.mul_assoc, Nat.mul_comm (g x) c, Nat.mul_assoc]
theorem fac_bump {ths : List (List St)} {pos : List Nat} {t : Nat} {s : St} (h : stepOf ths pos t = some s) : facB ths pos = leftB ths pos t * facB ths (bump pos t) := by
  obtain ⟨l, k, h1, _⟩ := stepOf_some.1 h
  obtain ⟨e1, e2⟩ := left_bump h
  refine prod_set _ (fun u => fct (leftB ths (bump pos t) u)) (fun u => fct (leftB ths pos u)) t _ List.nodup_range (List.mem_range.2 (List.getElem?_eq_some_iff.1 h1).1) (fun u hu => by rw [e2 u hu]) ?_
  rw [e1, fct]
theorem rem_left (ths : List (List St)) (pos : List Nat) : remB ths pos = ((List.range ths.length).map (leftB ths pos)).sum := rfl
theorem cnt_fac {ths : List (List St)} : ∀ n pos, PosOk ths pos → remB ths pos < n → cntB ths n pos * facB ths pos = fct (remB ths pos)
  | 0, _, _, h => by omega
  | n + 1, pos, hp, hn => by
    rw [cntB]
    by_cases he : endU ths pos ths.length = true
    · have hnone := end_iff.1 he
      have hl0 : ∀ t ∈ List.range ths.length, leftB ths pos t = 0 := fun t ht => left_none hp (List.mem_range.1 ht) (hnone t)
      have h1 : ((List.range ths.length).map fun t => if (stepOf ths pos t).isSome then cntB ths n (bump pos t) else 0).sum = 0 := by
        rw [List.map_congr_left (g := fun _ => 0) (fun t _ => by rw [hnone t]; rfl)]
        induction List.range ths.length <;> simp_all
      have h2 : facB ths pos = 1 := by
        unfold facB
        rw [List.map_congr_left (g := fun _ => 1) (fun t ht => by rw [hl0 t ht]; rfl)]
        induction List.range ths.length <;> simp_all
      have h3 : remB ths pos = 0 := by
        rw [rem_left, List.map_congr_left (g := fun _ => 0) hl0]
        induction List.range ths.length <;> simp_all
      rw [h1, h2, h3, if_pos he]
      rfl
    · rw [if_neg he, Nat.add_zero]
      have key : ∀ l : List Nat, (∀ t ∈ l, t < ths.length) → (l.map fun t => if (stepOf ths pos t).isSome then cntB ths n (bump pos t) else 0).sum * facB ths pos = fct (remB ths pos - 1) * (l.map (leftB ths pos)).sum := by
        intro l
        induction l with
        | nil => intro _; simp
        | cons t r ih =>
          intro hl
          simp only [List.map_cons, List.sum_cons, Nat.add_mul, Nat.mul_add]
          rw [ih fun u hu => hl u (List.mem_cons_of_mem _ hu)]
          congr 1
          cases hs : stepOf ths pos t with
          | none => rw [left_none hp (hl t (by simp)) hs]; simp
          | some s =>
            have hr := rem_bump hs
            have := cnt_fac n (bump pos t) (pos_bump hp hs) (by omega)
            simp only [Option.isSome_some, if_true]
            rw [fac_bump hs, Nat.mul_left_comm, this, show remB ths pos - 1 = remB ths (bump pos t) by omega, Nat.mul_comm]
      rw [key _ fun t ht => List.mem_range.1 ht, ← rem_left]
      have hpos : 0 < remB ths pos := by
        rcases Nat.eq_zero_or_pos (remB ths pos) with h0 | h0
        · exfalso
          apply he
          refine end_iff.2 fun t => ?_
          cases hs : stepOf ths pos t with
          | none => rfl
          | some s => have := rem_bump hs; omega
        · exact h0
      obtain ⟨m, hm⟩ : ∃ m, remB ths pos = m + 1 := ⟨remB ths pos - 1, by omega⟩
      rw [hm, fct, Nat.add_sub_cancel, Nat.mul_comm]
/-- Where all depend on each other every complete run is a class. -/
theorem nextZ_all {ths : List (List St)} (hD : ∀ a ∈ stepsOf ths, ∀ b ∈ stepsOf ths, dpB a b = true) {pos : List Nat} {t : Nat} {s : St} {Z : Nat → Bool} (hs : stepOf ths pos t = some s) (hZ : ∀ u, Z u = true → (stepOf ths pos u).isSome = true) : nextZ ths pos s Z = fun _ => false := by
  funext u
  unfold nextZ
  cases hx : stepOf ths pos u with
  | none =>
    cases hu : Z u with
    | false => rfl
    | true => have := hZ u hu; rw [hx] at this; cases this
  | some x => simp [hD s (step_mem hs) x (step_mem hx)]
theorem all_loop {ths : List (List St)} (hD : ∀ a ∈ stepsOf ths, ∀ b ∈ stepsOf ths, dpB a b = true) {pos : List Nat} {rc : List Nat → (Nat → Bool) → List (List St)} :
    ∀ (l : List Nat) (Z : Nat → Bool), l.Nodup → (∀ t ∈ l, Z t = false) → (∀ u, Z u = true → (stepOf ths pos u).isSome = true) → (loopR rc ths pos l Z).length = (l.map fun t => if (stepOf ths pos t).isSome then (rc (bump pos t) fun _ => false).length else 0).sum
  | [], Z, _, _, _ => rfl
  | t :: l, Z, hn, hl, hZ => by
    obtain ⟨h1, h2⟩ := List.nodup_cons.1 hn
    rw [loopR]
    cases hs : stepOf ths pos t with
    | none =>
      simp only [List.map_cons, List.sum_cons, hs, Option.isSome_none, Bool.false_eq_true, if_false, Nat.zero_add]
      exact all_loop hD l Z h2 (fun u hu => hl u (List.mem_cons_of_mem _ hu)) hZ
    | some s =>
      simp only [hl t (by simp), Bool.false_eq_true, if_false, List.length_append, List.length_map, List.map_cons, List.sum_cons, hs, Option.isSome_some, if_true]
      rw [nextZ_all hD hs hZ]
      congr 1
      refine all_loop hD l _ h2 (fun u hu => ?_) fun u hu => ?_
      · simp only [Bool.or_eq_false_iff, decide_eq_false_iff_not]
        exact ⟨fun e => h1 (e ▸ hu), hl u (List.mem_cons_of_mem _ hu)⟩
      · simp only [Bool.or_eq_true, decide_eq_true_eq] at hu
        rcases hu with rfl | hu
        · rw [hs]; rfl
        · exact hZ u hu
theorem all_cnt {ths : List (List St)} (hD : ∀ a ∈ stepsOf ths, ∀ b ∈ stepsOf ths, dpB a b = true) : ∀ n pos, (visR ths n pos fun _ => false).length = cntB ths n pos
  | 0, _ => rfl
  | n + 1, pos => by
    rw [visR, cntB, List.length_append, all_loop hD _ _ List.nodup_range (fun _ _ => rfl) (fun u hu => by cases hu)]
    congr 1
    · congr 1
      apply List.map_congr_left
      intro t _
      rw [all_cnt hD n]
    · split <;> rfl

/-- The number of interleavings of threads of these lengths. -/
def synT (lens : List Nat) : List (List St) := lens.map fun n => List.replicate n ⟨0, 0, [], []⟩
def mulN (lens : List Nat) : Nat := cntB (synT lens) (lens.sum + 1) (List.replicate lens.length 0)
theorem cnt_zero (ths : List (List St)) {n : Nat} (hn : remB ths (List.replicate ths.length 0) < n) : cntB ths n (List.replicate ths.length 0) * ((ths.map List.length).map fct).prod = fct (ths.map List.length).sum := by
  have hp : PosOk ths (List.replicate ths.length 0) := ⟨by simp, fun t l k h1 h2 => by
    rw [List.getElem?_replicate] at h2
    split at h2
    · cases h2; exact Nat.zero_le _
    · cases h2⟩
  have h := cnt_fac n _ hp hn
  have e : ∀ t, leftB ths (List.replicate ths.length 0) t = lenOf ths t := fun t => by simp [leftB, List.getD_eq_getElem?_getD, List.getElem?_replicate]; split <;> simp
  have e1 : (List.range ths.length).map (lenOf ths) = ths.map List.length := by
    apply List.ext_getElem (by simp)
    intro i h1 h2
    have hi : i < ths.length := by simpa using h1
    simp [lenOf, List.getD_eq_getElem?_getD, hi]
  have e2 : facB ths (List.replicate ths.length 0) = ((ths.map List.length).map fct).prod := by
    unfold facB
    rw [← e1, List.map_map]
    congr 1
    exact List.map_congr_left fun t _ => by rw [e]; rfl
  have e3 : remB ths (List.replicate ths.length 0) = (ths.map List.length).sum := by
    rw [rem_left, ← e1]
    congr 1
    exact List.map_congr_left fun t _ => e t
  rwa [e2, e3] at h
theorem mul_spec (lens : List Nat) : mulN lens * (lens.map fct).prod = fct lens.sum := by
  have hl : (synT lens).map List.length = lens := by simp [synT, Function.comp_def]
  have h := cnt_zero (synT lens) (n := lens.sum + 1) (by
    have := rem_left (synT lens) (List.replicate (synT lens).length 0)
    have e1 : (List.range (synT lens).length).map (leftB (synT lens) (List.replicate (synT lens).length 0)) = (synT lens).map List.length := by
      apply List.ext_getElem (by simp)
      intro i h1 h2
      have hi : i < (synT lens).length := by simpa using h1
      simp [leftB, lenOf, List.getD_eq_getElem?_getD, hi]
    rw [this, e1, hl]; omega)
  rw [hl, show (synT lens).length = lens.length by simp [synT]] at h
  exact h
theorem prod_pos (lens : List Nat) : 0 < (lens.map fct).prod := by
  induction lens with
  | nil => exact Nat.one_pos
  | cons x r ih => simp only [List.map_cons, List.prod_cons]; exact Nat.mul_pos (fct_pos x) ih
theorem mul_zero_end (a : List Nat) : mulN (a ++ [0]) = mulN a := by
  have h1 := mul_spec (a ++ [0])
  have h2 := mul_spec a
  simp only [List.map_append, List.map_cons, List.map_nil, List.prod_append, List.prod_cons, List.prod_nil, fct, Nat.mul_one, List.sum_append, List.sum_cons, List.sum_nil, Nat.add_zero] at h1
  exact Nat.eq_of_mul_eq_mul_right (prod_pos a) (h1.trans h2.symm)
/-- One step more of the last thread. -/
theorem mul_step (a : List Nat) (k : Nat) : mulN (a ++ [k]) * ((a ++ [k]).sum + 1) = mulN (a ++ [k + 1]) * (k + 1) := by
  have h1 := mul_spec (a ++ [k])
  have h2 := mul_spec (a ++ [k + 1])
  simp only [List.map_append, List.map_cons, List.map_nil, List.prod_append, List.prod_cons, List.prod_nil, Nat.mul_one, List.sum_append, List.sum_cons, List.sum_nil, Nat.add_zero] at h1 h2 ⊢
  have hP := Nat.mul_pos (prod_pos a) (fct_pos k)
  refine Nat.eq_of_mul_eq_mul_right hP ?_
  rw [fct, show a.sum + (k + 1) = (a.sum + k) + 1 by omega, fct, ← h1] at h2
  calc mulN (a ++ [k]) * (a.sum + k + 1) * ((a.map fct).prod * fct k) = (a.sum + k + 1) * (mulN (a ++ [k]) * ((a.map fct).prod * fct k)) := by rw [Nat.mul_comm (mulN _) (a.sum + k + 1), Nat.mul_assoc]
    _ = mulN (a ++ [k + 1]) * ((a.map fct).prod * ((k + 1) * fct k)) := h2.symm
    _ = mulN (a ++ [k + 1]) * (k + 1) * ((a.map fct).prod * fct k) := by rw [Nat.mul_left_comm (a.map fct).prod, Nat.mul_assoc]
theorem mul_div (a : List Nat) (k : Nat) : mulN (a ++ [k]) * ((a ++ [k]).sum + 1) / (k + 1) = mulN (a ++ [k + 1]) := by
  rw [mul_step]; exact Nat.mul_div_cancel _ (Nat.succ_pos k)
theorem mul_le (lens : List Nat) : mulN lens ≤ fct lens.sum := by
  rw [← mul_spec]; exact Nat.le_mul_of_pos_right _ (prod_pos lens)
theorem fct_mono : ∀ {a b : Nat}, a ≤ b → fct a ≤ fct b := by
  intro a b h
  induction h with
  | refl => exact Nat.le_refl _
  | step _ ih => exact Nat.le_trans ih (Nat.le_mul_of_pos_left _ (Nat.succ_pos _))
theorem mul_small {lens : List Nat} (h : lens.sum ≤ 12) : mulN lens ≤ 479001600 := Nat.le_trans (mul_le lens) (Nat.le_trans (fct_mono h) (by decide))
theorem mul_nil : mulN [] = 1 := by
  have := mul_spec []
  simpa [fct] using this
/-- The number of complete runs of threads. -/
theorem cnt_mul (ths : List (List St)) {n : Nat} (hn : remB ths (List.replicate ths.length 0) < n) : cntB ths n (List.replicate ths.length 0) = mulN (ths.map List.length) :=
  Nat.eq_of_mul_eq_mul_right (prod_pos _) ((cnt_zero ths hn).trans (mul_spec _).symm)
end Go.Proofs.Ytbhkcejjehgfcaa
/- Small. -/
namespace Go.Proofs.Ytbhkcejjehgfcaa
open Go.RowKit Go.Sort
set_option linter.unusedSimpArgs false
set_option linter.unusedVariables false

def lensB (ths : List (List St)) : List Nat := ths.map List.length
def smallB (ths : List (List St)) : Bool := !validB ths || decide (mulN (lensB ths) ≤ 400)
theorem tot_lens (ths : List (List St)) : totB ths = (lensB ths).sum := rfl
theorem tot_take {ths : List (List St)} (h : totB ths ≤ 12) (t : Nat) : totB (ths.take t) ≤ 12 := by
  have e : totB ths = totB (ths.take t) + totB (ths.drop t) := by
    unfold totB
    rw [← List.sum_append, ← List.map_append, List.take_append_drop]
  omega
theorem tot_at {ths : List (List St)} (h : totB ths ≤ 12) {t : Nat} {l : List St} (hl : ths[t]? = some l) : totB (ths.take t) + l.length ≤ 12 := by
  have := tot_take h (t + 1)
  rw [tot_drop hl] at this
  exact this
theorem lens_take {ths : List (List St)} {t : Nat} {l : List St} (hl : ths[t]? = some l) : lensB (ths.take (t + 1)) = lensB (ths.take t) ++ [l.length] := by
  unfold lensB
  rw [List.take_add_one, hl, List.map_append]
  rfl
/-- The numbers of one round. -/
theorem mul_round {a : List Nat} {k n : Nat} (hn : a.sum = n) (h12 : n + k + 1 ≤ 12) : IntKind.i64.wrap (((mulN (a ++ [k]) : Nat) : Int) * ((n + k + 1 : Nat) : Int)) = ((mulN (a ++ [k]) * (n + k + 1) : Nat) : Int) ∧
    IntKind.i64.wrap (((mulN (a ++ [k]) * (n + k + 1) : Nat) : Int).tdiv ((k + 1 : Nat) : Int)) = ((mulN (a ++ [k + 1]) : Nat) : Int) ∧ (((k + 1 : Nat) : Int) = 0) = False ∧ IntKind.i64.wrap (((n + k : Nat) : Int) + 1) = ((n + k + 1 : Nat) : Int) ∧ IntKind.i64.wrap (((k + 1 : Nat) : Int) + 1) = ((k + 1 + 1 : Nat) : Int) ∧ IntKind.i64.wrap (((k : Nat) : Int) + 1) = ((k + 1 : Nat) : Int) := by
  have hs : (a ++ [k]).sum = n + k := by simp [hn]
  have h1 : mulN (a ++ [k]) ≤ 479001600 := mul_small (by omega)
  have h2 : mulN (a ++ [k + 1]) ≤ 479001600 := mul_small (by simp [hn]; omega)
  have hd := mul_div a k
  rw [hs] at hd
  have h3 : mulN (a ++ [k]) * (n + k + 1) ≤ 479001600 * 12 := Nat.mul_le_mul h1 (by omega)
  refine ⟨?_, ?_, eq_false (by omega), wrap_succ (by omega), wrap_succ (by omega), wrap_succ (by omega)⟩
  · rw [← Int.natCast_mul]
    exact wrap_ok (by omega) (by omega)
  · rw [show ((mulN (a ++ [k]) * (n + k + 1) : Nat) : Int).tdiv ((k + 1 : Nat) : Int) = ((mulN (a ++ [k]) * (n + k + 1) / (k + 1) : Nat) : Int) from rfl, hd]
    exact wrap_ok (by omega) (by omega)
set_option maxHeartbeats 4000000 in
set_option maxRecDepth 100000 in
theorem small_ok (ths : List (List St)) (hf : fewB ths = true) : PureC Try.prog 15 [.p (thsP ths)] (.bool (smallB ths)) := by
  have hrv := rvalid_at ths hf
  have hfl := (fewB_ok hf).1
  cases hv : validB ths with
  | false =>
    rw [hv] at hrv
    simp only [thsP, smallB, hv, Bool.not_false, Bool.true_or] at hrv ⊢
    refine PureC.of Try.func15 rfl 40 rfl (by decide) (by simp [AV.okB]) ?_
    repeat' (first | refine T.seqK fun K hK => ?_ | refine T.block ?_ | (refine T.reg (by kernel_rfl) fun K' hK' => ?_; simp only [startSt, frOf, List.map_cons, List.map_nil]; (repeat' (first | (with_reducible refine WL.fin ?_; refine hK' _ ?_; clear hK' K') | (with_reducible refine WD.fin ?_) | ((first | (with_reducible refine WL.step fun K2 hK2 => ?_) | (with_reducible refine WD.step fun K2 hK2 => ?_)); simp only [WS, WH, WO, WOv, WG, dstOk, hasDst, aop, ASt.ev, aload, aloadC, afield, aindex, abin, abinI, aun, alen, acells, Nat.reduceEqDiff, Nat.reduceLT, Nat.reduceLeDiff, Nat.reduceAdd, reduceIte, reduceCtorEq, implies_true, ASt.add, setHp, asplice, Int.reduceEq, Int.reduceNe, Int.reduceLT, Int.reduceLE, Int.reduceSub, Int.reduceAdd, abuild, afill, abuildS, pureL, chunks, List.range, List.range.loop, Nat.reduceMul, Nat.reduceMod, apartF, apartI, aslice, evI, ASt.subst, AO.box, aval, pvals, ams, tys, mapTy_69, keyed_3]; (repeat' (first | (with_reducible refine hK2 _ ?_; clear hK2 K2) | (with_reducible refine And.intro ?_ ?_) | (with_reducible intro hb) | ((first | (with_reducible apply callArmO) | (with_reducible apply callArm)); case h => exact CallV.plain (Ent.of Try.func11 (by kernel_rfl) rfl) (hrv) (by simp [AV.okB])))))))) | refine T.skip ?_ | refine T.exit ?_ | refine T.condT rfl ?_ | refine T.condF rfl ?_ | refine T.cond rfl (fun hc => ?_) (fun hc => ?_) | refine T.ret ?_ | simp only [ThenA, InBlock, reduceIte, Nat.reduceEqDiff] | ((repeat ((fail_if_success (refine hK _ ?_)); clear hK K)); refine hK _ ?_; clear hK K))
    refine FinA.ret (.inr rfl) Try.results15 ?_; simp only [ares, aresL, ares1, WS, WH, WO, WOv, WG, dstOk, hasDst, aop, ASt.ev, aload, aloadC, afield, aindex, abin, abinI, aun, alen, acells, Nat.reduceEqDiff, Nat.reduceLT, Nat.reduceLeDiff, Nat.reduceAdd, reduceIte, reduceCtorEq, implies_true, ASt.add, setHp, asplice, Int.reduceEq, Int.reduceNe, Int.reduceLT, Int.reduceLE, Int.reduceSub, Int.reduceAdd, abuild, afill, abuildS, pureL, chunks, List.range, List.range.loop, Nat.reduceMul, Nat.reduceMod, apartF, apartI, aslice, evI, ASt.subst, AO.box, aval, pvals, ams, tys, mapTy_69, keyed_3, ]
  | true =>
    rw [hv] at hrv
    have h12 : totB ths ≤ 12 := by have := (validB_ok hv).2.2.1; rwa [rem_zero] at this
    simp only [thsP, smallB, hv, Bool.not_true, Bool.false_or] at hrv ⊢
    refine PureC.of Try.func15 rfl 40 rfl (by decide) (by simp [AV.okB]) ?_
    repeat' (first | refine T.seqK fun K hK => ?_ | refine T.block ?_ | (refine T.reg (by kernel_rfl) fun K' hK' => ?_; simp only [startSt, frOf, List.map_cons, List.map_nil]; (repeat' (first | (with_reducible refine WL.fin ?_; refine hK' _ ?_; clear hK' K') | (with_reducible refine WD.fin ?_) | ((first | (with_reducible refine WL.step fun K2 hK2 => ?_) | (with_reducible refine WD.step fun K2 hK2 => ?_)); simp only [WS, WH, WO, WOv, WG, dstOk, hasDst, aop, ASt.ev, aload, aloadC, afield, aindex, abin, abinI, aun, alen, acells, Nat.reduceEqDiff, Nat.reduceLT, Nat.reduceLeDiff, Nat.reduceAdd, reduceIte, reduceCtorEq, implies_true, ASt.add, setHp, asplice, Int.reduceEq, Int.reduceNe, Int.reduceLT, Int.reduceLE, Int.reduceSub, Int.reduceAdd, abuild, afill, abuildS, pureL, chunks, List.range, List.range.loop, Nat.reduceMul, Nat.reduceMod, apartF, apartI, aslice, evI, ASt.subst, AO.box, aval, pvals, ams, tys, mapTy_69, keyed_3]; (repeat' (first | (with_reducible refine hK2 _ ?_; clear hK2 K2) | (with_reducible refine And.intro ?_ ?_) | (with_reducible intro hb) | ((first | (with_reducible apply callArmO) | (with_reducible apply callArm)); case h => exact CallV.plain (Ent.of Try.func11 (by kernel_rfl) rfl) (hrv) (by simp [AV.okB])))))))) | refine T.skip ?_ | refine T.exit ?_ | refine T.condT rfl ?_ | refine T.condF rfl ?_ | refine T.cond rfl (fun hc => ?_) (fun hc => ?_) | refine T.ret ?_ | simp only [ThenA, InBlock, reduceIte, Nat.reduceEqDiff] | ((repeat ((fail_if_success (refine hK _ ?_)); clear hK K)); refine hK _ ?_; clear hK K))
    refine T.loopK (fun t : Nat => ⟨[(0, .p (thsP ths)), (3, .int (totB (ths.take t))), (4, .int (mulN (lensB (ths.take t)))), (5, .int t)], [], 40, 0⟩) (fun t => t ≤ ths.length) (fun t => ths.length - t) 0 (Nat.zero_le _) (by refine Weak.of' rfl ?_; simp only [wks, reduceIte, Nat.reduceEqDiff, ASt.okB, AV.okB, Nat.reduceLT, implies_true, Int.natCast_zero, totB, lensB, List.take_zero, List.map_nil, List.sum_nil, thsP, mul_nil, show ((1 : Nat) : Int) = 1 from rfl]) ?_
    rintro t ht KL hKL
    simp only [thsP]
    by_cases hlt : t < ths.length
    · obtain ⟨l, hx⟩ := at_lt hlt
      have hd : decide ((t : Int) < (ths.length : Int)) = true := by simpa using hlt
      have hta := tot_at h12 hx
      have g1 : decide ((12 : Int) < (l.length : Int)) = false := by simp; omega
      repeat' (first | refine T.seqK fun K hK => ?_ | refine T.block ?_ | (refine T.reg (by kernel_rfl) fun K' hK' => ?_; simp only [startSt, frOf, List.map_cons, List.map_nil]; (repeat' (first | (with_reducible refine WL.fin ?_; refine hK' _ ?_; clear hK' K') | (with_reducible refine WD.fin ?_) | ((first | (with_reducible refine WL.step fun K2 hK2 => ?_) | (with_reducible refine WD.step fun K2 hK2 => ?_)); simp only [WS, WH, WO, WOv, WG, dstOk, hasDst, aop, ASt.ev, aload, aloadC, afield, aindex, abin, abinI, aun, alen, acells, Nat.reduceEqDiff, Nat.reduceLT, Nat.reduceLeDiff, Nat.reduceAdd, reduceIte, reduceCtorEq, implies_true, ASt.add, setHp, asplice, Int.reduceEq, Int.reduceNe, Int.reduceLT, Int.reduceLE, Int.reduceSub, Int.reduceAdd, abuild, afill, abuildS, pureL, chunks, List.range, List.range.loop, Nat.reduceMul, Nat.reduceMod, apartF, apartI, aslice, evI, ASt.subst, AO.box, aval, pvals, ams, tys, mapTy_69, keyed_3, hx, hd, thP, g1]; (repeat' (first | (with_reducible refine hK2 _ ?_; clear hK2 K2) | (with_reducible refine And.intro ?_ ?_) | (with_reducible intro hb) | fail)))))) | refine T.skip ?_ | refine T.exit ?_ | refine T.condT rfl ?_ | refine T.condF rfl ?_ | refine T.cond rfl (fun hc => ?_) (fun hc => ?_) | refine T.ret ?_ | simp only [ThenA, InBlock, reduceIte, Nat.reduceEqDiff] | ((repeat ((fail_if_success (refine hK _ ?_)); clear hK K)); refine hK _ ?_; clear hK K))
      refine T.loopK (fun k : Nat => ⟨[(0, .p (thsP ths)), (3, .int ((totB (ths.take t) + k : Nat) : Int)), (4, .int (mulN (lensB (ths.take t) ++ [k]))), (5, .int t), (6, .int ((k + 1 : Nat) : Int))], [], 40, 0⟩) (fun k => k ≤ l.length) (fun k => l.length - k) 0 (Nat.zero_le _) (by refine Weak.of' rfl ?_; simp only [wks, reduceIte, Nat.reduceEqDiff, ASt.okB, AV.okB, Nat.reduceLT, implies_true, Nat.add_zero, Nat.zero_add, mul_zero_end, thsP, thP, show ((1 : Nat) : Int) = 1 from rfl]) ?_
      rintro k hk KJ hKJ
      simp only [thsP]
      by_cases hkl : k < l.length
      · have hd2 : decide (((k + 1 : Nat) : Int) ≤ (l.length : Int)) = true := by simp; omega
        obtain ⟨m1, m2, m3, m4, m5, _⟩ := mul_round (a := lensB (ths.take t)) (k := k) (n := totB (ths.take t)) rfl (by omega)
        repeat' (first | refine T.seqK fun K hK => ?_ | refine T.block ?_ | (refine T.reg (by kernel_rfl) fun K' hK' => ?_; simp only [startSt, frOf, List.map_cons, List.map_nil]; (repeat' (first | (with_reducible refine WL.fin ?_; refine hK' _ ?_; clear hK' K') | (with_reducible refine WD.fin ?_) | ((first | (with_reducible refine WL.step fun K2 hK2 => ?_) | (with_reducible refine WD.step fun K2 hK2 => ?_)); simp only [WS, WH, WO, WOv, WG, dstOk, hasDst, aop, ASt.ev, aload, aloadC, afield, aindex, abin, abinI, aun, alen, acells, Nat.reduceEqDiff, Nat.reduceLT, Nat.reduceLeDiff, Nat.reduceAdd, reduceIte, reduceCtorEq, implies_true, ASt.add, setHp, asplice, Int.reduceEq, Int.reduceNe, Int.reduceLT, Int.reduceLE, Int.reduceSub, Int.reduceAdd, abuild, afill, abuildS, pureL, chunks, List.range, List.range.loop, Nat.reduceMul, Nat.reduceMod, apartF, apartI, aslice, evI, ASt.subst, AO.box, aval, pvals, ams, tys, mapTy_69, keyed_3, hx, hd2, thP, m1, m2, m3, m4, m5]; (repeat' (first | (with_reducible refine hK2 _ ?_; clear hK2 K2) | (with_reducible refine And.intro ?_ ?_) | (with_reducible intro hb) | fail)))))) | refine T.skip ?_ | refine T.exit ?_ | refine T.condT rfl ?_ | refine T.condF rfl ?_ | refine T.cond rfl (fun hc => ?_) (fun hc => ?_) | refine T.ret ?_ | simp only [ThenA, InBlock, reduceIte, Nat.reduceEqDiff] | ((repeat ((fail_if_success (refine hK _ ?_)); clear hK K)); refine hK _ ?_; clear hK K))
        exact hKJ _ (k + 1) (by refine Weak.of' rfl ?_; simp only [wks, reduceIte, Nat.reduceEqDiff, ASt.okB, AV.okB, Nat.reduceLT, implies_true, thsP, thP, Nat.add_assoc]) (by omega) (by omega)
      · have hd2 : decide (((k + 1 : Nat) : Int) ≤ (l.length : Int)) = false := by simp; omega
        obtain rfl : k = l.length := by omega
        clear hKJ
        repeat' (first | refine T.seqK fun K hK => ?_ | refine T.block ?_ | (refine T.reg (by kernel_rfl) fun K' hK' => ?_; simp only [startSt, frOf, List.map_cons, List.map_nil]; (repeat' (first | (with_reducible refine WL.fin ?_; refine hK' _ ?_; clear hK' K') | (with_reducible refine WD.fin ?_) | ((first | (with_reducible refine WL.step fun K2 hK2 => ?_) | (with_reducible refine WD.step fun K2 hK2 => ?_)); simp only [WS, WH, WO, WOv, WG, dstOk, hasDst, aop, ASt.ev, aload, aloadC, afield, aindex, abin, abinI, aun, alen, acells, Nat.reduceEqDiff, Nat.reduceLT, Nat.reduceLeDiff, Nat.reduceAdd, reduceIte, reduceCtorEq, implies_true, ASt.add, setHp, asplice, Int.reduceEq, Int.reduceNe, Int.reduceLT, Int.reduceLE, Int.reduceSub, Int.reduceAdd, abuild, afill, abuildS, pureL, chunks, List.range, List.range.loop, Nat.reduceMul, Nat.reduceMod, apartF, apartI, aslice, evI, ASt.subst, AO.box, aval, pvals, ams, tys, mapTy_69, keyed_3, hx, hd2, thP]; (repeat' (first | (with_reducible refine hK2 _ ?_; clear hK2 K2) | (with_reducible refine And.intro ?_ ?_) | (with_reducible intro hb) | fail)))))) | refine T.skip ?_ | refine T.exit ?_ | refine T.condT rfl ?_ | refine T.condF rfl ?_ | refine T.cond rfl (fun hc => ?_) (fun hc => ?_) | refine T.ret ?_ | simp only [ThenA, InBlock, reduceIte, Nat.reduceEqDiff] | ((repeat ((fail_if_success (refine hK _ ?_)); clear hK K)); refine hK _ ?_; clear hK K))
        refine hKL _ (t + 1) ?_ (by omega) (by omega)
        rw [tot_drop hx, lens_take hx]
        refine Weak.of' rfl ?_; simp only [wks, reduceIte, Nat.reduceEqDiff, ASt.okB, AV.okB, Nat.reduceLT, implies_true, wrap_succ (show t < 1152921504606846976 by omega), thsP, thP]
    · have hd : decide ((t : Int) < (ths.length : Int)) = false := by simpa using hlt
      obtain rfl : t = ths.length := by omega
      rw [List.take_length]
      have hle : decide (((mulN (lensB ths) : Nat) : Int) ≤ 400) = decide (mulN (lensB ths) ≤ 400) := by simp; omega
      clear hKL
      repeat' (first | refine T.seqK fun K hK => ?_ | refine T.block ?_ | (refine T.reg (by kernel_rfl) fun K' hK' => ?_; simp only [startSt, frOf, List.map_cons, List.map_nil]; (repeat' (first | (with_reducible refine WL.fin ?_; refine hK' _ ?_; clear hK' K') | (with_reducible refine WD.fin ?_) | ((first | (with_reducible refine WL.step fun K2 hK2 => ?_) | (with_reducible refine WD.step fun K2 hK2 => ?_)); simp only [WS, WH, WO, WOv, WG, dstOk, hasDst, aop, ASt.ev, aload, aloadC, afield, aindex, abin, abinI, aun, alen, acells, Nat.reduceEqDiff, Nat.reduceLT, Nat.reduceLeDiff, Nat.reduceAdd, reduceIte, reduceCtorEq, implies_true, ASt.add, setHp, asplice, Int.reduceEq, Int.reduceNe, Int.reduceLT, Int.reduceLE, Int.reduceSub, Int.reduceAdd, abuild, afill, abuildS, pureL, chunks, List.range, List.range.loop, Nat.reduceMul, Nat.reduceMod, apartF, apartI, aslice, evI, ASt.subst, AO.box, aval, pvals, ams, tys, mapTy_69, keyed_3, hd, hle]; (repeat' (first | (with_reducible refine hK2 _ ?_; clear hK2 K2) | (with_reducible refine And.intro ?_ ?_) | (with_reducible intro hb) | fail)))))) | refine T.skip ?_ | refine T.exit ?_ | refine T.condT rfl ?_ | refine T.condF rfl ?_ | refine T.cond rfl (fun hc => ?_) (fun hc => ?_) | refine T.ret ?_ | simp only [ThenA, InBlock, reduceIte, Nat.reduceEqDiff] | ((repeat ((fail_if_success (refine hK _ ?_)); clear hK K)); refine hK _ ?_; clear hK K))
      refine FinA.ret (.inr rfl) Try.results15 ?_; simp only [ares, aresL, ares1, WS, WH, WO, WOv, WG, dstOk, hasDst, aop, ASt.ev, aload, aloadC, afield, aindex, abin, abinI, aun, alen, acells, Nat.reduceEqDiff, Nat.reduceLT, Nat.reduceLeDiff, Nat.reduceAdd, reduceIte, reduceCtorEq, implies_true, ASt.add, setHp, asplice, Int.reduceEq, Int.reduceNe, Int.reduceLT, Int.reduceLE, Int.reduceSub, Int.reduceAdd, abuild, afill, abuildS, pureL, chunks, List.range, List.range.loop, Nat.reduceMul, Nat.reduceMod, apartF, apartI, aslice, evI, ASt.subst, AO.box, aval, pvals, ams, tys, mapTy_69, keyed_3, ]
end Go.Proofs.Ytbhkcejjehgfcaa
/- Threads with other touches. -/
namespace Go.Proofs.Ytbhkcejjehgfcaa
open Go.RowKit Go.Sort
set_option linter.unusedSimpArgs false
set_option linter.unusedVariables false

theorem valid_thok {ths : List (List St)} (h : validB ths = true) : ThOk ths := ⟨fun t l hl i s hs => (validB_ok h).2.2.2 t l hl i s hs⟩
def stepAt (ths : List (List St)) (x : St) : St := ((ths[x.g.toNat]?).bind fun l => l[x.c.toNat]?).getD x
theorem step_at {ths : List (List St)} (ho : ThOk ths) {s x : St} (hs : s ∈ stepsOf ths) (hg : x.g = s.g) (hc : x.c = s.c) : stepAt ths x = s := by
  obtain ⟨l, hl, hsl⟩ := List.mem_flatten.1 hs
  obtain ⟨t, ht⟩ := List.mem_iff_getElem?.1 hl
  obtain ⟨i, hi⟩ := List.mem_iff_getElem?.1 hsl
  obtain ⟨e1, e2, _⟩ := ho.at' t l ht i s hi
  unfold stepAt
  rw [hg, hc, e1, e2, Int.toNat_natCast, Int.toNat_natCast, ht]
  simp [hi]
/-- Other touches, all else as it was. -/
structure Keeps (φ : St → St) : Prop where
  g : ∀ s, (φ s).g = s.g
  c : ∀ s, (φ s).c = s.c
  gs : ∀ s, (φ s).gs = s.gs
def mapT (φ : St → St) (ths : List (List St)) : List (List St) := ths.map (List.map φ)
section
variable {φ : St → St} {ths : List (List St)}
theorem Keeps.sim : Sim ths (mapT φ ths) id id φ := ⟨fun _ => rfl, fun _ => rfl, by simp [mapT], fun t => by simp [mapT]⟩
theorem Keeps.thok (h : Keeps φ) (ho : ThOk ths) : ThOk (mapT φ ths) := ⟨fun t l hl i s hs => by
  simp only [mapT, List.getElem?_map, Option.map_eq_some_iff] at hl
  obtain ⟨l', hl', rfl⟩ := hl
  simp only [List.getElem?_map, Option.map_eq_some_iff] at hs
  obtain ⟨s', hs', rfl⟩ := hs
  rw [h.g, h.c, h.gs]
  exact ho.at' t l' hl' i s' hs'⟩
theorem Keeps.lens : lensB (mapT φ ths) = lensB ths := by simp [lensB, mapT, Function.comp_def]
theorem Keeps.okRow (h : Keeps φ) (t : Nat) : ∀ (l : List St) (i : Nat), okRow t (l.map φ) i = okRow t l i
  | [], _ => rfl
  | s :: r, i => by simp only [List.map_cons, Go.Proofs.Ytbhkcejjehgfcaa.okRow, okSt, h.g, h.c, h.gs, Keeps.okRow h t r]
theorem Keeps.okAll (h : Keeps φ) : ∀ (ths : List (List St)) (t : Nat), okAll (mapT φ ths) t = okAll ths t
  | [], _ => rfl
  | l :: r, t => by
    have := Keeps.okAll h r (t + 1)
    simp only [mapT] at this
    simp only [mapT, List.map_cons, Go.Proofs.Ytbhkcejjehgfcaa.okAll, h.okRow, this]
theorem Keeps.valid (h : Keeps φ) : validB (mapT φ ths) = validB ths := by
  unfold validB
  rw [h.okAll, tot_lens, tot_lens, Keeps.lens, show (mapT φ ths).length = ths.length by simp [mapT]]
theorem Keeps.mem {s : St} (hs : s ∈ stepsOf (mapT φ ths)) : ∃ s' ∈ stepsOf ths, s = φ s' := by
  obtain ⟨l, hl, hsl⟩ := List.mem_flatten.1 hs
  obtain ⟨l', hl', rfl⟩ := List.mem_map.1 hl
  obtain ⟨s', hs', rfl⟩ := List.mem_map.1 hsl
  exact ⟨s', List.mem_flatten.2 ⟨l', hl', hs'⟩, rfl⟩
end
theorem visA_eq (ths : List (List St)) : visA ths = visR ths 13 (List.replicate ths.length 0) fun _ => false := visA_R ths
theorem classes_le {ths : List (List St)} {φ : St → St} (h : Keeps φ) (hv : validB ths = true) (hD : ∀ a ∈ stepsOf ths, ∀ b ∈ stepsOf ths, dpB (φ a) (φ b) = false → dpB a b = false) : classesB ths ≤ classesB (mapT φ ths) := by
  have hv' : validB (mapT φ ths) = true := by rw [h.valid]; exact hv
  have ho := valid_thok hv
  unfold classesB
  rw [if_pos hv, if_pos hv', visA_eq, visA_eq]
  exact cls_le Keeps.sim ho (h.thok ho) (validB_ok hv).2.2.1 (validB_ok hv').2.2.1 (stepAt ths) (fun s hs => step_at ho hs (h.g s) (h.c s)) hD
def freeS (s : St) : St := { s with ts := [] }
def outT : Tc := ⟨4, 0, 0, true⟩
def boundS (s : St) : St := { s with ts := [outT] }
def moreS (T I : Int) (X : Tc) (s : St) : St := if s.g = T ∧ s.c = I then { s with ts := s.ts ++ [X] } else s
theorem freeS_k : Keeps freeS := ⟨fun _ => rfl, fun _ => rfl, fun _ => rfl⟩
theorem boundS_k : Keeps boundS := ⟨fun _ => rfl, fun _ => rfl, fun _ => rfl⟩
theorem moreS_k (T I : Int) (X : Tc) : Keeps (moreS T I X) := ⟨fun s => by unfold moreS; split <;> rfl, fun s => by unfold moreS; split <;> rfl, fun s => by unfold moreS; split <;> rfl⟩
theorem step_gs {ths : List (List St)} (ho : ThOk ths) {s : St} (hs : s ∈ stepsOf ths) : s.gs = [s.g] := by
  obtain ⟨l, hl, hsl⟩ := List.mem_flatten.1 hs
  obtain ⟨t, ht⟩ := List.mem_iff_getElem?.1 hl
  obtain ⟨i, hi⟩ := List.mem_iff_getElem?.1 hsl
  obtain ⟨e1, _, e3⟩ := ho.at' t l ht i s hi
  rw [e3, e1]
theorem classes_free {ths : List (List St)} (hv : validB ths = true) : classesB (mapT freeS ths) = 1 := by
  have hv' : validB (mapT freeS ths) = true := by rw [freeS_k.valid]; exact hv
  have ho := freeS_k.thok (valid_thok hv)
  have h12 := (validB_ok hv').2.2.1
  unfold classesB
  rw [if_pos hv', visA_eq]
  refine free_one ho (fun a ha b hb hab => ?_) h12 ?_
  · have ea := step_gs ho ha
    have eb := step_gs ho hb
    obtain ⟨a', _, rfl⟩ := Keeps.mem ha
    obtain ⟨b', _, rfl⟩ := Keeps.mem hb
    unfold dpB
    rw [ea, eb]
    simp [freeS] at hab ⊢
    exact hab
  · rw [← visA_eq]
    exact vis_ne _ 12 _ [] h12
theorem classes_bound {ths : List (List St)} (hv : validB ths = true) : classesB (mapT boundS ths) = mulN (lensB ths) := by
  have hv' : validB (mapT boundS ths) = true := by rw [boundS_k.valid]; exact hv
  have h12 := (validB_ok hv').2.2.1
  unfold classesB
  rw [if_pos hv', visA_eq, all_cnt (fun a ha b hb => ?_), cnt_mul _ (by omega)]
  · exact congrArg mulN Keeps.lens
  · obtain ⟨a', _, rfl⟩ := Keeps.mem ha
    obtain ⟨b', _, rfl⟩ := Keeps.mem hb
    simp [dpB, boundS, outT, tcB]
theorem classes_total {ths : List (List St)} (hv : validB ths = true) : classesB ths ≤ mulN (lensB ths) := by
  rw [← classes_bound hv]
  refine classes_le boundS_k hv fun a _ b _ h => ?_
  simp [dpB, boundS, outT, tcB] at h
theorem moreS_ts (T I : Int) (X : Tc) (s : St) : ∀ x ∈ s.ts, x ∈ (moreS T I X s).ts := fun x hx => by
  unfold moreS
  split
  · exact List.mem_append.2 (.inl hx)
  · exact hx
theorem classes_more {ths : List (List St)} (hv : validB ths = true) (T I : Int) (X : Tc) : classesB ths ≤ classesB (mapT (moreS T I X) ths) := by
  refine classes_le (moreS_k T I X) hv fun a _ b _ h => ?_
  cases hd : dpB a b with
  | false => rfl
  | true =>
    exfalso
    have : dpB (moreS T I X a) (moreS T I X b) = true := by
      unfold dpB at hd ⊢
      rw [(moreS_k T I X).gs, (moreS_k T I X).gs]
      rw [Bool.or_eq_true] at hd ⊢
      refine hd.imp (fun h => h) fun h => ?_
      simp only [List.any_eq_true] at h ⊢
      obtain ⟨x, hx, y, hy, hxy⟩ := h
      exact ⟨x, moreS_ts T I X a x hx, y, moreS_ts T I X b y hy, hxy⟩
    rw [h] at this
    cases this
end Go.Proofs.Ytbhkcejjehgfcaa
/- The examples of the document. -/
namespace Go.Proofs.Ytbhkcejjehgfcaa
open Go.RowKit Go.Sort
set_option linter.unusedSimpArgs false
set_option linter.unusedVariables false

def exA : List (List St) := [[acSt 0 true], [acSt 1 true]]
def exB : List (List St) := [[acSt 0 true], [acSt 1 false], [acSt 2 false]]
def exC : List (List St) := [[acSt 0 false], [acSt 1 false]]
theorem exA_n : classesB exA = 2 := by decide
theorem exB_n : classesB exB = 4 := by decide
theorem exC_n : (visA exC).length = 1 := by decide
theorem exC_v : validB exC = true := by decide
set_option maxHeartbeats 4000000 in
set_option maxRecDepth 100000 in
theorem awake_ok : PureC Try.prog 9 [] (.bool true) := by
  have hm2 : 2 ≤ maxLen := by decide
  have hm3 : 3 ≤ maxLen := by decide
  have hA := classes_at exA (by decide)
  have hB := classes_at exB (by decide)
  have hC := explore_at exC (by decide)
  rw [exA_n, show ((2 : Nat) : Int) = 2 from rfl] at hA
  rw [exB_n, show ((4 : Nat) : Int) = 4 from rfl] at hB
  have hl : (rowOf pksP (exploreB (validB exC) exC)).length = 1 := by
    rw [exC_v]
    simp only [rowOf, exploreB, if_true, List.length_map]
    rw [(sort_perm _).length_eq, List.length_map]
    exact exC_n
  generalize rowOf pksP (exploreB (validB exC) exC) = rC at hC hl
  have hl2 : (rC.length : Int) = 1 := by rw [hl]; rfl
  simp only [thsP, exA, exB, exC, List.map_cons, List.map_nil] at hA hB hC
  refine PureC.of Try.func9 rfl 22 rfl (by decide) (by simp [AV.okB]) ?_
  repeat' (first | refine T.seqK fun K hK => ?_ | refine T.block ?_ | (refine T.reg (by kernel_rfl) fun K' hK' => ?_; simp only [startSt, frOf, List.map_cons, List.map_nil]; (repeat' (first | (with_reducible refine WL.fin ?_; refine hK' _ ?_; clear hK' K') | (with_reducible refine WD.fin ?_) | ((first | (with_reducible refine WL.step fun K2 hK2 => ?_) | (with_reducible refine WD.step fun K2 hK2 => ?_)); simp only [WS, WH, WO, WOv, WG, dstOk, hasDst, aop, ASt.ev, aload, aloadC, afield, aindex, abin, abinI, aun, alen, acells, Nat.reduceEqDiff, Nat.reduceLT, Nat.reduceLeDiff, Nat.reduceAdd, reduceIte, reduceCtorEq, implies_true, ASt.add, setHp, asplice, Int.reduceEq, Int.reduceNe, Int.reduceLT, Int.reduceLE, Int.reduceSub, Int.reduceAdd, abuild, afill, abuildS, pureL, chunks, List.range, List.range.loop, Nat.reduceMul, Nat.reduceMod, apartF, apartI, aslice, evI, ASt.subst, AO.box, aval, pvals, ams, tys, mapTy_69, keyed_3, hm2, hm3, hl2, beq_self_eq_true]; (repeat' (first | (with_reducible refine hK2 _ ?_; clear hK2 K2) | (with_reducible refine And.intro ?_ ?_) | (with_reducible intro hb) | ((first | (with_reducible apply callArmO) | (with_reducible apply callArm)); case h => exact CallV.plain (Ent.of Try.func22 (by kernel_rfl) rfl) (access_ok _ _) (by simp [AV.okB])) | ((first | (with_reducible apply callArmO) | (with_reducible apply callArm)); case h => exact CallV.plain (Ent.of Try.func14 (by kernel_rfl) rfl) (hA) (by simp [AV.okB])) | ((first | (with_reducible apply callArmO) | (with_reducible apply callArm)); case h => exact CallV.plain (Ent.of Try.func14 (by kernel_rfl) rfl) (hB) (by simp [AV.okB])) | ((first | (with_reducible apply callArmO) | (with_reducible apply callArm)); case h => exact CallV.plain (Ent.of Try.func13 (by kernel_rfl) rfl) (hC) (by simp [AV.okB])))))))) | refine T.skip ?_ | refine T.exit ?_ | refine T.condT rfl ?_ | refine T.condF rfl ?_ | refine T.cond rfl (fun hc => ?_) (fun hc => ?_) | refine T.ret ?_ | simp only [ThenA, InBlock, reduceIte, Nat.reduceEqDiff] | ((repeat ((fail_if_success (refine hK _ ?_)); clear hK K)); refine hK _ ?_; clear hK K))
  refine FinA.ret (.inr rfl) Try.results9 ?_; simp only [ares, aresL, ares1, WS, WH, WO, WOv, WG, dstOk, hasDst, aop, ASt.ev, aload, aloadC, afield, aindex, abin, abinI, aun, alen, acells, Nat.reduceEqDiff, Nat.reduceLT, Nat.reduceLeDiff, Nat.reduceAdd, reduceIte, reduceCtorEq, implies_true, ASt.add, setHp, asplice, Int.reduceEq, Int.reduceNe, Int.reduceLT, Int.reduceLE, Int.reduceSub, Int.reduceAdd, abuild, afill, abuildS, pureL, chunks, List.range, List.range.loop, Nat.reduceMul, Nat.reduceMod, apartF, apartI, aslice, evI, ASt.subst, AO.box, aval, pvals, ams, tys, mapTy_69, keyed_3, ]
end Go.Proofs.Ytbhkcejjehgfcaa
/- Less is known of a slice's last element. -/
namespace Go.Proofs.Ytbhkcejjehgfcaa
open Go.RowKit Go.Sort
set_option linter.unusedVariables false

def PVle (p q : PV) : Prop := ∀ D w v, PR D w p v → PR D w q v
theorem PVle.refl (p : PV) : PVle p p := fun _ _ _ h => h
theorem PVle.nil (n : Nat) : PVle (.val (.slice none 0 0)) (.seq n []) := fun _ _ _ h => by
  cases h with
  | val _ _ => exact .nil n none 0 fun _ => rfl
/-- Cell by cell. -/
inductive Rle : List PV → List PV → Prop
  | nil : Rle [] []
  | cons {p q : PV} {r r' : List PV} (h : PVle p q) (k : Rle r r') : Rle (p :: r) (q :: r')
theorem Rle.refl : ∀ r, Rle r r
  | [] => .nil
  | p :: r => .cons (.refl p) (Rle.refl r)
theorem Rle.len {r r' : List PV} (h : Rle r r') : r'.length = r.length := by
  induction h with
  | nil => rfl
  | cons _ _ ih => simp [ih]
theorem Rle.at' {r r' : List PV} (h : Rle r r') : ∀ (j : Nat) x', r'[j]? = some x' → ∃ x, r[j]? = some x ∧ PVle x x' := by
  induction h with
  | nil => intro j x' hx; simp at hx
  | cons h _ ih =>
    intro j x' hx
    cases j with
    | zero => simp at hx; subst hx; exact ⟨_, rfl, h⟩
    | succ j => obtain ⟨x, h1, h2⟩ := ih j x' (by simpa using hx); exact ⟨x, by simpa using h1, h2⟩
theorem Weak.rowle (s : ASt) (t e n : Nat) (a : List (List PV)) (r r' : List PV) (hlk : s.hp.lookup t = some (.row e n (a ++ [r]))) (hle : Rle r r') : Weak s { s with hp := setHp s.hp t (.row e n (a ++ [r'])) } := fun L loc ac w hr => by
  refine ⟨loc, ⟨hr.defers, hr.size, hr.fr, ⟨fun k o hk => ?_, fun k hk => ?_, hr.hp.apart, hr.hp.inL, hr.hp.notL⟩⟩, Ext.refl _ _⟩
  · change (setHp s.hp t _).lookup k = some o at hk
    rw [setHp_lookup] at hk
    by_cases e1 : k = t
    · subst e1
      rw [if_pos rfl, hlk] at hk
      cases hk
      obtain ⟨h1, u, h2, flat, hown, hrn, hfl, h10⟩ := hr.hp.at' k _ hlk
      refine ⟨h1, u, h2, flat, by simpa using hown, fun q hq => ?_, fun i q j x hi hx => ?_, h10⟩
      · rcases List.mem_append.1 hq with hq | hq
        · exact hrn q (List.mem_append.2 (.inl hq))
        · rw [List.mem_singleton.1 hq, hle.len]; exact hrn r (by simp)
      · by_cases hia : i < a.length
        · rw [List.getElem?_append_left hia] at hi
          exact hfl i q j x (by rw [List.getElem?_append_left hia]; exact hi) hx
        · rw [List.getElem?_append_right (by omega)] at hi
          have h0 : i - a.length = 0 := by have := (List.getElem?_eq_some_iff.1 hi).1; simp at this; omega
          rw [h0] at hi
          cases hi
          obtain ⟨y, hy, hyx⟩ := hle.at' j x hx
          obtain ⟨v, g1, g2⟩ := hfl i r j y (by rw [List.getElem?_append_right (by omega), h0]; rfl) hy
          exact ⟨v, g1, hyx _ _ _ g2⟩
    · rw [if_neg e1] at hk
      exact hr.hp.at' k o hk
  · change (setHp s.hp t _).lookup k = none at hk
    rw [setHp_lookup] at hk
    by_cases e1 : k = t
    · subst e1; rw [if_pos rfl, hlk] at hk; cases hk
    · rw [if_neg e1] at hk; exact hr.hp.dead k hk
end Go.Proofs.Ytbhkcejjehgfcaa
/- SleepDependences. -/
namespace Go.Proofs.Ytbhkcejjehgfcaa
open Go.RowKit Go.Sort
set_option linter.unusedSimpArgs false
set_option linter.unusedVariables false

structure Ex where
  t : Int
  i : Int
  x : Tc
def exC2 (e : Ex) : List PV := [.val (.int .u8 e.t), .val (.int .u8 e.i)] ++ tcC e.x
def exA2 (e : Ex) : AV := .agg ((exC2 e).map .p)
def rowsT (φ : St → St) (l : List (List St)) : List (List PV) := l.map fun l => [thP (l.map φ)]
theorem classes_b (ths : List (List St)) (hl : ths.length ≤ 100) (hst : ∀ l ∈ ths, l.length ≤ 1000 ∧ ∀ s ∈ l, StOk s) : PureC Try.prog 14 [.p (thsP ths)] (.int (classesB ths)) := by
  have h := classes_ok ths hst (validB ths) (valid_ok ths (by omega) fun l hl => (hst l hl).1) (fun hv => ⟨(validB_ok hv).2.1, (validB_ok hv).2.2.1⟩)
  have e : ((classesB ths : Nat) : Int) = (if validB ths = true then ((visB ths 13 (List.replicate ths.length 0) [] fun _ => false).length : Int) else 0) := by
    unfold classesB visA
    split <;> rfl
  rw [e]
  exact h
set_option maxHeartbeats 8000000 in
set_option maxRecDepth 100000 in
theorem sleepDep_ok (ths : List (List St)) (e : Ex) (ht : 0 ≤ e.t ∧ e.t < 256) (hi : 0 ≤ e.i ∧ e.i < 256) : PureC Try.prog 8 [.p (thsP ths), exA2 e] (.bool true) := by
  have haw := awake_ok
  have hfw := few_ok ths
  have hm1 : 1 ≤ maxLen := by decide
  cases hf : fewB ths with
  | false =>
    rw [hf] at hfw
    simp only [thsP, exA2, exC2, tcC, List.map_cons, List.map_nil, List.cons_append, List.nil_append] at hfw ⊢
    refine PureC.of Try.func8 rfl 138 rfl (by decide) (by simp [AV.okB]) ?_
    repeat' (first | refine T.seqK fun K hK => ?_ | refine T.block ?_ | (refine T.reg (by kernel_rfl) fun K' hK' => ?_; simp only [startSt, frOf, List.map_cons, List.map_nil]; (repeat' (first | (with_reducible refine WL.fin ?_; refine hK' _ ?_; clear hK' K') | (with_reducible refine WD.fin ?_) | ((first | (with_reducible refine WL.step fun K2 hK2 => ?_) | (with_reducible refine WD.step fun K2 hK2 => ?_)); simp only [WS, WH, WO, WOv, WG, dstOk, hasDst, aop, ASt.ev, aload, aloadC, afield, aindex, abin, abinI, aun, alen, acells, Nat.reduceEqDiff, Nat.reduceLT, Nat.reduceLeDiff, Nat.reduceAdd, reduceIte, reduceCtorEq, implies_true, ASt.add, setHp, asplice, Int.reduceEq, Int.reduceNe, Int.reduceLT, Int.reduceLE, Int.reduceSub, Int.reduceAdd, abuild, afill, abuildS, pureL, chunks, List.range, List.range.loop, Nat.reduceMul, Nat.reduceMod, apartF, apartI, aslice, evI, ASt.subst, AO.box, aval, pvals, ams, tys, mapTy_69, keyed_3]; (repeat' (first | (with_reducible refine hK2 _ ?_; clear hK2 K2) | (with_reducible refine And.intro ?_ ?_) | (with_reducible intro hb) | ((first | (with_reducible apply callArmO) | (with_reducible apply callArm)); case h => exact CallV.plain (Ent.of Try.func9 (by kernel_rfl) rfl) (haw) (by simp [AV.okB])) | ((first | (with_reducible apply callArmO) | (with_reducible apply callArm)); case h => exact CallV.plain (Ent.of Try.func10 (by kernel_rfl) rfl) (hfw) (by simp [AV.okB])))))))) | refine T.skip ?_ | refine T.exit ?_ | refine T.condT rfl ?_ | refine T.condF rfl ?_ | refine T.cond rfl (fun hc => ?_) (fun hc => ?_) | refine T.ret ?_ | simp only [ThenA, InBlock, reduceIte, Nat.reduceEqDiff] | ((repeat ((fail_if_success (refine hK _ ?_)); clear hK K)); refine hK _ ?_; clear hK K))
    refine FinA.ret (.inr rfl) Try.results8 ?_; simp only [ares, aresL, ares1, WS, WH, WO, WOv, WG, dstOk, hasDst, aop, ASt.ev, aload, aloadC, afield, aindex, abin, abinI, aun, alen, acells, Nat.reduceEqDiff, Nat.reduceLT, Nat.reduceLeDiff, Nat.reduceAdd, reduceIte, reduceCtorEq, implies_true, ASt.add, setHp, asplice, Int.reduceEq, Int.reduceNe, Int.reduceLT, Int.reduceLE, Int.reduceSub, Int.reduceAdd, abuild, afill, abuildS, pureL, chunks, List.range, List.range.loop, Nat.reduceMul, Nat.reduceMod, apartF, apartI, aslice, evI, ASt.subst, AO.box, aval, pvals, ams, tys, mapTy_69, keyed_3, ]
  | true =>
    rw [hf] at hfw
    have hsm := small_ok ths hf
    have hrv := rvalid_at ths hf
    cases hs : smallB ths with
    | false =>
      rw [hs] at hsm
      simp only [thsP, exA2, exC2, tcC, List.map_cons, List.map_nil, List.cons_append, List.nil_append] at hfw hsm ⊢
      refine PureC.of Try.func8 rfl 138 rfl (by decide) (by simp [AV.okB]) ?_
      repeat' (first | refine T.seqK fun K hK => ?_ | refine T.block ?_ | (refine T.reg (by kernel_rfl) fun K' hK' => ?_; simp only [startSt, frOf, List.map_cons, List.map_nil]; (repeat' (first | (with_reducible refine WL.fin ?_; refine hK' _ ?_; clear hK' K') | (with_reducible refine WD.fin ?_) | ((first | (with_reducible refine WL.step fun K2 hK2 => ?_) | (with_reducible refine WD.step fun K2 hK2 => ?_)); simp only [WS, WH, WO, WOv, WG, dstOk, hasDst, aop, ASt.ev, aload, aloadC, afield, aindex, abin, abinI, aun, alen, acells, Nat.reduceEqDiff, Nat.reduceLT, Nat.reduceLeDiff, Nat.reduceAdd, reduceIte, reduceCtorEq, implies_true, ASt.add, setHp, asplice, Int.reduceEq, Int.reduceNe, Int.reduceLT, Int.reduceLE, Int.reduceSub, Int.reduceAdd, abuild, afill, abuildS, pureL, chunks, List.range, List.range.loop, Nat.reduceMul, Nat.reduceMod, apartF, apartI, aslice, evI, ASt.subst, AO.box, aval, pvals, ams, tys, mapTy_69, keyed_3]; (repeat' (first | (with_reducible refine hK2 _ ?_; clear hK2 K2) | (with_reducible refine And.intro ?_ ?_) | (with_reducible intro hb) | ((first | (with_reducible apply callArmO) | (with_reducible apply callArm)); case h => exact CallV.plain (Ent.of Try.func9 (by kernel_rfl) rfl) (haw) (by simp [AV.okB])) | ((first | (with_reducible apply callArmO) | (with_reducible apply callArm)); case h => exact CallV.plain (Ent.of Try.func10 (by kernel_rfl) rfl) (hfw) (by simp [AV.okB])) | ((first | (with_reducible apply callArmO) | (with_reducible apply callArm)); case h => exact CallV.plain (Ent.of Try.func15 (by kernel_rfl) rfl) (hsm) (by simp [AV.okB])))))))) | refine T.skip ?_ | refine T.exit ?_ | refine T.condT rfl ?_ | refine T.condF rfl ?_ | refine T.cond rfl (fun hc => ?_) (fun hc => ?_) | refine T.ret ?_ | simp only [ThenA, InBlock, reduceIte, Nat.reduceEqDiff] | ((repeat ((fail_if_success (refine hK _ ?_)); clear hK K)); refine hK _ ?_; clear hK K))
      refine FinA.ret (.inr rfl) Try.results8 ?_; simp only [ares, aresL, ares1, WS, WH, WO, WOv, WG, dstOk, hasDst, aop, ASt.ev, aload, aloadC, afield, aindex, abin, abinI, aun, alen, acells, Nat.reduceEqDiff, Nat.reduceLT, Nat.reduceLeDiff, Nat.reduceAdd, reduceIte, reduceCtorEq, implies_true, ASt.add, setHp, asplice, Int.reduceEq, Int.reduceNe, Int.reduceLT, Int.reduceLE, Int.reduceSub, Int.reduceAdd, abuild, afill, abuildS, pureL, chunks, List.range, List.range.loop, Nat.reduceMul, Nat.reduceMod, apartF, apartI, aslice, evI, ASt.subst, AO.box, aval, pvals, ams, tys, mapTy_69, keyed_3, ]
    | true =>
      rw [hs] at hsm
      cases hv : validB ths with
      | false =>
        rw [hv] at hrv
        simp only [thsP, exA2, exC2, tcC, List.map_cons, List.map_nil, List.cons_append, List.nil_append] at hfw hsm hrv ⊢
        refine PureC.of Try.func8 rfl 138 rfl (by decide) (by simp [AV.okB]) ?_
        repeat' (first | refine T.seqK fun K hK => ?_ | refine T.block ?_ | (refine T.reg (by kernel_rfl) fun K' hK' => ?_; simp only [startSt, frOf, List.map_cons, List.map_nil]; (repeat' (first | (with_reducible refine WL.fin ?_; refine hK' _ ?_; clear hK' K') | (with_reducible refine WD.fin ?_) | ((first | (with_reducible refine WL.step fun K2 hK2 => ?_) | (with_reducible refine WD.step fun K2 hK2 => ?_)); simp only [WS, WH, WO, WOv, WG, dstOk, hasDst, aop, ASt.ev, aload, aloadC, afield, aindex, abin, abinI, aun, alen, acells, Nat.reduceEqDiff, Nat.reduceLT, Nat.reduceLeDiff, Nat.reduceAdd, reduceIte, reduceCtorEq, implies_true, ASt.add, setHp, asplice, Int.reduceEq, Int.reduceNe, Int.reduceLT, Int.reduceLE, Int.reduceSub, Int.reduceAdd, abuild, afill, abuildS, pureL, chunks, List.range, List.range.loop, Nat.reduceMul, Nat.reduceMod, apartF, apartI, aslice, evI, ASt.subst, AO.box, aval, pvals, ams, tys, mapTy_69, keyed_3]; (repeat' (first | (with_reducible refine hK2 _ ?_; clear hK2 K2) | (with_reducible refine And.intro ?_ ?_) | (with_reducible intro hb) | ((first | (with_reducible apply callArmO) | (with_reducible apply callArm)); case h => exact CallV.plain (Ent.of Try.func9 (by kernel_rfl) rfl) (haw) (by simp [AV.okB])) | ((first | (with_reducible apply callArmO) | (with_reducible apply callArm)); case h => exact CallV.plain (Ent.of Try.func10 (by kernel_rfl) rfl) (hfw) (by simp [AV.okB])) | ((first | (with_reducible apply callArmO) | (with_reducible apply callArm)); case h => exact CallV.plain (Ent.of Try.func15 (by kernel_rfl) rfl) (hsm) (by simp [AV.okB])) | ((first | (with_reducible apply callArmO) | (with_reducible apply callArm)); case h => exact CallV.plain (Ent.of Try.func11 (by kernel_rfl) rfl) (hrv) (by simp [AV.okB])))))))) | refine T.skip ?_ | refine T.exit ?_ | refine T.condT rfl ?_ | refine T.condF rfl ?_ | refine T.cond rfl (fun hc => ?_) (fun hc => ?_) | refine T.ret ?_ | simp only [ThenA, InBlock, reduceIte, Nat.reduceEqDiff] | ((repeat ((fail_if_success (refine hK _ ?_)); clear hK K)); refine hK _ ?_; clear hK K))
        refine FinA.ret (.inr rfl) Try.results8 ?_; simp only [ares, aresL, ares1, WS, WH, WO, WOv, WG, dstOk, hasDst, aop, ASt.ev, aload, aloadC, afield, aindex, abin, abinI, aun, alen, acells, Nat.reduceEqDiff, Nat.reduceLT, Nat.reduceLeDiff, Nat.reduceAdd, reduceIte, reduceCtorEq, implies_true, ASt.add, setHp, asplice, Int.reduceEq, Int.reduceNe, Int.reduceLT, Int.reduceLE, Int.reduceSub, Int.reduceAdd, abuild, afill, abuildS, pureL, chunks, List.range, List.range.loop, Nat.reduceMul, Nat.reduceMod, apartF, apartI, aslice, evI, ASt.subst, AO.box, aval, pvals, ams, tys, mapTy_69, keyed_3, ]
      | true =>
        rw [hv] at hrv
        obtain ⟨hfl, hfs⟩ := fewB_ok hf
        have h12 : totB ths ≤ 12 := by have := (validB_ok hv).2.2.1; rwa [rem_zero] at this
        simp only [thsP, exA2, exC2, tcC, List.map_cons, List.map_nil, List.cons_append, List.nil_append] at hfw hsm hrv ⊢
        refine PureC.of Try.func8 rfl 138 rfl (by decide) (by simp [AV.okB]) ?_
        repeat' (first | refine T.seqK fun K hK => ?_ | refine T.block ?_ | (refine T.reg (by kernel_rfl) fun K' hK' => ?_; simp only [startSt, frOf, List.map_cons, List.map_nil]; (repeat' (first | (with_reducible refine WL.fin ?_; refine hK' _ ?_; clear hK' K') | (with_reducible refine WD.fin ?_) | ((first | (with_reducible refine WL.step fun K2 hK2 => ?_) | (with_reducible refine WD.step fun K2 hK2 => ?_)); simp only [WS, WH, WO, WOv, WG, dstOk, hasDst, aop, ASt.ev, aload, aloadC, afield, aindex, abin, abinI, aun, alen, acells, Nat.reduceEqDiff, Nat.reduceLT, Nat.reduceLeDiff, Nat.reduceAdd, reduceIte, reduceCtorEq, implies_true, ASt.add, setHp, asplice, Int.reduceEq, Int.reduceNe, Int.reduceLT, Int.reduceLE, Int.reduceSub, Int.reduceAdd, abuild, afill, abuildS, pureL, chunks, List.range, List.range.loop, Nat.reduceMul, Nat.reduceMod, apartF, apartI, aslice, evI, ASt.subst, AO.box, aval, pvals, ams, tys, mapTy_69, keyed_3]; (repeat' (first | (with_reducible refine hK2 _ ?_; clear hK2 K2) | (with_reducible refine And.intro ?_ ?_) | (with_reducible intro hb) | ((first | (with_reducible apply callArmO) | (with_reducible apply callArm)); case h => exact CallV.plain (Ent.of Try.func9 (by kernel_rfl) rfl) (haw) (by simp [AV.okB])) | ((first | (with_reducible apply callArmO) | (with_reducible apply callArm)); case h => exact CallV.plain (Ent.of Try.func10 (by kernel_rfl) rfl) (hfw) (by simp [AV.okB])) | ((first | (with_reducible apply callArmO) | (with_reducible apply callArm)); case h => exact CallV.plain (Ent.of Try.func15 (by kernel_rfl) rfl) (hsm) (by simp [AV.okB])) | ((first | (with_reducible apply callArmO) | (with_reducible apply callArm)); case h => exact CallV.plain (Ent.of Try.func11 (by kernel_rfl) rfl) (hrv) (by simp [AV.okB])))))))) | refine T.skip ?_ | refine T.exit ?_ | refine T.condT rfl ?_ | refine T.condF rfl ?_ | refine T.cond rfl (fun hc => ?_) (fun hc => ?_) | refine T.ret ?_ | simp only [ThenA, InBlock, reduceIte, Nat.reduceEqDiff] | ((repeat ((fail_if_success (refine hK _ ?_)); clear hK K)); refine hK _ ?_; clear hK K))
        have hwt : IntKind.i64.wrap e.t = e.t := wrap_ok (by omega) (by omega)
        have hwi : IntKind.i64.wrap e.i = e.i := wrap_ok (by omega) (by omega)
        refine T.weak (Weak.newrow _ 5 30 1 (show 5 < 138 by decide) rfl) ?_; simp only [ASt.add, put_some, Nat.reduceAdd]
        refine T.weak (Weak.newrow _ 6 30 1 (show 6 < 138 by decide) rfl) ?_; simp only [ASt.add, put_some, Nat.reduceAdd]
        refine T.weak (Weak.newrow _ 7 30 1 (show 7 < 138 by decide) rfl) ?_; simp only [ASt.add, put_some, Nat.reduceAdd]
        refine T.loopK (fun a : Nat => ⟨[(0, .p (thsP ths)), (3, .ptr 0 0), (5, .own 1), (6, .own 2), (7, .own 3), (8, .int (mulN (lensB (ths.take a)))), (9, .int (totB (ths.take a))), (10, .int a)], [(3, .row 30 1 (rowsT (moreS e.t e.i e.x) (ths.take a))), (2, .row 30 1 (rowsT boundS (ths.take a))), (1, .row 30 1 (rowsT freeS (ths.take a))), (0, .boxP none 42 ((exC2 e).map .p))], 138, 4⟩)
          (fun a => a ≤ ths.length) (fun a => ths.length - a) 0 (Nat.zero_le _) ?_ ?_
        · refine Weak.of' rfl ?_; simp only [wks, reduceIte, Nat.reduceEqDiff, ASt.okB, AV.okB, Nat.reduceLT, implies_true, Int.natCast_zero, totB, lensB, List.take_zero, List.map_nil, List.sum_nil, thsP, mul_nil, rowsT, exC2, tcC, List.map_cons, List.cons_append, List.nil_append, show ((1 : Nat) : Int) = 1 from rfl]
        rintro a ha KL hKL
        simp only [thsP, exC2, tcC, List.map_cons, List.map_nil, List.cons_append, List.nil_append]
        by_cases hlt : a < ths.length
        · obtain ⟨l, hx⟩ := at_lt hlt
          have hd : decide ((a : Int) < (ths.length : Int)) = true := by simpa using hlt
          have hta := tot_at h12 hx
          repeat' (first | refine T.seqK fun K hK => ?_ | refine T.block ?_ | (refine T.reg (by kernel_rfl) fun K' hK' => ?_; simp only [startSt, frOf, List.map_cons, List.map_nil]; (repeat' (first | (with_reducible refine WL.fin ?_; refine hK' _ ?_; clear hK' K') | (with_reducible refine WD.fin ?_) | ((first | (with_reducible refine WL.step fun K2 hK2 => ?_) | (with_reducible refine WD.step fun K2 hK2 => ?_)); simp only [WS, WH, WO, WOv, WG, dstOk, hasDst, aop, ASt.ev, aload, aloadC, afield, aindex, abin, abinI, aun, alen, acells, Nat.reduceEqDiff, Nat.reduceLT, Nat.reduceLeDiff, Nat.reduceAdd, reduceIte, reduceCtorEq, implies_true, ASt.add, setHp, asplice, Int.reduceEq, Int.reduceNe, Int.reduceLT, Int.reduceLE, Int.reduceSub, Int.reduceAdd, abuild, afill, abuildS, pureL, chunks, List.range, List.range.loop, Nat.reduceMul, Nat.reduceMod, apartF, apartI, aslice, evI, ASt.subst, AO.box, aval, pvals, ams, tys, mapTy_69, keyed_3, hx, hd, thP]; (repeat' (first | (with_reducible refine hK2 _ ?_; clear hK2 K2) | (with_reducible refine And.intro ?_ ?_) | (with_reducible intro hb) | fail)))))) | refine T.skip ?_ | refine T.exit ?_ | refine T.condT rfl ?_ | refine T.condF rfl ?_ | refine T.cond rfl (fun hc => ?_) (fun hc => ?_) | refine T.ret ?_ | simp only [ThenA, InBlock, reduceIte, Nat.reduceEqDiff] | ((repeat ((fail_if_success (refine hK _ ?_)); clear hK K)); refine hK _ ?_; clear hK K))
          refine T.weak (Weak.newrow _ 11 48 4 (show 11 < 138 by decide) rfl) ?_; simp only [ASt.add, put_some, Nat.reduceAdd]
          refine T.weak (Weak.newrow _ 12 48 4 (show 12 < 138 by decide) rfl) ?_; simp only [ASt.add, put_some, Nat.reduceAdd]
          refine T.weak (Weak.newrow _ 13 48 4 (show 13 < 138 by decide) rfl) ?_; simp only [ASt.add, put_some, Nat.reduceAdd]
          refine T.loopK (fun k : Nat => ⟨[(0, .p (thsP ths)), (3, .ptr 0 0), (5, .own 1), (6, .own 2), (7, .own 3), (8, .int (mulN (lensB (ths.take a) ++ [k]))), (9, .int ((totB (ths.take a) + k : Nat) : Int)), (10, .int a), (11, .own 4), (12, .own 5), (13, .own 6), (14, .int k)],
            [(6, .row 48 4 (((l.take k).map (moreS e.t e.i e.x)).map stC)), (5, .row 48 4 (((l.take k).map boundS).map stC)), (4, .row 48 4 (((l.take k).map freeS).map stC)), (3, .row 30 1 (rowsT (moreS e.t e.i e.x) (ths.take a))), (2, .row 30 1 (rowsT boundS (ths.take a))), (1, .row 30 1 (rowsT freeS (ths.take a))), (0, .boxP none 42 ((exC2 e).map .p))], 138, 7⟩)
            (fun k => k ≤ l.length) (fun k => l.length - k) 0 (Nat.zero_le _) ?_ ?_
          · refine Weak.of' rfl ?_; simp only [wks, reduceIte, Nat.reduceEqDiff, ASt.okB, AV.okB, Nat.reduceLT, implies_true, Int.natCast_zero, Nat.add_zero, List.take_zero, List.map_nil, thsP, thP, mul_zero_end, rowsT, exC2, tcC, List.map_cons, List.cons_append, List.nil_append]
          rintro k hk KJ hKJ
          simp only [thsP, exC2, tcC, List.map_cons, List.map_nil, List.cons_append, List.nil_append]
          by_cases hkl : k < l.length
          · obtain ⟨s, hsx⟩ := at_lt hkl
            have hd2 : decide ((k : Int) < (l.length : Int)) = true := by simpa using hkl
            obtain ⟨m1, m2, m3, m4, m5, m6⟩ := mul_round (a := lensB (ths.take a)) (k := k) (n := totB (ths.take a)) rfl (by omega)
            have htk : l.take (k + 1) = l.take k ++ [s] := by rw [List.take_add_one, hsx]; rfl
            obtain ⟨pre, hpre⟩ : ∃ pre, pre = l.take k := ⟨_, rfl⟩
            have hpl : pre.length = k := by rw [hpre]; simp; omega
            rw [← hpre] at htk ⊢
            have ho1 : pre.length + 1 ≤ maxLen := by unfold maxLen; omega
            have ho2 : (pre.length + 1) * 64 ≤ 140737488355328 := by omega
            obtain ⟨sg, sc, sgs⟩ := (validB_ok hv).2.2.2 a l hx k s hsx
            have hrle : Rle [.val (.int .i64 s.g), .val (.int .i64 s.c), gsP s.gs, .val (.slice none 0 0)] (stC (freeS s)) := .cons (.refl _) (.cons (.refl _) (.cons (.refl _) (.cons (PVle.nil 4) .nil)))
            by_cases hT : (a : Int) = e.t
            · have hTb : ((a : Int) == e.t) = true := by simp [hT]
              by_cases hI : (k : Int) = e.i
              · have hIb : ((k : Int) == e.i) = true := by simp [hI]
                have hms : moreS e.t e.i e.x s = { s with ts := s.ts ++ [e.x] } := by unfold moreS; rw [if_pos ⟨by rw [sg, hT], by rw [sc, hI]⟩]
                have htl := ((hfs l (List.mem_of_getElem? hx)).2 s (List.mem_of_getElem? hsx)).2
                have ho3 : s.ts.length + 1 ≤ maxLen := by unfold maxLen; omega
                have ho6 : s.ts.length ≤ maxLen := by unfold maxLen; omega
                have ho4 : s.ts.length * 32 ≤ 140737488355328 := by omega
                have ho5 : (s.ts.length + 1) * 32 ≤ 140737488355328 := by omega
                repeat' (first | refine T.seqK fun K hK => ?_ | refine T.block ?_ | (refine T.reg (by kernel_rfl) fun K' hK' => ?_; simp only [startSt, frOf, List.map_cons, List.map_nil]; (repeat' (first | (with_reducible refine WL.fin ?_; refine hK' _ ?_; clear hK' K') | (with_reducible refine WD.fin ?_) | ((first | (with_reducible refine WL.step fun K2 hK2 => ?_) | (with_reducible refine WD.step fun K2 hK2 => ?_)); simp only [WS, WH, WO, WOv, WG, dstOk, hasDst, aop, ASt.ev, aload, aloadC, afield, aindex, abin, abinI, aun, alen, acells, Nat.reduceEqDiff, Nat.reduceLT, Nat.reduceLeDiff, Nat.reduceAdd, reduceIte, reduceCtorEq, implies_true, ASt.add, setHp, asplice, Int.reduceEq, Int.reduceNe, Int.reduceLT, Int.reduceLE, Int.reduceSub, Int.reduceAdd, abuild, afill, abuildS, pureL, chunks, List.range, List.range.loop, Nat.reduceMul, Nat.reduceMod, apartF, apartI, aslice, evI, ASt.subst, AO.box, aval, pvals, ams, tys, mapTy_69, keyed_3, hx, hsx, hd2, thP, stC, hm1, ho1, ho2, hwt, hwi, hTb, hIb, Option.isSome_some]; (repeat' (first | (with_reducible refine hK2 _ ?_; clear hK2 K2) | (with_reducible refine And.intro ?_ ?_) | (with_reducible intro hb) | fail)))))) | refine T.skip ?_ | refine T.exit ?_ | refine T.condT rfl ?_ | refine T.condF rfl ?_ | refine T.cond rfl (fun hc => ?_) (fun hc => ?_) | refine T.ret ?_ | simp only [ThenA, InBlock, reduceIte, Nat.reduceEqDiff] | ((repeat ((fail_if_success (refine hK _ ?_)); clear hK K)); refine hK _ ?_; clear hK K))
                refine T.comm [none, some (0, 3), some (0, 1), none, some (0, 3), some (0, 3), some (0, 2), none, some (3, 3), none] (by kernel_rfl) (by kernel_rfl) fun K' hK' => ?_; simp only [List.map_cons, List.map_nil, List.zip_cons_cons, List.zip_nil_left]; (repeat' (first | (with_reducible refine WC.fin ?_; refine hK' _ ?_; clear hK' K') | ((first | (with_reducible refine WC.stepV fun K2 hK2 => ?_) | (with_reducible refine WC.stepW fun K2 hK2 => ?_)); simp only [WS, WH, WO, WOv, WG, dstOk, hasDst, aop, ASt.ev, aload, aloadC, afield, aindex, abin, abinI, aun, alen, acells, Nat.reduceEqDiff, Nat.reduceLT, Nat.reduceLeDiff, Nat.reduceAdd, reduceIte, reduceCtorEq, implies_true, ASt.add, setHp, asplice, Int.reduceEq, Int.reduceNe, Int.reduceLT, Int.reduceLE, Int.reduceSub, Int.reduceAdd, abuild, afill, abuildS, pureL, chunks, List.range, List.range.loop, Nat.reduceMul, Nat.reduceMod, apartF, apartI, aslice, evI, ASt.subst, AO.box, aval, pvals, ams, WCg, WCv, WOw, allP, dav, Chk, List.filter_cons, List.filter_nil, bne_self_eq_false, Nat.reduceBneDiff, Bool.false_eq_true, tys, mapTy_69, keyed_3, tsP, tcC, ho3, ho4, ho5, ho6, hm1]; (repeat' (first | (with_reducible refine hK2 _ _ ?_; clear hK2 K2) | (with_reducible refine hK2 _ ?_; clear hK2 K2) | (with_reducible refine And.intro ?_ ?_) | (with_reducible intro hb) | (with_reducible rfl) | ((with_reducible show @Eq ASt _ _); rfl) | fail))))); all_goals ((try simp only [ThenA, InBlock, reduceIte, Nat.reduceEqDiff]); (try ((repeat ((fail_if_success (refine hK _ ?_)); clear hK K)); refine hK _ ?_; clear hK K)))
                refine T.weak (Weak.frz _ 10) ?_; simp only [ASt.frz, List.filter_cons, List.filter_nil, bne_self_eq_false, Nat.reduceBneDiff, Bool.false_eq_true, WS, WH, WO, WOv, WG, dstOk, hasDst, aop, ASt.ev, aload, aloadC, afield, aindex, abin, abinI, aun, alen, acells, Nat.reduceEqDiff, Nat.reduceLT, Nat.reduceLeDiff, Nat.reduceAdd, reduceIte, reduceCtorEq, implies_true, ASt.add, setHp, asplice, Int.reduceEq, Int.reduceNe, Int.reduceLT, Int.reduceLE, Int.reduceSub, Int.reduceAdd, abuild, afill, abuildS, pureL, chunks, List.range, List.range.loop, Nat.reduceMul, Nat.reduceMod, apartF, apartI, aslice, evI, ASt.subst, AO.box, aval, pvals, ams, ]
                repeat' (first | refine T.seqK fun K hK => ?_ | refine T.block ?_ | (refine T.reg (by kernel_rfl) fun K' hK' => ?_; simp only [startSt, frOf, List.map_cons, List.map_nil]; (repeat' (first | (with_reducible refine WL.fin ?_; refine hK' _ ?_; clear hK' K') | (with_reducible refine WD.fin ?_) | ((first | (with_reducible refine WL.step fun K2 hK2 => ?_) | (with_reducible refine WD.step fun K2 hK2 => ?_)); simp only [WS, WH, WO, WOv, WG, dstOk, hasDst, aop, ASt.ev, aload, aloadC, afield, aindex, abin, abinI, aun, alen, acells, Nat.reduceEqDiff, Nat.reduceLT, Nat.reduceLeDiff, Nat.reduceAdd, reduceIte, reduceCtorEq, implies_true, ASt.add, setHp, asplice, Int.reduceEq, Int.reduceNe, Int.reduceLT, Int.reduceLE, Int.reduceSub, Int.reduceAdd, abuild, afill, abuildS, pureL, chunks, List.range, List.range.loop, Nat.reduceMul, Nat.reduceMod, apartF, apartI, aslice, evI, ASt.subst, AO.box, aval, pvals, ams, tys, mapTy_69, keyed_3, ho1, ho2, hm1, m1, m2, m3, m4, m5, m6]; (repeat' (first | (with_reducible refine hK2 _ ?_; clear hK2 K2) | (with_reducible refine And.intro ?_ ?_) | (with_reducible intro hb) | fail)))))) | refine T.skip ?_ | refine T.exit ?_ | refine T.condT rfl ?_ | refine T.condF rfl ?_ | refine T.cond rfl (fun hc => ?_) (fun hc => ?_) | refine T.ret ?_ | simp only [ThenA, InBlock, reduceIte, Nat.reduceEqDiff] | ((repeat ((fail_if_success (refine hK _ ?_)); clear hK K)); refine hK _ ?_; clear hK K))
                exact hKJ _ (k + 1) ((Weak.rowle _ 4 48 4 _ _ (stC (freeS s)) rfl hrle).trans (by rw [htk]; refine Weak.of' rfl ?_; simp only [wks, reduceIte, Nat.reduceEqDiff, ASt.okB, AV.okB, Nat.reduceLT, implies_true, thsP, thP, rowsT, exC2, List.map_append, List.map_cons, List.map_nil, List.cons_append, List.nil_append, stC, boundS, freeS, tsP, outT, tcC, setHp, hms, Nat.add_assoc])) (by omega) (by omega)
              · have hIb : ((k : Int) == e.i) = false := by simp [hI]
                have hms : moreS e.t e.i e.x s = s := by unfold moreS; rw [if_neg fun h => hI (by rw [← sc, h.2])]
                repeat' (first | refine T.seqK fun K hK => ?_ | refine T.block ?_ | (refine T.reg (by kernel_rfl) fun K' hK' => ?_; simp only [startSt, frOf, List.map_cons, List.map_nil]; (repeat' (first | (with_reducible refine WL.fin ?_; refine hK' _ ?_; clear hK' K') | (with_reducible refine WD.fin ?_) | ((first | (with_reducible refine WL.step fun K2 hK2 => ?_) | (with_reducible refine WD.step fun K2 hK2 => ?_)); simp only [WS, WH, WO, WOv, WG, dstOk, hasDst, aop, ASt.ev, aload, aloadC, afield, aindex, abin, abinI, aun, alen, acells, Nat.reduceEqDiff, Nat.reduceLT, Nat.reduceLeDiff, Nat.reduceAdd, reduceIte, reduceCtorEq, implies_true, ASt.add, setHp, asplice, Int.reduceEq, Int.reduceNe, Int.reduceLT, Int.reduceLE, Int.reduceSub, Int.reduceAdd, abuild, afill, abuildS, pureL, chunks, List.range, List.range.loop, Nat.reduceMul, Nat.reduceMod, apartF, apartI, aslice, evI, ASt.subst, AO.box, aval, pvals, ams, tys, mapTy_69, keyed_3, hx, hsx, hd2, thP, stC, hm1, ho1, ho2, hwt, hwi, hTb, hIb, Option.isSome_some, m1, m2, m3, m4, m5, m6]; (repeat' (first | (with_reducible refine hK2 _ ?_; clear hK2 K2) | (with_reducible refine And.intro ?_ ?_) | (with_reducible intro hb) | fail)))))) | refine T.skip ?_ | refine T.exit ?_ | refine T.condT rfl ?_ | refine T.condF rfl ?_ | refine T.cond rfl (fun hc => ?_) (fun hc => ?_) | refine T.ret ?_ | simp only [ThenA, InBlock, reduceIte, Nat.reduceEqDiff] | ((repeat ((fail_if_success (refine hK _ ?_)); clear hK K)); refine hK _ ?_; clear hK K))
                exact hKJ _ (k + 1) ((Weak.rowle _ 4 48 4 _ _ (stC (freeS s)) rfl hrle).trans (by rw [htk]; refine Weak.of' rfl ?_; simp only [wks, reduceIte, Nat.reduceEqDiff, ASt.okB, AV.okB, Nat.reduceLT, implies_true, thsP, thP, rowsT, exC2, List.map_append, List.map_cons, List.map_nil, List.cons_append, List.nil_append, stC, boundS, freeS, tsP, outT, tcC, setHp, hms, Nat.add_assoc])) (by omega) (by omega)
            · have hTb : ((a : Int) == e.t) = false := by simp [hT]
              have hms : moreS e.t e.i e.x s = s := by unfold moreS; rw [if_neg fun h => hT (by rw [← sg, h.1])]
              repeat' (first | refine T.seqK fun K hK => ?_ | refine T.block ?_ | (refine T.reg (by kernel_rfl) fun K' hK' => ?_; simp only [startSt, frOf, List.map_cons, List.map_nil]; (repeat' (first | (with_reducible refine WL.fin ?_; refine hK' _ ?_; clear hK' K') | (with_reducible refine WD.fin ?_) | ((first | (with_reducible refine WL.step fun K2 hK2 => ?_) | (with_reducible refine WD.step fun K2 hK2 => ?_)); simp only [WS, WH, WO, WOv, WG, dstOk, hasDst, aop, ASt.ev, aload, aloadC, afield, aindex, abin, abinI, aun, alen, acells, Nat.reduceEqDiff, Nat.reduceLT, Nat.reduceLeDiff, Nat.reduceAdd, reduceIte, reduceCtorEq, implies_true, ASt.add, setHp, asplice, Int.reduceEq, Int.reduceNe, Int.reduceLT, Int.reduceLE, Int.reduceSub, Int.reduceAdd, abuild, afill, abuildS, pureL, chunks, List.range, List.range.loop, Nat.reduceMul, Nat.reduceMod, apartF, apartI, aslice, evI, ASt.subst, AO.box, aval, pvals, ams, tys, mapTy_69, keyed_3, hx, hsx, hd2, thP, stC, hm1, ho1, ho2, hwt, hwi, hTb, Option.isSome_some, m1, m2, m3, m4, m5, m6]; (repeat' (first | (with_reducible refine hK2 _ ?_; clear hK2 K2) | (with_reducible refine And.intro ?_ ?_) | (with_reducible intro hb) | fail)))))) | refine T.skip ?_ | refine T.exit ?_ | refine T.condT rfl ?_ | refine T.condF rfl ?_ | refine T.cond rfl (fun hc => ?_) (fun hc => ?_) | refine T.ret ?_ | simp only [ThenA, InBlock, reduceIte, Nat.reduceEqDiff] | ((repeat ((fail_if_success (refine hK _ ?_)); clear hK K)); refine hK _ ?_; clear hK K))
              exact hKJ _ (k + 1) ((Weak.rowle _ 4 48 4 _ _ (stC (freeS s)) rfl hrle).trans (by rw [htk]; refine Weak.of' rfl ?_; simp only [wks, reduceIte, Nat.reduceEqDiff, ASt.okB, AV.okB, Nat.reduceLT, implies_true, thsP, thP, rowsT, exC2, List.map_append, List.map_cons, List.map_nil, List.cons_append, List.nil_append, stC, boundS, freeS, tsP, outT, tcC, setHp, hms, Nat.add_assoc])) (by omega) (by omega)
          · have hd2 : decide ((k : Int) < (l.length : Int)) = false := by simpa using hkl
            obtain rfl : k = l.length := by omega
            clear hKJ
            rw [List.take_length]
            have ho1 : (rowsT freeS (ths.take a)).length + 1 ≤ maxLen := by simp only [rowsT, List.length_map, List.length_take]; unfold maxLen; omega
            have ho2 : ((rowsT freeS (ths.take a)).length + 1) * 24 ≤ 140737488355328 := by simp only [rowsT, List.length_map, List.length_take]; omega
            have hrl : ∀ φ, (rowsT φ (ths.take a)).length = (rowsT freeS (ths.take a)).length := fun φ => by simp only [rowsT, List.length_map]
            have htk : ths.take (a + 1) = ths.take a ++ [l] := by rw [List.take_add_one, hx]; rfl
            have htt := tot_drop hx
            have hlt2 := lens_take hx
            refine T.weak (Weak.frz _ 4) ?_; simp only [ASt.frz, List.filter_cons, List.filter_nil, bne_self_eq_false, Nat.reduceBneDiff, Bool.false_eq_true, WS, WH, WO, WOv, WG, dstOk, hasDst, aop, ASt.ev, aload, aloadC, afield, aindex, abin, abinI, aun, alen, acells, Nat.reduceEqDiff, Nat.reduceLT, Nat.reduceLeDiff, Nat.reduceAdd, reduceIte, reduceCtorEq, implies_true, ASt.add, setHp, asplice, Int.reduceEq, Int.reduceNe, Int.reduceLT, Int.reduceLE, Int.reduceSub, Int.reduceAdd, abuild, afill, abuildS, pureL, chunks, List.range, List.range.loop, Nat.reduceMul, Nat.reduceMod, apartF, apartI, aslice, evI, ASt.subst, AO.box, aval, pvals, ams, ]
            refine T.weak (Weak.frz _ 5) ?_; simp only [ASt.frz, List.filter_cons, List.filter_nil, bne_self_eq_false, Nat.reduceBneDiff, Bool.false_eq_true, WS, WH, WO, WOv, WG, dstOk, hasDst, aop, ASt.ev, aload, aloadC, afield, aindex, abin, abinI, aun, alen, acells, Nat.reduceEqDiff, Nat.reduceLT, Nat.reduceLeDiff, Nat.reduceAdd, reduceIte, reduceCtorEq, implies_true, ASt.add, setHp, asplice, Int.reduceEq, Int.reduceNe, Int.reduceLT, Int.reduceLE, Int.reduceSub, Int.reduceAdd, abuild, afill, abuildS, pureL, chunks, List.range, List.range.loop, Nat.reduceMul, Nat.reduceMod, apartF, apartI, aslice, evI, ASt.subst, AO.box, aval, pvals, ams, ]
            refine T.weak (Weak.frz _ 6) ?_; simp only [ASt.frz, List.filter_cons, List.filter_nil, bne_self_eq_false, Nat.reduceBneDiff, Bool.false_eq_true, WS, WH, WO, WOv, WG, dstOk, hasDst, aop, ASt.ev, aload, aloadC, afield, aindex, abin, abinI, aun, alen, acells, Nat.reduceEqDiff, Nat.reduceLT, Nat.reduceLeDiff, Nat.reduceAdd, reduceIte, reduceCtorEq, implies_true, ASt.add, setHp, asplice, Int.reduceEq, Int.reduceNe, Int.reduceLT, Int.reduceLE, Int.reduceSub, Int.reduceAdd, abuild, afill, abuildS, pureL, chunks, List.range, List.range.loop, Nat.reduceMul, Nat.reduceMod, apartF, apartI, aslice, evI, ASt.subst, AO.box, aval, pvals, ams, ]
            repeat' (first | refine T.seqK fun K hK => ?_ | refine T.block ?_ | (refine T.reg (by kernel_rfl) fun K' hK' => ?_; simp only [startSt, frOf, List.map_cons, List.map_nil]; (repeat' (first | (with_reducible refine WL.fin ?_; refine hK' _ ?_; clear hK' K') | (with_reducible refine WD.fin ?_) | ((first | (with_reducible refine WL.step fun K2 hK2 => ?_) | (with_reducible refine WD.step fun K2 hK2 => ?_)); simp only [WS, WH, WO, WOv, WG, dstOk, hasDst, aop, ASt.ev, aload, aloadC, afield, aindex, abin, abinI, aun, alen, acells, Nat.reduceEqDiff, Nat.reduceLT, Nat.reduceLeDiff, Nat.reduceAdd, reduceIte, reduceCtorEq, implies_true, ASt.add, setHp, asplice, Int.reduceEq, Int.reduceNe, Int.reduceLT, Int.reduceLE, Int.reduceSub, Int.reduceAdd, abuild, afill, abuildS, pureL, chunks, List.range, List.range.loop, Nat.reduceMul, Nat.reduceMod, apartF, apartI, aslice, evI, ASt.subst, AO.box, aval, pvals, ams, tys, mapTy_69, keyed_3, hx, hd2, thP, hm1, ho1, ho2, hrl boundS, hrl (moreS e.t e.i e.x)]; (repeat' (first | (with_reducible refine hK2 _ ?_; clear hK2 K2) | (with_reducible refine And.intro ?_ ?_) | (with_reducible intro hb) | fail)))))) | refine T.skip ?_ | refine T.exit ?_ | refine T.condT rfl ?_ | refine T.condF rfl ?_ | refine T.cond rfl (fun hc => ?_) (fun hc => ?_) | refine T.ret ?_ | simp only [ThenA, InBlock, reduceIte, Nat.reduceEqDiff] | ((repeat ((fail_if_success (refine hK _ ?_)); clear hK K)); refine hK _ ?_; clear hK K))
            refine hKL _ (a + 1) ?_ (by omega) (by omega)
            rw [htt, hlt2, htk]
            refine Weak.of' rfl ?_; simp only [wks, reduceIte, Nat.reduceEqDiff, ASt.okB, AV.okB, Nat.reduceLT, implies_true, wrap_succ (show a < 1152921504606846976 by omega), thsP, thP, rowsT, exC2, tcC, List.map_append, List.map_cons, List.map_nil, List.cons_append, List.nil_append]
        · have hd : decide ((a : Int) < (ths.length : Int)) = false := by simpa using hlt
          obtain rfl : a = ths.length := by omega
          clear hKL
          rw [List.take_length]
          have hbn : ∀ φ : St → St, (∀ s : St, (φ s).gs = s.gs) → (∀ s : St, (φ s).ts.length ≤ s.ts.length + 1) → ∀ l ∈ mapT φ ths, l.length ≤ 1000 ∧ ∀ s ∈ l, StOk s := fun φ h1 h2 l hl => by
            obtain ⟨l', hl', rfl⟩ := List.mem_map.1 hl
            obtain ⟨g1, g2⟩ := hfs l' hl'
            refine ⟨by rw [List.length_map]; omega, fun s hs => ?_⟩
            obtain ⟨s', hs', rfl⟩ := List.mem_map.1 hs
            have g3 := g2 s' hs'
            have g4 := h2 s'
            exact ⟨by rw [h1]; omega, by omega⟩
          have hlm : ∀ φ, (mapT φ ths).length ≤ 100 := fun φ => by simp only [mapT, List.length_map]; omega
          have hrw : ∀ φ, thsP (mapT φ ths) = .seq 1 (rowsT φ ths) := fun φ => by simp [thsP, mapT, rowsT, Function.comp_def]
          have hcf := classes_b (mapT freeS ths) (hlm _) (hbn freeS (fun _ => rfl) (fun _ => by simp [freeS]))
          have hcb := classes_b (mapT boundS ths) (hlm _) (hbn boundS (fun _ => rfl) (fun _ => by simp [boundS]))
          have hcm := classes_b (mapT (moreS e.t e.i e.x) ths) (hlm _) (hbn _ (moreS_k _ _ _).gs (fun s => by unfold moreS; split <;> simp))
          have hct := classes_b ths (by omega) (few_st hf)
          rw [hrw, classes_free hv, show ((1 : Nat) : Int) = 1 from rfl] at hcf
          rw [hrw, classes_bound hv] at hcb
          rw [hrw] at hcm
          have hd3 : decide (((classesB ths : Nat) : Int) ≤ ((classesB (mapT (moreS e.t e.i e.x) ths) : Nat) : Int)) = true := by have := classes_more hv e.t e.i e.x; simp; omega
          have hd4 : decide (((classesB ths : Nat) : Int) ≤ ((mulN (lensB ths) : Nat) : Int)) = true := by have := classes_total hv; simp; omega
          simp only [thsP] at hct
          repeat' (first | refine T.seqK fun K hK => ?_ | refine T.block ?_ | (refine T.reg (by kernel_rfl) fun K' hK' => ?_; simp only [startSt, frOf, List.map_cons, List.map_nil]; (repeat' (first | (with_reducible refine WL.fin ?_; refine hK' _ ?_; clear hK' K') | (with_reducible refine WD.fin ?_) | ((first | (with_reducible refine WL.step fun K2 hK2 => ?_) | (with_reducible refine WD.step fun K2 hK2 => ?_)); simp only [WS, WH, WO, WOv, WG, dstOk, hasDst, aop, ASt.ev, aload, aloadC, afield, aindex, abin, abinI, aun, alen, acells, Nat.reduceEqDiff, Nat.reduceLT, Nat.reduceLeDiff, Nat.reduceAdd, reduceIte, reduceCtorEq, implies_true, ASt.add, setHp, asplice, Int.reduceEq, Int.reduceNe, Int.reduceLT, Int.reduceLE, Int.reduceSub, Int.reduceAdd, abuild, afill, abuildS, pureL, chunks, List.range, List.range.loop, Nat.reduceMul, Nat.reduceMod, apartF, apartI, aslice, evI, ASt.subst, AO.box, aval, pvals, ams, tys, mapTy_69, keyed_3, hd, hd3, hd4, beq_self_eq_true]; (repeat' (first | (with_reducible refine hK2 _ ?_; clear hK2 K2) | (with_reducible refine And.intro ?_ ?_) | (with_reducible intro hb) | ((first | (with_reducible apply callArmO) | (with_reducible apply callArm)); case h => exact CallV.view (Ent.of Try.func14 (by kernel_rfl) rfl) (hcf) (by simp [AV.okB, AV.view, lk_cons, lk_nil]) (by simp [AV.scal])) | ((first | (with_reducible apply callArmO) | (with_reducible apply callArm)); case h => exact CallV.view (Ent.of Try.func14 (by kernel_rfl) rfl) (hcb) (by simp [AV.okB, AV.view, lk_cons, lk_nil]) (by simp [AV.scal])) | ((first | (with_reducible apply callArmO) | (with_reducible apply callArm)); case h => exact CallV.view (Ent.of Try.func14 (by kernel_rfl) rfl) (hcm) (by simp [AV.okB, AV.view, lk_cons, lk_nil]) (by simp [AV.scal])) | ((first | (with_reducible apply callArmO) | (with_reducible apply callArm)); case h => exact CallV.plain (Ent.of Try.func14 (by kernel_rfl) rfl) (hct) (by simp [AV.okB])))))))) | refine T.skip ?_ | refine T.exit ?_ | refine T.condT rfl ?_ | refine T.condF rfl ?_ | refine T.cond rfl (fun hc => ?_) (fun hc => ?_) | refine T.ret ?_ | simp only [ThenA, InBlock, reduceIte, Nat.reduceEqDiff] | ((repeat ((fail_if_success (refine hK _ ?_)); clear hK K)); refine hK _ ?_; clear hK K))
          refine FinA.ret (.inr rfl) Try.results8 ?_; simp only [ares, aresL, ares1, WS, WH, WO, WOv, WG, dstOk, hasDst, aop, ASt.ev, aload, aloadC, afield, aindex, abin, abinI, aun, alen, acells, Nat.reduceEqDiff, Nat.reduceLT, Nat.reduceLeDiff, Nat.reduceAdd, reduceIte, reduceCtorEq, implies_true, ASt.add, setHp, asplice, Int.reduceEq, Int.reduceNe, Int.reduceLT, Int.reduceLE, Int.reduceSub, Int.reduceAdd, abuild, afill, abuildS, pureL, chunks, List.range, List.range.loop, Nat.reduceMul, Nat.reduceMod, apartF, apartI, aslice, evI, ASt.subst, AO.box, aval, pvals, ams, tys, mapTy_69, keyed_3, ]
end Go.Proofs.Ytbhkcejjehgfcaa
/- SleepRenumbered. -/
namespace Go.Proofs.Ytbhkcejjehgfcaa
open Go.RowKit Go.Sort
set_option linter.unusedSimpArgs false
set_option linter.unusedVariables false

def swN (k t : Nat) : Nat := if t = k then k + 1 else if t = k + 1 then k else t
theorem swN_swN (k t : Nat) : swN k (swN k t) = t := by
  unfold swN
  by_cases h1 : t = k
  · simp [h1]
  · by_cases h2 : t = k + 1
    · simp [h2]
    · simp [h1, h2]
def renB (t : Int) : List St → Nat → List St
  | [], _ => []
  | s :: r, i => ⟨t, i, [t], s.ts⟩ :: renB t r (i + 1)
theorem renB_app (t : Int) : ∀ (a b : List St) (i : Nat), renB t (a ++ b) i = renB t a i ++ renB t b (i + a.length)
  | [], b, i => rfl
  | s :: a, b, i => by
    rw [List.cons_append, renB, renB, renB_app t a b (i + 1), List.cons_append, List.length_cons, show i + 1 + a.length = i + (a.length + 1) by omega]
theorem renB_len (t : Int) : ∀ (l : List St) (i : Nat), (renB t l i).length = l.length
  | [], _ => rfl
  | s :: r, i => by simp [renB, renB_len t r]
theorem renB_mem {t : Int} : ∀ {l : List St} {i : Nat} {x : St}, x ∈ renB t l i → x.gs = [t] ∧ ∃ s ∈ l, x.ts = s.ts
  | [], _, _, h => by cases h
  | s :: r, i, x, h => by
    rw [renB] at h
    rcases List.mem_cons.1 h with rfl | h
    · exact ⟨rfl, s, by simp, rfl⟩
    · obtain ⟨h1, y, h2, h3⟩ := renB_mem h
      exact ⟨h1, y, List.mem_cons_of_mem _ h2, h3⟩
def phi (k : Nat) (s : St) : St := { s with g := ((swN k s.g.toNat : Nat) : Int), gs := [((swN k s.g.toNat : Nat) : Int)] }
theorem renB_map {k t : Nat} : ∀ {l : List St} {i : Nat}, (∀ (j : Nat) s, l[j]? = some s → s.g = (t : Int) ∧ s.c = ((i + j : Nat) : Int)) → renB ((swN k t : Nat) : Int) l i = l.map (phi k)
  | [], _, _ => rfl
  | s :: r, i, h => by
    obtain ⟨h1, h2⟩ := h 0 s rfl
    rw [renB, List.map_cons, renB_map fun j s' hs' => by
      obtain ⟨g1, g2⟩ := h (j + 1) s' (by simpa using hs')
      exact ⟨g1, by rw [g2, show i + (j + 1) = i + 1 + j by omega]⟩]
    obtain ⟨g, c, gs, ts⟩ := s
    simp only at h1 h2
    subst h1; subst h2
    simp [phi]
def othB (ths : List (List St)) (k : Nat) (a b : List St) : List (List St) := (ths.set k (renB ((k : Nat) : Int) b 0)).set (k + 1) (renB (((k + 1 : Nat)) : Int) a 0)
section
variable {ths : List (List St)} {k : Nat} {a b : List St}
theorem phi_phi (ho : ThOk ths) (k : Nat) {s : St} (hs : s ∈ stepsOf ths) : phi k (phi k s) = s := by
  obtain ⟨l, hl, hsl⟩ := List.mem_flatten.1 hs
  obtain ⟨t, ht⟩ := List.mem_iff_getElem?.1 hl
  obtain ⟨i, hi⟩ := List.mem_iff_getElem?.1 hsl
  obtain ⟨e1, e2, e3⟩ := ho.at' t l ht i s hi
  obtain ⟨g, c, gs, ts⟩ := s
  simp only at e1 e2 e3
  subst e1; subst e3
  simp [phi, swN_swN]
theorem phi_map (ho : ThOk ths) (k : Nat) {l : List St} (hl : ∀ s ∈ l, s ∈ stepsOf ths) : (l.map (phi k)).map (phi k) = l := by
  rw [List.map_map]
  exact (List.map_congr_left (g := id) fun s hs => phi_phi ho k (hl s hs)).trans (List.map_id l)
theorem th_mem {t : Nat} {l : List St} (hl : ths[t]? = some l) : ∀ s ∈ l, s ∈ stepsOf ths := fun s hs => List.mem_flatten.2 ⟨l, List.mem_of_getElem? hl, hs⟩
theorem oth_at (ho : ThOk ths) (ha : ths[k]? = some a) (hb : ths[k + 1]? = some b) (t : Nat) : (othB ths k a b)[swN k t]? = (ths[t]?).map (List.map (phi k)) := by
  have e1 : renB ((k : Nat) : Int) b 0 = b.map (phi k) := by
    have := renB_map (k := k) (t := k + 1) (l := b) (i := 0) fun j s hs => by
      obtain ⟨e1, e2, _⟩ := ho.at' _ b hb j s hs
      exact ⟨e1, by rw [e2, Nat.zero_add]⟩
    rwa [show swN k (k + 1) = k by simp [swN]] at this
  have e2 : renB (((k + 1 : Nat)) : Int) a 0 = a.map (phi k) := by
    have := renB_map (k := k) (t := k) (l := a) (i := 0) fun j s hs => by
      obtain ⟨e1, e2, _⟩ := ho.at' _ a ha j s hs
      exact ⟨e1, by rw [e2, Nat.zero_add]⟩
    rwa [show swN k k = k + 1 by simp [swN]] at this
  have hka := (List.getElem?_eq_some_iff.1 ha).1
  have hkb := (List.getElem?_eq_some_iff.1 hb).1
  unfold othB
  rw [e1, e2]
  by_cases h1 : t = k
  · subst h1
    rw [show swN t t = t + 1 by simp [swN], ha, List.getElem?_set_self (by simpa using hkb)]; rfl
  · by_cases h2 : t = k + 1
    · subst h2
      rw [show swN k (k + 1) = k by simp [swN], hb, List.getElem?_set_ne (by omega), List.getElem?_set_self hka]; rfl
    · rw [show swN k t = t by simp [swN, h1, h2], List.getElem?_set_ne (by omega), List.getElem?_set_ne (by omega)]
      cases hl : ths[t]? with
      | none => rfl
      | some l =>
        simp only [Option.map_some, Option.some.injEq]
        symm
        refine (List.map_congr_left (g := id) fun s hs => ?_).trans (List.map_id l)
        obtain ⟨i, hi⟩ := List.mem_iff_getElem?.1 hs
        obtain ⟨e1, e2, e3⟩ := ho.at' t l hl i s hi
        obtain ⟨g, c, gs, ts⟩ := s
        simp only at e1 e2 e3
        subst e1; subst e3
        simp [phi, swN, h1, h2]
theorem oth_len : (othB ths k a b).length = ths.length := by simp [othB]
theorem oth_sim (ho : ThOk ths) (ha : ths[k]? = some a) (hb : ths[k + 1]? = some b) : Sim ths (othB ths k a b) (swN k) (swN k) (phi k) := ⟨swN_swN k, swN_swN k, oth_len, oth_at ho ha hb⟩
theorem oth_thok (ho : ThOk ths) (ha : ths[k]? = some a) (hb : ths[k + 1]? = some b) : ThOk (othB ths k a b) := ⟨fun t l hl i s hs => by
  have h1 := oth_at ho ha hb (swN k t)
  rw [swN_swN, hl] at h1
  cases h2 : ths[swN k t]? with
  | none => rw [h2] at h1; cases h1
  | some l' =>
    rw [h2] at h1
    simp only [Option.map_some, Option.some.injEq] at h1
    subst h1
    rw [List.getElem?_map, Option.map_eq_some_iff] at hs
    obtain ⟨s', hs', rfl⟩ := hs
    obtain ⟨e1, e2, e3⟩ := ho.at' _ l' h2 i s' hs'
    simp only [phi, e1, Int.toNat_natCast, swN_swN, e2, and_self]⟩
theorem oth_back (ho : ThOk ths) (ha : ths[k]? = some a) (hb : ths[k + 1]? = some b) : Sim (othB ths k a b) ths (swN k) (swN k) (phi k) := ⟨swN_swN k, swN_swN k, oth_len.symm, fun t => by
  have h1 := oth_at ho ha hb (swN k t)
  rw [swN_swN] at h1
  rw [h1]
  cases h2 : ths[swN k t]? with
  | none => rfl
  | some l => simp only [Option.map_some]; rw [phi_map ho k (th_mem h2)]⟩
theorem dp_phi {k : Nat} {x y : St} (hx : x.gs = [x.g]) (hy : y.gs = [y.g]) (hx0 : 0 ≤ x.g) (hy0 : 0 ≤ y.g) : dpB (phi k x) (phi k y) = dpB x y := by
  unfold dpB phi
  have e : ∀ u v : Int, 0 ≤ u → 0 ≤ v → (((swN k v.toNat : Nat) : Int) = ((swN k u.toNat : Nat) : Int) ↔ v = u) := fun u v hu hv => by
    constructor
    · intro h
      have h' : swN k v.toNat = swN k u.toNat := by omega
      have := congrArg (swN k) h'
      rw [swN_swN, swN_swN] at this
      omega
    · rintro rfl; rfl
  have e2 := e y.g x.g hy0 hx0
  simp only [hx, hy, List.any_cons, List.any_nil, Bool.or_false, List.contains_cons, List.contains_nil]
  congr 1
  rw [Bool.eq_iff_iff, beq_iff_eq, beq_iff_eq]
  exact e2
end
theorem okRow_of {t : Nat} : ∀ {l : List St} {i : Nat}, (∀ (j : Nat) (s : St), l[j]? = some s → s.g = (t : Int) ∧ s.c = ((i + j : Nat) : Int) ∧ s.gs = [(t : Int)]) → okRow t l i = true
  | [], _, _ => rfl
  | s :: r, i, h => by
    obtain ⟨h1, h2, h3⟩ := h 0 s rfl
    rw [okRow, okRow_of fun j s' hs' => by
      obtain ⟨g1, g2, g3⟩ := h (j + 1) s' (by simpa using hs')
      exact ⟨g1, by rw [g2, show i + (j + 1) = i + 1 + j by omega], g3⟩]
    simp [okSt, h1, h2, h3]
theorem okAll_of : ∀ {ths : List (List St)} {t : Nat}, (∀ (j : Nat) (l : List St), ths[j]? = some l → okRow (t + j) l 0 = true) → okAll ths t = true
  | [], _, _ => rfl
  | l :: r, t, h => by
    have h0 : okRow t l 0 = true := h 0 l rfl
    rw [okAll, h0, okAll_of fun j l' hl' => by
      have := h (j + 1) l' (by simpa using hl')
      rwa [show t + (j + 1) = t + 1 + j by omega] at this]
    rfl
theorem valid_of {ths : List (List St)} (ho : ThOk ths) (h1 : 1 ≤ ths.length) (h8 : ths.length ≤ 8) (ht : totB ths ≤ 12) : validB ths = true := by
  have : okAll ths 0 = true := okAll_of fun j l hl => okRow_of fun i s hs => by
    obtain ⟨e1, e2, e3⟩ := ho.at' j l hl i s hs
    exact ⟨by rw [e1, Nat.zero_add], by rw [e2, Nat.zero_add], by rw [e3, Nat.zero_add]⟩
  simp [validB, this, h1, h8, ht]
theorem sum_swap {l : List Nat} {k x y : Nat} (hx : l[k]? = some x) (hy : l[k + 1]? = some y) : ((l.set k y).set (k + 1) x).sum = l.sum := by
  induction l generalizing k with
  | nil => simp at hx
  | cons z r ih =>
    cases k with
    | zero =>
      cases r with
      | nil => simp at hy
      | cons w r =>
        simp at hx hy
        subst hx; subst hy
        simp; omega
    | succ k =>
      have := ih (k := k) (by simpa using hx) (by simpa using hy)
      simp only [List.set_cons_succ, List.sum_cons, this]
theorem oth_tot {ths : List (List St)} {k : Nat} {a b : List St} (ha : ths[k]? = some a) (hb : ths[k + 1]? = some b) : totB (othB ths k a b) = totB ths := by
  unfold totB othB
  rw [List.map_set, List.map_set, renB_len, renB_len]
  exact sum_swap (by rw [List.getElem?_map, ha]; rfl) (by rw [List.getElem?_map, hb]; rfl)
theorem classes_oth {ths : List (List St)} {k : Nat} {a b : List St} (hv : validB ths = true) (ha : ths[k]? = some a) (hb : ths[k + 1]? = some b) : classesB (othB ths k a b) = classesB ths := by
  have ho := valid_thok hv
  have ho' := oth_thok ho ha hb
  obtain ⟨h1, h8, h12, _⟩ := validB_ok hv
  have hv' : validB (othB ths k a b) = true := valid_of ho' (by rw [oth_len]; exact h1) (by rw [oth_len]; exact h8) (by rw [oth_tot ha hb, ← rem_zero]; exact h12)
  have h12' := (validB_ok hv').2.2.1
  have gg : ∀ {ths : List (List St)}, ThOk ths → ∀ s ∈ stepsOf ths, s.gs = [s.g] ∧ 0 ≤ s.g := fun {ths} ho s hs => by
    obtain ⟨l, hl, hsl⟩ := List.mem_flatten.1 hs
    obtain ⟨t, ht⟩ := List.mem_iff_getElem?.1 hl
    obtain ⟨i, hi⟩ := List.mem_iff_getElem?.1 hsl
    obtain ⟨e1, _, e3⟩ := ho.at' t l ht i s hi
    exact ⟨by rw [e3, e1], by omega⟩
  unfold classesB
  rw [if_pos hv, if_pos hv', visA_eq, visA_eq]
  refine Nat.le_antisymm ?_ ?_
  · exact cls_le (oth_back ho ha hb) ho' ho h12' h12 (phi k) (fun s hs => phi_phi ho' k hs) fun x hx y hy h => by rwa [dp_phi (gg ho' x hx).1 (gg ho' y hy).1 (gg ho' x hx).2 (gg ho' y hy).2] at h
  · exact cls_le (oth_sim ho ha hb) ho ho' h12 h12' (phi k) (fun s hs => phi_phi ho k hs) fun x hx y hy h => by rwa [dp_phi (gg ho x hx).1 (gg ho y hy).1 (gg ho x hx).2 (gg ho y hy).2] at h
set_option maxHeartbeats 8000000 in
set_option maxRecDepth 100000 in
theorem renamed_ok (l : List St) (hl : l.length ≤ 1000000) (t : Int) : PureC Try.prog 21 [.p (thP l), .int t] (.p (thP (renB t l 0))) := by
  have hm1 : 1 ≤ maxLen := by decide
  simp only [thP]
  refine PureC.of Try.func21 rfl 28 rfl (by decide) (by simp [AV.okB]) ?_
  repeat' (first | refine T.seqK fun K hK => ?_ | refine T.block ?_ | (refine T.reg (by kernel_rfl) fun K' hK' => ?_; simp only [startSt, frOf, List.map_cons, List.map_nil]; (repeat' (first | (with_reducible refine WL.fin ?_; refine hK' _ ?_; clear hK' K') | (with_reducible refine WD.fin ?_) | ((first | (with_reducible refine WL.step fun K2 hK2 => ?_) | (with_reducible refine WD.step fun K2 hK2 => ?_)); simp only [WS, WH, WO, WOv, WG, dstOk, hasDst, aop, ASt.ev, aload, aloadC, afield, aindex, abin, abinI, aun, alen, acells, Nat.reduceEqDiff, Nat.reduceLT, Nat.reduceLeDiff, Nat.reduceAdd, reduceIte, reduceCtorEq, implies_true, ASt.add, setHp, asplice, Int.reduceEq, Int.reduceNe, Int.reduceLT, Int.reduceLE, Int.reduceSub, Int.reduceAdd, abuild, afill, abuildS, pureL, chunks, List.range, List.range.loop, Nat.reduceMul, Nat.reduceMod, apartF, apartI, aslice, evI, ASt.subst, AO.box, aval, pvals, ams, tys, mapTy_69, keyed_3]; (repeat' (first | (with_reducible refine hK2 _ ?_; clear hK2 K2) | (with_reducible refine And.intro ?_ ?_) | (with_reducible intro hb) | fail)))))) | refine T.skip ?_ | refine T.exit ?_ | refine T.condT rfl ?_ | refine T.condF rfl ?_ | refine T.cond rfl (fun hc => ?_) (fun hc => ?_) | refine T.ret ?_ | simp only [ThenA, InBlock, reduceIte, Nat.reduceEqDiff] | ((repeat ((fail_if_success (refine hK _ ?_)); clear hK K)); refine hK _ ?_; clear hK K))
  refine T.weak (Weak.newrow _ 5 48 4 (show 5 < 28 by decide) rfl) ?_; simp only [ASt.add, put_some, Nat.reduceAdd]
  refine T.loopK (fun i : Nat => ⟨[(0, .p (thP l)), (1, .int t), (5, .own 0), (6, .int i)], [(0, .row 48 4 ((renB t (l.take i) 0).map stC))], 28, 1⟩)
    (fun i => i ≤ l.length) (fun i => l.length - i) 0 (Nat.zero_le _) (by refine Weak.of' rfl ?_; simp only [wks, reduceIte, Nat.reduceEqDiff, ASt.okB, AV.okB, Nat.reduceLT, implies_true, Int.natCast_zero, thP, List.take_zero, renB, List.map_nil]) ?_
  rintro i hi KL hKL
  simp only [thP]
  by_cases hlt : i < l.length
  · have hd : decide ((i : Int) < (l.length : Int)) = true := by simpa using hlt
    obtain ⟨s, hs⟩ := at_lt hlt
    have htk : renB t (l.take (i + 1)) 0 = renB t (l.take i) 0 ++ [⟨t, (i : Int), [t], s.ts⟩] := by
      rw [List.take_add_one, hs, Option.toList_some, renB_app, List.length_take, Nat.min_eq_left (by omega), Nat.zero_add]; rfl
    have hpl : (renB t (l.take i) 0).length = i := by rw [renB_len, List.length_take]; omega
    obtain ⟨pre, hpre⟩ : ∃ pre, pre = renB t (l.take i) 0 := ⟨_, rfl⟩
    rw [← hpre] at htk hpl ⊢
    have ho1 : pre.length + 1 ≤ maxLen := by unfold maxLen; omega
    have ho2 : (pre.length + 1) * 64 ≤ 140737488355328 := by omega
    repeat' (first | refine T.seqK fun K hK => ?_ | refine T.block ?_ | (refine T.reg (by kernel_rfl) fun K' hK' => ?_; simp only [startSt, frOf, List.map_cons, List.map_nil]; (repeat' (first | (with_reducible refine WL.fin ?_; refine hK' _ ?_; clear hK' K') | (with_reducible refine WD.fin ?_) | ((first | (with_reducible refine WL.step fun K2 hK2 => ?_) | (with_reducible refine WD.step fun K2 hK2 => ?_)); simp only [WS, WH, WO, WOv, WG, dstOk, hasDst, aop, ASt.ev, aload, aloadC, afield, aindex, abin, abinI, aun, alen, acells, Nat.reduceEqDiff, Nat.reduceLT, Nat.reduceLeDiff, Nat.reduceAdd, reduceIte, reduceCtorEq, implies_true, ASt.add, setHp, asplice, Int.reduceEq, Int.reduceNe, Int.reduceLT, Int.reduceLE, Int.reduceSub, Int.reduceAdd, abuild, afill, abuildS, pureL, chunks, List.range, List.range.loop, Nat.reduceMul, Nat.reduceMod, apartF, apartI, aslice, evI, ASt.subst, AO.box, aval, pvals, ams, tys, mapTy_69, keyed_3, hd, hs, stC, hm1, ho1, ho2]; (repeat' (first | (with_reducible refine hK2 _ ?_; clear hK2 K2) | (with_reducible refine And.intro ?_ ?_) | (with_reducible intro hb) | fail)))))) | refine T.skip ?_ | refine T.exit ?_ | refine T.condT rfl ?_ | refine T.condF rfl ?_ | refine T.cond rfl (fun hc => ?_) (fun hc => ?_) | refine T.ret ?_ | simp only [ThenA, InBlock, reduceIte, Nat.reduceEqDiff] | ((repeat ((fail_if_success (refine hK _ ?_)); clear hK K)); refine hK _ ?_; clear hK K))
    refine hKL _ (i + 1) ?_ (by omega) (by omega)
    rw [htk]
    refine Weak.of' rfl ?_; simp only [wks, reduceIte, Nat.reduceEqDiff, ASt.okB, AV.okB, Nat.reduceLT, implies_true, wrap_succ (show i < 1152921504606846976 by omega), thP, stC, gsP, inC, tsP, List.map_append, List.map_cons, List.map_nil]
  · have hd : decide ((i : Int) < (l.length : Int)) = false := by simpa using hlt
    obtain rfl : i = l.length := by omega
    clear hKL
    rw [List.take_length]
    repeat' (first | refine T.seqK fun K hK => ?_ | refine T.block ?_ | (refine T.reg (by kernel_rfl) fun K' hK' => ?_; simp only [startSt, frOf, List.map_cons, List.map_nil]; (repeat' (first | (with_reducible refine WL.fin ?_; refine hK' _ ?_; clear hK' K') | (with_reducible refine WD.fin ?_) | ((first | (with_reducible refine WL.step fun K2 hK2 => ?_) | (with_reducible refine WD.step fun K2 hK2 => ?_)); simp only [WS, WH, WO, WOv, WG, dstOk, hasDst, aop, ASt.ev, aload, aloadC, afield, aindex, abin, abinI, aun, alen, acells, Nat.reduceEqDiff, Nat.reduceLT, Nat.reduceLeDiff, Nat.reduceAdd, reduceIte, reduceCtorEq, implies_true, ASt.add, setHp, asplice, Int.reduceEq, Int.reduceNe, Int.reduceLT, Int.reduceLE, Int.reduceSub, Int.reduceAdd, abuild, afill, abuildS, pureL, chunks, List.range, List.range.loop, Nat.reduceMul, Nat.reduceMod, apartF, apartI, aslice, evI, ASt.subst, AO.box, aval, pvals, ams, tys, mapTy_69, keyed_3, hd]; (repeat' (first | (with_reducible refine hK2 _ ?_; clear hK2 K2) | (with_reducible refine And.intro ?_ ?_) | (with_reducible intro hb) | fail)))))) | refine T.skip ?_ | refine T.exit ?_ | refine T.condT rfl ?_ | refine T.condF rfl ?_ | refine T.cond rfl (fun hc => ?_) (fun hc => ?_) | refine T.ret ?_ | simp only [ThenA, InBlock, reduceIte, Nat.reduceEqDiff] | ((repeat ((fail_if_success (refine hK _ ?_)); clear hK K)); refine hK _ ?_; clear hK K))
    refine FinA.retW (.inr rfl) Try.results21 (Weak.frz _ 0) ?_; simp only [ares, aresL, ares1, ASt.frz, ASt.subst, AO.sub_box, AO.sub_row, AO.sub_map, AO.sub_raw, AO.sub_lrec, AV.sub_p, AV.sub_elt, AV.sub_ptr, AV.sub_rptr, AV.sub_own, AV.sub_junk, AV.sub_cap0, AV.sub_agg, AV.sub_fn, AV.sub_tup, List.filter_cons, List.filter_nil, bne_self_eq_false, Nat.reduceBneDiff, Nat.reduceEqDiff, Bool.false_eq_true, WS, WH, WO, WOv, WG, dstOk, hasDst, aop, ASt.ev, aload, aloadC, afield, aindex, abin, abinI, aun, alen, acells, Nat.reduceEqDiff, Nat.reduceLT, Nat.reduceLeDiff, Nat.reduceAdd, reduceIte, reduceCtorEq, implies_true, ASt.add, setHp, asplice, Int.reduceEq, Int.reduceNe, Int.reduceLT, Int.reduceLE, Int.reduceSub, Int.reduceAdd, abuild, afill, abuildS, pureL, chunks, List.range, List.range.loop, Nat.reduceMul, Nat.reduceMod, apartF, apartI, aslice, evI, ASt.subst, AO.box, aval, pvals, ams, tys, mapTy_69, keyed_3]
set_option maxHeartbeats 8000000 in
set_option maxRecDepth 100000 in
theorem sleepRen_ok (ths : List (List St)) (at0 : Nat) (h256 : at0 < 256) : PureC Try.prog 7 [.p (thsP ths), .p (.val (.int .u8 (at0 : Int)))] (.bool true) := by
  have haw := awake_ok
  have hfw := few_ok ths
  have hxw : IntKind.i64.wrap (at0 : Int) = (at0 : Int) := wrap_ok (by omega) (by omega)
  have hw1 : IntKind.i64.wrap ((at0 : Int) + 1) = ((at0 + 1 : Nat) : Int) := wrap_succ (by omega)
  cases hf : fewB ths with
  | false =>
    rw [hf] at hfw
    simp only [thsP] at hfw ⊢
    refine PureC.of Try.func7 rfl 60 rfl (by decide) (by simp [AV.okB]) ?_
    repeat' (first | refine T.seqK fun K hK => ?_ | refine T.block ?_ | (refine T.reg (by kernel_rfl) fun K' hK' => ?_; simp only [startSt, frOf, List.map_cons, List.map_nil]; (repeat' (first | (with_reducible refine WL.fin ?_; refine hK' _ ?_; clear hK' K') | (with_reducible refine WD.fin ?_) | ((first | (with_reducible refine WL.step fun K2 hK2 => ?_) | (with_reducible refine WD.step fun K2 hK2 => ?_)); simp only [WS, WH, WO, WOv, WG, dstOk, hasDst, aop, ASt.ev, aload, aloadC, afield, aindex, abin, abinI, aun, alen, acells, Nat.reduceEqDiff, Nat.reduceLT, Nat.reduceLeDiff, Nat.reduceAdd, reduceIte, reduceCtorEq, implies_true, ASt.add, setHp, asplice, Int.reduceEq, Int.reduceNe, Int.reduceLT, Int.reduceLE, Int.reduceSub, Int.reduceAdd, abuild, afill, abuildS, pureL, chunks, List.range, List.range.loop, Nat.reduceMul, Nat.reduceMod, apartF, apartI, aslice, evI, ASt.subst, AO.box, aval, pvals, ams, tys, mapTy_69, keyed_3, hxw, Option.isSome_some]; (repeat' (first | (with_reducible refine hK2 _ ?_; clear hK2 K2) | (with_reducible refine And.intro ?_ ?_) | (with_reducible intro hb) | ((first | (with_reducible apply callArmO) | (with_reducible apply callArm)); case h => exact CallV.plain (Ent.of Try.func9 (by kernel_rfl) rfl) (haw) (by simp [AV.okB])) | ((first | (with_reducible apply callArmO) | (with_reducible apply callArm)); case h => exact CallV.plain (Ent.of Try.func10 (by kernel_rfl) rfl) (hfw) (by simp [AV.okB])))))))) | refine T.skip ?_ | refine T.exit ?_ | refine T.condT rfl ?_ | refine T.condF rfl ?_ | refine T.cond rfl (fun hc => ?_) (fun hc => ?_) | refine T.ret ?_ | simp only [ThenA, InBlock, reduceIte, Nat.reduceEqDiff] | ((repeat ((fail_if_success (refine hK _ ?_)); clear hK K)); refine hK _ ?_; clear hK K))
    refine FinA.ret (.inr rfl) Try.results7 ?_; simp only [ares, aresL, ares1, WS, WH, WO, WOv, WG, dstOk, hasDst, aop, ASt.ev, aload, aloadC, afield, aindex, abin, abinI, aun, alen, acells, Nat.reduceEqDiff, Nat.reduceLT, Nat.reduceLeDiff, Nat.reduceAdd, reduceIte, reduceCtorEq, implies_true, ASt.add, setHp, asplice, Int.reduceEq, Int.reduceNe, Int.reduceLT, Int.reduceLE, Int.reduceSub, Int.reduceAdd, abuild, afill, abuildS, pureL, chunks, List.range, List.range.loop, Nat.reduceMul, Nat.reduceMod, apartF, apartI, aslice, evI, ASt.subst, AO.box, aval, pvals, ams, tys, mapTy_69, keyed_3, ]
  | true =>
    rw [hf] at hfw
    have hsm := small_ok ths hf
    have hrv := rvalid_at ths hf
    cases hs : smallB ths with
    | false =>
      rw [hs] at hsm
      simp only [thsP] at hfw hsm ⊢
      refine PureC.of Try.func7 rfl 60 rfl (by decide) (by simp [AV.okB]) ?_
      repeat' (first | refine T.seqK fun K hK => ?_ | refine T.block ?_ | (refine T.reg (by kernel_rfl) fun K' hK' => ?_; simp only [startSt, frOf, List.map_cons, List.map_nil]; (repeat' (first | (with_reducible refine WL.fin ?_; refine hK' _ ?_; clear hK' K') | (with_reducible refine WD.fin ?_) | ((first | (with_reducible refine WL.step fun K2 hK2 => ?_) | (with_reducible refine WD.step fun K2 hK2 => ?_)); simp only [WS, WH, WO, WOv, WG, dstOk, hasDst, aop, ASt.ev, aload, aloadC, afield, aindex, abin, abinI, aun, alen, acells, Nat.reduceEqDiff, Nat.reduceLT, Nat.reduceLeDiff, Nat.reduceAdd, reduceIte, reduceCtorEq, implies_true, ASt.add, setHp, asplice, Int.reduceEq, Int.reduceNe, Int.reduceLT, Int.reduceLE, Int.reduceSub, Int.reduceAdd, abuild, afill, abuildS, pureL, chunks, List.range, List.range.loop, Nat.reduceMul, Nat.reduceMod, apartF, apartI, aslice, evI, ASt.subst, AO.box, aval, pvals, ams, tys, mapTy_69, keyed_3, hxw, Option.isSome_some]; (repeat' (first | (with_reducible refine hK2 _ ?_; clear hK2 K2) | (with_reducible refine And.intro ?_ ?_) | (with_reducible intro hb) | ((first | (with_reducible apply callArmO) | (with_reducible apply callArm)); case h => exact CallV.plain (Ent.of Try.func9 (by kernel_rfl) rfl) (haw) (by simp [AV.okB])) | ((first | (with_reducible apply callArmO) | (with_reducible apply callArm)); case h => exact CallV.plain (Ent.of Try.func10 (by kernel_rfl) rfl) (hfw) (by simp [AV.okB])) | ((first | (with_reducible apply callArmO) | (with_reducible apply callArm)); case h => exact CallV.plain (Ent.of Try.func15 (by kernel_rfl) rfl) (hsm) (by simp [AV.okB])))))))) | refine T.skip ?_ | refine T.exit ?_ | refine T.condT rfl ?_ | refine T.condF rfl ?_ | refine T.cond rfl (fun hc => ?_) (fun hc => ?_) | refine T.ret ?_ | simp only [ThenA, InBlock, reduceIte, Nat.reduceEqDiff] | ((repeat ((fail_if_success (refine hK _ ?_)); clear hK K)); refine hK _ ?_; clear hK K))
      refine FinA.ret (.inr rfl) Try.results7 ?_; simp only [ares, aresL, ares1, WS, WH, WO, WOv, WG, dstOk, hasDst, aop, ASt.ev, aload, aloadC, afield, aindex, abin, abinI, aun, alen, acells, Nat.reduceEqDiff, Nat.reduceLT, Nat.reduceLeDiff, Nat.reduceAdd, reduceIte, reduceCtorEq, implies_true, ASt.add, setHp, asplice, Int.reduceEq, Int.reduceNe, Int.reduceLT, Int.reduceLE, Int.reduceSub, Int.reduceAdd, abuild, afill, abuildS, pureL, chunks, List.range, List.range.loop, Nat.reduceMul, Nat.reduceMod, apartF, apartI, aslice, evI, ASt.subst, AO.box, aval, pvals, ams, tys, mapTy_69, keyed_3, ]
    | true =>
      rw [hs] at hsm
      cases hv : validB ths with
      | false =>
        rw [hv] at hrv
        simp only [thsP] at hfw hsm hrv ⊢
        refine PureC.of Try.func7 rfl 60 rfl (by decide) (by simp [AV.okB]) ?_
        repeat' (first | refine T.seqK fun K hK => ?_ | refine T.block ?_ | (refine T.reg (by kernel_rfl) fun K' hK' => ?_; simp only [startSt, frOf, List.map_cons, List.map_nil]; (repeat' (first | (with_reducible refine WL.fin ?_; refine hK' _ ?_; clear hK' K') | (with_reducible refine WD.fin ?_) | ((first | (with_reducible refine WL.step fun K2 hK2 => ?_) | (with_reducible refine WD.step fun K2 hK2 => ?_)); simp only [WS, WH, WO, WOv, WG, dstOk, hasDst, aop, ASt.ev, aload, aloadC, afield, aindex, abin, abinI, aun, alen, acells, Nat.reduceEqDiff, Nat.reduceLT, Nat.reduceLeDiff, Nat.reduceAdd, reduceIte, reduceCtorEq, implies_true, ASt.add, setHp, asplice, Int.reduceEq, Int.reduceNe, Int.reduceLT, Int.reduceLE, Int.reduceSub, Int.reduceAdd, abuild, afill, abuildS, pureL, chunks, List.range, List.range.loop, Nat.reduceMul, Nat.reduceMod, apartF, apartI, aslice, evI, ASt.subst, AO.box, aval, pvals, ams, tys, mapTy_69, keyed_3, hxw, Option.isSome_some]; (repeat' (first | (with_reducible refine hK2 _ ?_; clear hK2 K2) | (with_reducible refine And.intro ?_ ?_) | (with_reducible intro hb) | ((first | (with_reducible apply callArmO) | (with_reducible apply callArm)); case h => exact CallV.plain (Ent.of Try.func9 (by kernel_rfl) rfl) (haw) (by simp [AV.okB])) | ((first | (with_reducible apply callArmO) | (with_reducible apply callArm)); case h => exact CallV.plain (Ent.of Try.func10 (by kernel_rfl) rfl) (hfw) (by simp [AV.okB])) | ((first | (with_reducible apply callArmO) | (with_reducible apply callArm)); case h => exact CallV.plain (Ent.of Try.func15 (by kernel_rfl) rfl) (hsm) (by simp [AV.okB])) | ((first | (with_reducible apply callArmO) | (with_reducible apply callArm)); case h => exact CallV.plain (Ent.of Try.func11 (by kernel_rfl) rfl) (hrv) (by simp [AV.okB])))))))) | refine T.skip ?_ | refine T.exit ?_ | refine T.condT rfl ?_ | refine T.condF rfl ?_ | refine T.cond rfl (fun hc => ?_) (fun hc => ?_) | refine T.ret ?_ | simp only [ThenA, InBlock, reduceIte, Nat.reduceEqDiff] | ((repeat ((fail_if_success (refine hK _ ?_)); clear hK K)); refine hK _ ?_; clear hK K))
        refine FinA.ret (.inr rfl) Try.results7 ?_; simp only [ares, aresL, ares1, WS, WH, WO, WOv, WG, dstOk, hasDst, aop, ASt.ev, aload, aloadC, afield, aindex, abin, abinI, aun, alen, acells, Nat.reduceEqDiff, Nat.reduceLT, Nat.reduceLeDiff, Nat.reduceAdd, reduceIte, reduceCtorEq, implies_true, ASt.add, setHp, asplice, Int.reduceEq, Int.reduceNe, Int.reduceLT, Int.reduceLE, Int.reduceSub, Int.reduceAdd, abuild, afill, abuildS, pureL, chunks, List.range, List.range.loop, Nat.reduceMul, Nat.reduceMod, apartF, apartI, aslice, evI, ASt.subst, AO.box, aval, pvals, ams, tys, mapTy_69, keyed_3, ]
      | true =>
        rw [hv] at hrv
        by_cases hk : at0 + 1 < ths.length
        · have hd : decide ((ths.length : Int) ≤ ((at0 + 1 : Nat) : Int)) = false := by simp; omega
          obtain ⟨a, ha⟩ := at_lt (l := ths) (k := at0) (by omega)
          obtain ⟨b, hb⟩ := at_lt (l := ths) (k := at0 + 1) hk
          have hla := (few_st hf a (List.mem_of_getElem? ha)).1
          have hlb := (few_st hf b (List.mem_of_getElem? hb)).1
          have hra := renamed_ok a (by omega) ((at0 + 1 : Nat) : Int)
          have hrb := renamed_ok b (by omega) ((at0 : Nat) : Int)
          have hlen := (fewB_ok hf).1
          have o1 : ths.length ≤ maxLen := by unfold maxLen; omega
          have o2 : ths.length * 24 ≤ 140737488355328 := by omega
          have hct := classes_b ths (by omega) (few_st hf)
          have hco := classes_b (othB ths at0 a b) (by rw [oth_len]; omega) (fun l hl => by
            unfold othB at hl
            rcases List.mem_or_eq_of_mem_set hl with hl | rfl
            · rcases List.mem_or_eq_of_mem_set hl with hl | rfl
              · exact few_st hf l hl
              · refine ⟨by rw [renB_len]; exact hlb, fun s hs => ?_⟩
                obtain ⟨h1, x, h2, h3⟩ := renB_mem hs
                have := ((few_st hf b (List.mem_of_getElem? hb)).2 x h2).ts
                exact ⟨by rw [h1]; simp, by rw [h3]; exact this⟩
            · refine ⟨by rw [renB_len]; exact hla, fun s hs => ?_⟩
              obtain ⟨h1, x, h2, h3⟩ := renB_mem hs
              have := ((few_st hf a (List.mem_of_getElem? ha)).2 x h2).ts
              exact ⟨by rw [h1]; simp, by rw [h3]; exact this⟩)
          rw [classes_oth hv ha hb] at hco
          have hset : ((ths.map fun l => [thP l]).set at0 [thP (renB ((at0 : Nat) : Int) b 0)]).set (at0 + 1) [thP (renB ((at0 + 1 : Nat) : Int) a 0)] = (othB ths at0 a b).map fun l => [thP l] := by
            simp [othB, List.map_set]
          have hi1 : at0 < ths.length := by omega
          have hi2 : at0 + 1 < (ths.map fun l => [thP l]).length := by simpa using hk
          have hat1 : ((ths.map fun l => [thP l]).set at0 [thP (renB ((at0 : Nat) : Int) b 0)])[at0 + 1]? = some [thP b] := by
            rw [List.getElem?_set_ne (by omega), List.getElem?_map, hb]; rfl
          simp only [thsP] at hfw hsm hrv hct hco ⊢
          refine PureC.of Try.func7 rfl 60 rfl (by decide) (by simp [AV.okB]) ?_
          repeat' (first | refine T.seqK fun K hK => ?_ | refine T.block ?_ | (refine T.reg (by kernel_rfl) fun K' hK' => ?_; simp only [startSt, frOf, List.map_cons, List.map_nil]; (repeat' (first | (with_reducible refine WL.fin ?_; refine hK' _ ?_; clear hK' K') | (with_reducible refine WD.fin ?_) | ((first | (with_reducible refine WL.step fun K2 hK2 => ?_) | (with_reducible refine WD.step fun K2 hK2 => ?_)); simp only [WS, WH, WO, WOv, WG, dstOk, hasDst, aop, ASt.ev, aload, aloadC, afield, aindex, abin, abinI, aun, alen, acells, Nat.reduceEqDiff, Nat.reduceLT, Nat.reduceLeDiff, Nat.reduceAdd, reduceIte, reduceCtorEq, implies_true, ASt.add, setHp, asplice, Int.reduceEq, Int.reduceNe, Int.reduceLT, Int.reduceLE, Int.reduceSub, Int.reduceAdd, abuild, afill, abuildS, pureL, chunks, List.range, List.range.loop, Nat.reduceMul, Nat.reduceMod, apartF, apartI, aslice, evI, ASt.subst, AO.box, aval, pvals, ams, tys, mapTy_69, keyed_3, hxw, hw1, hd, Option.isSome_some, o1, o2, ha, hb, hi1, hk, hset, hat1, List.length_set, beq_self_eq_true]; (repeat' (first | (with_reducible refine hK2 _ ?_; clear hK2 K2) | (with_reducible refine And.intro ?_ ?_) | (with_reducible intro hb) | ((first | (with_reducible apply callArmO) | (with_reducible apply callArm)); case h => exact CallV.plain (Ent.of Try.func9 (by kernel_rfl) rfl) (haw) (by simp [AV.okB])) | ((first | (with_reducible apply callArmO) | (with_reducible apply callArm)); case h => exact CallV.plain (Ent.of Try.func10 (by kernel_rfl) rfl) (hfw) (by simp [AV.okB])) | ((first | (with_reducible apply callArmO) | (with_reducible apply callArm)); case h => exact CallV.plain (Ent.of Try.func15 (by kernel_rfl) rfl) (hsm) (by simp [AV.okB])) | ((first | (with_reducible apply callArmO) | (with_reducible apply callArm)); case h => exact CallV.plain (Ent.of Try.func11 (by kernel_rfl) rfl) (hrv) (by simp [AV.okB])) | ((first | (with_reducible apply callArmO) | (with_reducible apply callArm)); case h => exact CallV.plain (Ent.of Try.func21 (by kernel_rfl) rfl) (hrb) (by simp [AV.okB])) | ((first | (with_reducible apply callArmO) | (with_reducible apply callArm)); case h => exact CallV.plain (Ent.of Try.func21 (by kernel_rfl) rfl) (hra) (by simp [AV.okB])) | ((first | (with_reducible apply callArmO) | (with_reducible apply callArm)); case h => exact CallV.plain (Ent.of Try.func14 (by kernel_rfl) rfl) (hct) (by simp [AV.okB])) | ((first | (with_reducible apply callArmO) | (with_reducible apply callArm)); case h => exact CallV.view (Ent.of Try.func14 (by kernel_rfl) rfl) (hco) (by simp [AV.okB, AV.view, lk_cons, lk_nil]) (by simp [AV.scal])))))))) | refine T.skip ?_ | refine T.exit ?_ | refine T.condT rfl ?_ | refine T.condF rfl ?_ | refine T.cond rfl (fun hc => ?_) (fun hc => ?_) | refine T.ret ?_ | simp only [ThenA, InBlock, reduceIte, Nat.reduceEqDiff] | ((repeat ((fail_if_success (refine hK _ ?_)); clear hK K)); refine hK _ ?_; clear hK K))
          refine FinA.ret (.inr rfl) Try.results7 ?_; simp only [ares, aresL, ares1, WS, WH, WO, WOv, WG, dstOk, hasDst, aop, ASt.ev, aload, aloadC, afield, aindex, abin, abinI, aun, alen, acells, Nat.reduceEqDiff, Nat.reduceLT, Nat.reduceLeDiff, Nat.reduceAdd, reduceIte, reduceCtorEq, implies_true, ASt.add, setHp, asplice, Int.reduceEq, Int.reduceNe, Int.reduceLT, Int.reduceLE, Int.reduceSub, Int.reduceAdd, abuild, afill, abuildS, pureL, chunks, List.range, List.range.loop, Nat.reduceMul, Nat.reduceMod, apartF, apartI, aslice, evI, ASt.subst, AO.box, aval, pvals, ams, tys, mapTy_69, keyed_3, ]
        · have hd : decide ((ths.length : Int) ≤ ((at0 + 1 : Nat) : Int)) = true := by simp; omega
          simp only [thsP] at hfw hsm hrv ⊢
          refine PureC.of Try.func7 rfl 60 rfl (by decide) (by simp [AV.okB]) ?_
          repeat' (first | refine T.seqK fun K hK => ?_ | refine T.block ?_ | (refine T.reg (by kernel_rfl) fun K' hK' => ?_; simp only [startSt, frOf, List.map_cons, List.map_nil]; (repeat' (first | (with_reducible refine WL.fin ?_; refine hK' _ ?_; clear hK' K') | (with_reducible refine WD.fin ?_) | ((first | (with_reducible refine WL.step fun K2 hK2 => ?_) | (with_reducible refine WD.step fun K2 hK2 => ?_)); simp only [WS, WH, WO, WOv, WG, dstOk, hasDst, aop, ASt.ev, aload, aloadC, afield, aindex, abin, abinI, aun, alen, acells, Nat.reduceEqDiff, Nat.reduceLT, Nat.reduceLeDiff, Nat.reduceAdd, reduceIte, reduceCtorEq, implies_true, ASt.add, setHp, asplice, Int.reduceEq, Int.reduceNe, Int.reduceLT, Int.reduceLE, Int.reduceSub, Int.reduceAdd, abuild, afill, abuildS, pureL, chunks, List.range, List.range.loop, Nat.reduceMul, Nat.reduceMod, apartF, apartI, aslice, evI, ASt.subst, AO.box, aval, pvals, ams, tys, mapTy_69, keyed_3, hxw, hw1, hd, Option.isSome_some]; (repeat' (first | (with_reducible refine hK2 _ ?_; clear hK2 K2) | (with_reducible refine And.intro ?_ ?_) | (with_reducible intro hb) | ((first | (with_reducible apply callArmO) | (with_reducible apply callArm)); case h => exact CallV.plain (Ent.of Try.func9 (by kernel_rfl) rfl) (haw) (by simp [AV.okB])) | ((first | (with_reducible apply callArmO) | (with_reducible apply callArm)); case h => exact CallV.plain (Ent.of Try.func10 (by kernel_rfl) rfl) (hfw) (by simp [AV.okB])) | ((first | (with_reducible apply callArmO) | (with_reducible apply callArm)); case h => exact CallV.plain (Ent.of Try.func15 (by kernel_rfl) rfl) (hsm) (by simp [AV.okB])) | ((first | (with_reducible apply callArmO) | (with_reducible apply callArm)); case h => exact CallV.plain (Ent.of Try.func11 (by kernel_rfl) rfl) (hrv) (by simp [AV.okB])))))))) | refine T.skip ?_ | refine T.exit ?_ | refine T.condT rfl ?_ | refine T.condF rfl ?_ | refine T.cond rfl (fun hc => ?_) (fun hc => ?_) | refine T.ret ?_ | simp only [ThenA, InBlock, reduceIte, Nat.reduceEqDiff] | ((repeat ((fail_if_success (refine hK _ ?_)); clear hK K)); refine hK _ ?_; clear hK K))
          refine FinA.ret (.inr rfl) Try.results7 ?_; simp only [ares, aresL, ares1, WS, WH, WO, WOv, WG, dstOk, hasDst, aop, ASt.ev, aload, aloadC, afield, aindex, abin, abinI, aun, alen, acells, Nat.reduceEqDiff, Nat.reduceLT, Nat.reduceLeDiff, Nat.reduceAdd, reduceIte, reduceCtorEq, implies_true, ASt.add, setHp, asplice, Int.reduceEq, Int.reduceNe, Int.reduceLT, Int.reduceLE, Int.reduceSub, Int.reduceAdd, abuild, afill, abuildS, pureL, chunks, List.range, List.range.loop, Nat.reduceMul, Nat.reduceMod, apartF, apartI, aslice, evI, ASt.subst, AO.box, aval, pvals, ams, tys, mapTy_69, keyed_3, ]
end Go.Proofs.Ytbhkcejjehgfcaa
/- From the contract of a law's Go function to the law's statement. -/
namespace Go.Proofs.Ytbhkcejjehgfcaa
open Go.RowKit Go.Sort Go.ChangeShapes Go.WideShapes Go.ChangeAt

theorem trodAll_length {H : Type} {enc : TypeId × Value → H} {P : Program} {w : World} {base : Nat} {spare : Nat → Bool} {held : Bool} : ∀ {ts : List TypeId} {vs : List Value} {ds : List (DataW H)} {ps : List MemPlace}, DataW.TrodAll enc P w base spare held ts vs ds ps → ds.length = ts.length
  | [], [], [], _, _ => rfl
  | _ :: _, _ :: _, _ :: _, _, ⟨_, _, _, h, _⟩ => by simp [trodAll_length h]
theorem trodAll_below {H : Type} {enc : TypeId × Value → H} {P : Program} {W W' : World} (hl : laidOutB P = true) (hb : Below W.heap.size W W') : ∀ {ts : List TypeId} {vs : List Value} {ds : List (DataW H)} {ps : List MemPlace}, (∀ t ∈ ts, P.readableRec t = true ∧ t < P.types.size) →
    DataW.TrodAll enc P W 0 (fun _ => true) true ts vs ds ps → (∀ x ∈ ps, x.block < W.heap.size) → DataW.TrodAll enc P W' 0 (fun b => decide (b < W.heap.size)) true ts vs ds ps
  | [], [], [], _, _, h, _ => h
  | t :: _, _ :: _, _ :: _, _, hT, ⟨p, q, h1, h2, e⟩, hs =>
    ⟨p, q, Below.trod hl (hT t (List.mem_cons.2 (.inl rfl))).1 (hT t (List.mem_cons.2 (.inl rfl))).2 h1 hb (fun x hx => hs x (by rw [e]; exact List.mem_append_left _ hx)),
      trodAll_below hl hb (fun t ht => hT t (List.mem_cons.2 (.inr ht))) h2 (fun x hx => hs x (by rw [e]; exact List.mem_append_right _ hx)), e⟩

theorem law_post {H : Type} {enc : TypeId × Value → H} {P : Program} {f : Func} {s : ChangeSpec} {B : TypeId} (hl : laidOutB P = true) (hps : ∀ t ∈ f.params.toList, P.readableRec t = true ∧ t < P.types.size) (hres : f.resultTypes = #[B]) (hB : P.underlying B = some .bool)
    {W W' : World} (hb : Below W.heap.size W W') {args : Array Value} {ds gs : List (DataW H)} {before : List MemPlace} (hv : s.vars = []) (hW : DataW.Whole enc P f.params.toList s.vars false W args.toList ds gs before)
    (hspec : ∀ ds : List (DataW H), ds.length = f.params.size → s.fn H ds = { results := [.lit (.bool true)], args := ds }) :
    s.post enc P f false true false false W args (.bool true) W' := by
  have hW' := hW
  have hlt := hW.lt
  rw [hv] at hW
  obtain ⟨p, q, hA, hV, rfl, hfz, hnd⟩ := hW
  obtain ⟨rfl, rfl⟩ := trodVars_none hV
  have hsp := hspec ds (by rw [trodAll_length hA]; simp)
  have hlt' : ∀ x ∈ p, x.block < W.heap.size := fun x hx => hlt x (List.mem_append_left _ hx)
  refine ⟨ds, [], _, [], p, [], hW', ?_, ?_, ?_, hb.frame _, fun h => by cases h⟩
  · rw [List.append_nil, hsp, hres]
    exact trodAll_mk1 (shut_bool hB true)
  · rw [List.append_nil, hsp]
    exact trodAll_below hl hb hps hA hlt'
  · rw [List.append_nil, hsp, hv]; rfl

theorem law_lifted {H : Type} {enc : TypeId × Value → H} {C : Checked} {os : Os} {f : FuncId} {fn : Func} {s : ChangeSpec} {B : TypeId} (own : ownKnob C.prog.godebug = none) (started : os.Started) (noInit : C.prog.inits.idxOf? f = none) (hfn : C.prog.funcs[f]? = some fn)
    (witness : ∃ (w : World) (tape : Tape) (i : Input), w.os = os ∧ (w.forCall tape i).Shaped C.prog ∧ i.vars = [] ∧ Input.okWide C.prog (w.forCall tape i) .any w.heap.size f i ∧
      s.pre6 enc C.prog fn [] false (w.forCall tape i).memory i.args ∧ ({} : Assume).holds C.prog (lone (Frame.enter C.prog f i.args .normal) [] (w.forCall tape i)))
    (hl : laidOutB C.prog = true) (hps : (fn.params.toList.all fun t => C.prog.readableRec t && decide (t < C.prog.types.size)) = true) (hres : fn.resultTypes = #[B]) (hB : C.prog.underlying B = some .bool) (hv : s.vars = [])
    (hspec : ∀ ds : List (DataW H), ds.length = fn.params.size → s.fn H ds = { results := [.lit (.bool true)], args := ds })
    (contract : ∀ (W : World) (base : Nat) (args : Array Value) (ds : List (DataW H)) (p : List MemPlace),
      (∀ (j : Nat) t v, fn.params[j]? = some t → args[j]? = some v → Value.okWide C.prog W .any base t v) →
      DataW.TrodAll enc C.prog W 0 (fun _ => true) true fn.params.toList args.toList ds p → (∀ x ∈ p, x.block < W.heap.size) → W.noneFrozen p →
      (DataW.weightsEach C.prog fn.params.toList ds).all (· ≤ reachBytes) = true → W.ShapedOpen C.prog →
      Calls C.prog f args W (Gives (.bool true) W)) :
    ReturnsInHanded {} C os f .any (s.pre6 enc C.prog fn [] false) (s.post enc C.prog fn false true false false) := by
  refine returnsInHanded_of_change_shaped own started noInit hfn witness ?_
  intro W base args ds gs before hval hW _ hw hsh _
  have hW' := hW
  have hlt := hW.lt
  rw [hv] at hW
  obtain ⟨p, q, hA, hV, rfl, hfz, _⟩ := hW
  obtain ⟨rfl, rfl⟩ := trodVars_none hV
  have hnf : W.noneFrozen p := fun b off h => hfz b off (List.mem_append_left _ h)
  have hT : ∀ t ∈ fn.params.toList, C.prog.readableRec t = true ∧ t < C.prog.types.size := fun t ht => by
    have := List.all_eq_true.1 hps t ht
    simpa using this
  refine (contract W base args ds p hval hA (fun x hx => hlt x (List.mem_append_left _ hx)) hnf ?_ hsh).mono fun e W' h => ?_
  · simpa [ChangeSpec.plain, DataSpec.varTypes, hv] using hw
  · obtain ⟨rfl, q, rfl⟩ := h
    exact ⟨_, rfl, law_post hl hT hres hB (gw_below _ _) hv hW' hspec⟩

/-! ### Arguments by value -/
theorem cell_int {P : Program} {w : World} {r : Reach} {base : Nat} {u : TypeId} {v : Value} {k : IntKind} (hu : P.underlying u = some (.int k)) (h : Cell.okWide P w r base u v) : ∃ n, v = .int k n ∧ k.has n := by
  cases v <;> simp [Cell.okWide, Cell.ok, hu] at h
  obtain ⟨rfl, h2⟩ := h
  exact ⟨_, rfl, h2⟩
theorem cell_bool {P : Program} {w : World} {r : Reach} {base : Nat} {u : TypeId} {v : Value} (hu : P.underlying u = some .bool) (h : Cell.okWide P w r base u v) : ∃ b, v = .bool b := by
  cases v <;> simp [Cell.okWide, Cell.ok, hu] at h
  exact ⟨_, rfl⟩
theorem has_i64 {n : Int} (h : IntKind.i64.has n) : -9223372036854775808 ≤ n ∧ n ≤ 9223372036854775807 := by
  simp only [IntKind.has, IntKind.min, IntKind.max, IntKind.bits, IntKind.signed] at h
  simpa using h
theorem okWide_row {P : Program} {w : World} {r : Reach} {base : Nat} {t : TypeId} {v : Value} {ts : List TypeId} {n : Nat} (hu : (match P.underlying t with | some (.struct _) | some (.array _ _) => true | _ => false) = true) (hts : P.cellTypes P.depth t = some ts) (hn : P.cellsOf t = n) (hl : ts.length = n)
    (h : Value.okWide P w r base t v) : ∃ cs, v = .agg cs ∧ cs.size = n ∧ ∀ (i : Nat) x u, cs[i]? = some x → ts[i]? = some u → Cell.okWide P w r base u x := by
  unfold Value.okWide at h
  have h' : ∃ cs, v = .agg cs ∧ cs.size = P.cellsOf t ∧ Row.okWide P w r base t cs := by
    revert h hu
    cases P.underlying t with
    | none => intro hu; simp at hu
    | some d => cases d <;> intro hu <;> first | (simp at hu; done) | exact fun h => h
  obtain ⟨cs, rfl, hs, ts', hts', _, hc⟩ := h'
  rw [hts] at hts'
  obtain rfl : ts = ts' := Option.some.inj hts'
  refine ⟨cs, rfl, hs.trans hn, fun i x u hx hi => ?_⟩
  obtain ⟨u', hu', hok⟩ := hc i x hx
  have hlt : i < n := by
    have := (List.getElem?_eq_some_iff.1 hi).1
    omega
  rw [Nat.mod_eq_of_lt (by omega), hi] at hu'
  obtain rfl : u = u' := Option.some.inj hu'
  exact hok

end Go.Proofs.Ytbhkcejjehgfcaa
/- Threads as they come in. -/
namespace Go.Proofs.Ytbhkcejjehgfcaa
open Go.RowKit Go.Sort Go.ChangeShapes Go.WideShapes Go.ChangeAt

set_option maxRecDepth 100000
variable {H : Type} {enc : TypeId × Value → H} {W : World} {base : Nat} {spare : Nat → Bool} {held : Bool}
def PRs (W : World) (ps : List PV) (cs : List Value) : Prop := cs.length = ps.length ∧ ∀ (j : Nat) p v, ps[j]? = some p → cs[j]? = some v → PR (fun _ => False) W p v
theorem PRs.nil : PRs W [] [] := ⟨rfl, fun j p v h => by simp at h⟩
theorem PRs.cons {p : PV} {v : Value} {ps : List PV} {cs : List Value} (h : PR (fun _ => False) W p v) (k : PRs W ps cs) : PRs W (p :: ps) (v :: cs) := ⟨by simp [k.1], fun j p' v' h1 h2 => by
  cases j with
  | zero => simp at h1 h2; subst h1; subst h2; exact h
  | succ j => exact k.2 j p' v' (by simpa using h1) (by simpa using h2)⟩
theorem PRs.app {ps ps' : List PV} {cs cs' : List Value} (h : PRs W ps cs) (k : PRs W ps' cs') : PRs W (ps ++ ps') (cs ++ cs') := by
  induction ps generalizing cs with
  | nil =>
    have : cs = [] := List.eq_nil_of_length_eq_zero h.1
    subst this; exact k
  | cons p r ih =>
    cases cs with
    | nil => have := h.1; simp at this
    | cons v c => exact .cons (h.2 0 p v rfl rfl) (ih ⟨by have := h.1; simpa using this, fun j p' v' h1 h2 => h.2 (j + 1) p' v' (by simpa using h1) (by simpa using h2)⟩)
theorem split2 {α : Type} (cs : List α) {a b : Nat} (h : cs.length = a + b) : cs = (cs.drop 0).take a ++ (cs.drop a).take b := by
  rw [List.drop_zero, List.take_of_length_le (l := cs.drop a) (by simp; omega), List.take_append_drop]
theorem split3 {α : Type} (cs : List α) {a b c : Nat} (h : cs.length = a + b + c) : cs = (cs.drop 0).take a ++ (cs.drop a).take b ++ (cs.drop (a + b)).take c := by
  rw [List.drop_zero, List.take_of_length_le (l := cs.drop (a + b)) (by simp; omega)]
  rw [List.append_assoc, ← List.drop_drop, List.take_append_drop, List.take_append_drop]
theorem split4 {α : Type} (cs : List α) (h : cs.length = 4) : cs = (cs.drop 0).take 1 ++ (cs.drop 1).take 1 ++ (cs.drop 2).take 1 ++ (cs.drop 3).take 1 := by
  match cs, h with
  | [a, b, c, d], _ => rfl
theorem one_int {n : Nat} {cs : List Value} {y : DataW H × List MemPlace} (h : DataW.trod enc Try.prog W base spare held n 3 cs = some y) : ∃ x : Int, cs = [.int .i64 x] := by
  obtain ⟨x, hx, _, wx⟩ := DataW.trod_int (by kernel_rfl : Try.prog.underlying 3 = some (.int .i64)) h
  exact ⟨x, hx⟩
theorem one_bool {n : Nat} {cs : List Value} {y : DataW H × List MemPlace} (h : DataW.trod enc Try.prog W base spare held n 4 cs = some y) : ∃ x, cs = [.bool x] := by
  obtain ⟨x, hx, _⟩ := DataW.trod_bool (by kernel_rfl : Try.prog.underlying 4 = some .bool) h
  exact ⟨x, hx⟩
theorem pick_of {n : Nat} {cs : List Value} {y : DataW H × List MemPlace} (h : DataW.trod enc Try.prog W base spare held n 44 cs = some y) : ∃ o f : Int, cs = [.int .i64 o, .int .i64 f] := by
  obtain ⟨xs, m, _, _, hl, hx, hf⟩ := DataW.trod_struct (P := Try.prog) (t := 44) rfl h
  have hx' : xs.length = 2 := hx
  have f0 := hf 0 _ rfl
  have f1 := hf 1 _ rfl
  rw [List.getElem?_eq_getElem (by omega)] at f0 f1
  obtain ⟨o, e0⟩ := one_int f0
  obtain ⟨f, e1⟩ := one_int f1
  have hc : Try.prog.cellsOf 3 = 1 := by kernel_rfl
  have hcl : Try.prog.cellsOf 44 = 2 := by kernel_rfl
  rw [hcl] at hl
  have hs := split2 cs (a := 1) (b := 1) hl
  refine ⟨o, f, ?_⟩
  rw [hs]
  change (cs.drop 0).take (Try.prog.cellsOf 3) = _ at e0
  rw [hc] at e0
  change (cs.drop 1).take (Try.prog.cellsOf 3) = _ at e1
  rw [hc] at e1
  rw [e0, e1]; rfl
theorem touch_of {n : Nat} {cs : List Value} {y : DataW H × List MemPlace} (h : DataW.trod enc Try.prog W base spare held n 40 cs = some y) : ∃ x : Tc, PRs W (tcC x) cs := by
  obtain ⟨xs, m, _, _, hl, hx, hf⟩ := DataW.trod_struct (P := Try.prog) (t := 40) rfl h
  have hx' : xs.length = 4 := hx
  have f0 := hf 0 _ rfl
  have f1 := hf 1 _ rfl
  have f2 := hf 2 _ rfl
  have f3 := hf 3 _ rfl
  rw [List.getElem?_eq_getElem (by omega)] at f0 f1 f2 f3
  obtain ⟨a, e0⟩ := one_int f0
  obtain ⟨b, e1⟩ := one_int f1
  obtain ⟨c, e2⟩ := one_int f2
  obtain ⟨d, e3⟩ := one_bool f3
  have hc : Try.prog.cellsOf 3 = 1 := by kernel_rfl
  have hb : Try.prog.cellsOf 4 = 1 := by kernel_rfl
  have hcl : Try.prog.cellsOf 40 = 4 := by kernel_rfl
  rw [hcl] at hl
  have hs := split4 cs hl
  refine ⟨⟨a, b, c, d⟩, ?_⟩
  rw [hs]
  change (cs.drop 0).take (Try.prog.cellsOf 3) = _ at e0
  rw [hc] at e0
  change (cs.drop 1).take (Try.prog.cellsOf 3) = _ at e1
  rw [hc] at e1
  change (cs.drop 2).take (Try.prog.cellsOf 3) = _ at e2
  rw [hc] at e2
  change (cs.drop 3).take (Try.prog.cellsOf 4) = _ at e3
  rw [hb] at e3
  rw [e0, e1, e2, e3]
  exact .cons (.val _ rfl) (.cons (.val _ rfl) (.cons (.val _ rfl) (.cons (.val _ rfl) .nil)))

/-- A slice, whose elements are known. -/
theorem sl_pr {α : Type} {n : Nat} {g : α → List PV} {e t : TypeId} (hu : Try.prog.underlying t = some (.slice e)) (hc : Try.prog.cellsOf e = n) (hg : ∀ x, (g x).length = n) (hn : 0 < n)
    (hel : ∀ m cs y, DataW.trod enc Try.prog W base spare held m e cs = some y → ∃ x, PRs W (g x) cs) {m : Nat} {cs : List Value} {y : DataW H × List MemPlace} (h : DataW.trod enc Try.prog W base spare held m t cs = some y) :
    ∃ (L : List α) (v : Value), cs = [v] ∧ PR (fun _ => False) W (.seq n (L.map g)) v := by
  rcases DataW.trod_slice hu h with ⟨h0, _⟩ | ⟨a, len, cap, elems, rest, k, _, hcs, _, _, hlc, hmax, hlen, hel', _⟩
  · exact ⟨[], _, h0, .nil n none 0 fun _ => rfl⟩
  · have hall : ∀ i, i < len → ∃ (x : α) (c : List Value), PRs W (g x) c ∧ ∀ j, j < n → W.cell? ((a.add (i * n)).add j) = c[j]? := fun i hi => by
      have hE := hel' i hi
      rw [List.getElem?_eq_getElem (by omega), Option.bind_eq_some_iff, hc] at hE
      obtain ⟨cs, hcs, hy⟩ := hE
      obtain ⟨_, hl, hat⟩ := World.cells?_some hcs
      obtain ⟨x, hx⟩ := hel _ _ _ hy
      exact ⟨x, cs, hx, fun j hj => hat j hj⟩
    by_cases h0 : 0 < len
    · obtain ⟨e0, c0, hp0, hc0⟩ := hall 0 h0
      have hl0 : c0.length = n := by rw [hp0.1, hg]
      have hc00 := hc0 0 hn
      obtain ⟨b, off, spot⟩ := a
      rw [List.getElem?_eq_getElem (by omega)] at hc00
      have hspot : spot = none := by
        have := World.cell?_spot hc00
        simpa [Addr.add] using this
      subst hspot
      have hall2 : ∀ i, i < len → ∃ (x : α) (c : List Value), PRs W (g x) c ∧ ∀ j, j < n → W.cell? ⟨b, off + i * n + j, none⟩ = c[j]? := fun i hi => by
        obtain ⟨x, c, h1, h2⟩ := hall i hi
        refine ⟨x, c, h1, fun j hj => ?_⟩
        have := h2 j hj
        rw [Go.WideShapes.add_plain, Go.WideShapes.add_plain] at this
        exact this
      have hOld : Old b W := by
        obtain ⟨x, c, h1, h2⟩ := hall2 0 h0
        have h3 := h2 0 hn
        have hl1 : c.length = n := by rw [h1.1, hg]
        rw [List.getElem?_eq_getElem (by omega)] at h3
        exact Old.of_cell h3
      let X : Fin len → α := fun i => (hall2 i.1 i.2).choose
      have hX : ∀ i : Fin len, ∃ c : List Value, PRs W (g (X i)) c ∧ ∀ j, j < n → W.cell? ⟨b, off + i.1 * n + j, none⟩ = c[j]? := fun i => (hall2 i.1 i.2).choose_spec
      have hlen2 : (((List.finRange len).map X).map g).length = len := by simp
      refine ⟨(List.finRange len).map X, .slice (some ⟨b, off, none⟩) (((List.finRange len).map X).map g).length cap, by rw [hcs, hlen2], ?_⟩
      have key : ∀ k r j x, (((List.finRange len).map X).map g)[k]? = some r → r[j]? = some x → ∃ v, W.cell? ⟨b, off + k * n + j, none⟩ = some v ∧ PR (fun _ => False) W x v := fun k r j x hk hx => by
        simp only [List.getElem?_map, Option.map_eq_some_iff] at hk
        obtain ⟨y, ⟨i, hi, rfl⟩, rfl⟩ := hk
        have hki : i.1 = k := by
          obtain ⟨h1, h2⟩ := List.getElem?_eq_some_iff.1 hi
          rw [← h2]; simp
        obtain ⟨c, h1, h2⟩ := hX i
        have hjn : j < n := by rw [← hg (X i)]; exact (List.getElem?_eq_some_iff.1 hx).1
        have hcl : c.length = n := by rw [h1.1, hg]
        have h3 := h2 j hjn
        rw [hki, List.getElem?_eq_getElem (by omega)] at h3
        exact ⟨_, h3, h1.2 j x _ hx (List.getElem?_eq_getElem (by omega))⟩
      refine .seq n b off cap _ (fun k j => (W.cell? ⟨b, off + k * n + j, none⟩).getD undef) hOld id (by rw [hlen2]; exact hlc) hmax (fun r hr => ?_) (fun k r j x hk hx => ?_) (fun k r j x hk hx => ?_)
      · obtain ⟨y, _, rfl⟩ := List.mem_map.1 hr; exact hg y
      · obtain ⟨v, h1, _⟩ := key k r j x hk hx
        rw [h1]; rfl
      · obtain ⟨v, h1, h2⟩ := key k r j x hk hx
        rw [h1]; exact h2
    · obtain rfl : len = 0 := by omega
      exact ⟨[], _, hcs, .nil n (some a) cap fun e => by cases e⟩
theorem step_of {n : Nat} {cs : List Value} {y : DataW H × List MemPlace} (h : DataW.trod enc Try.prog W base spare held n 48 cs = some y) : ∃ s : St, PRs W (stC s) cs := by
  obtain ⟨xs, m, _, _, hl, hx, hf⟩ := DataW.trod_struct (P := Try.prog) (t := 48) rfl h
  have hx' : xs.length = 3 := hx
  have f0 := hf 0 _ rfl
  have f1 := hf 1 _ rfl
  have f2 := hf 2 _ rfl
  rw [List.getElem?_eq_getElem (by omega)] at f0 f1 f2
  obtain ⟨g, c, e0⟩ := pick_of f0
  obtain ⟨gs, gv, e1, r1⟩ := sl_pr (e := 3) (n := 1) (g := inC) (by kernel_rfl) (by kernel_rfl) (fun _ => rfl) (by omega) (fun m cs y h => by obtain ⟨x, hx⟩ := one_int h; subst hx; exact ⟨x, .cons (.val _ rfl) .nil⟩) f1
  obtain ⟨ts, tv, e2, r2⟩ := sl_pr (e := 40) (n := 4) (g := tcC) (by kernel_rfl) (by kernel_rfl) (fun _ => rfl) (by omega) (fun m cs y h => touch_of h) f2
  have h0 : Try.prog.cellsOf 44 = 2 := by kernel_rfl
  have h1 : Try.prog.cellsOf 45 = 1 := by kernel_rfl
  have h2 : Try.prog.cellsOf 46 = 1 := by kernel_rfl
  have hcl : Try.prog.cellsOf 48 = 4 := by kernel_rfl
  rw [hcl] at hl
  have hs := split3 cs (a := 2) (b := 1) (c := 1) hl
  refine ⟨⟨g, c, gs, ts⟩, ?_⟩
  rw [hs]
  change (cs.drop 0).take (Try.prog.cellsOf 44) = _ at e0
  rw [h0] at e0
  change (cs.drop 2).take (Try.prog.cellsOf 45) = _ at e1
  rw [h1] at e1
  change (cs.drop (2 + 1)).take (Try.prog.cellsOf 46) = _ at e2
  rw [h2] at e2
  rw [e0, e1, e2]
  exact .cons (.val _ rfl) (.cons (.val _ rfl) (.cons r1 (.cons r2 .nil)))
theorem thread_of {n : Nat} {cs : List Value} {y : DataW H × List MemPlace} (h : DataW.trod enc Try.prog W base spare held n 30 cs = some y) : ∃ l : List St, PRs W [thP l] cs := by
  obtain ⟨l, v, rfl, hp⟩ := sl_pr (e := 48) (n := 4) (g := stC) (by kernel_rfl) (by kernel_rfl) (fun _ => rfl) (by omega) (fun m cs y h => step_of h) h
  exact ⟨l, .cons hp .nil⟩
theorem slice_of_cells {P : Program} {w : World} {r : Reach} {base : Nat} {t e : TypeId} {v x : Value} (hu : P.underlying t = some (.slice e)) (hok : Value.okWide P w r base t v) (h : v.cells.toList = [x]) : v = x := by
  unfold Value.okWide at hok
  rw [hu] at hok
  cases v <;> simp [Value.cells] at h <;> first | exact h | (simp [Cell.okWide, Cell.ok, hu] at hok)
theorem open_threads {r : Reach} {v : Value} {d : DataW H} {p : List MemPlace} (hval : Value.okWide Try.prog W r base 22 v)
    (h : DataW.Trod enc Try.prog W 0 (fun _ => true) true 22 v d p) : ∃ ths : List (List St), PR (fun _ => False) W (thsP ths) v := by
  obtain ⟨fuel, h⟩ := h
  obtain ⟨ths, x, e, hp⟩ := sl_pr (e := 30) (n := 1) (g := fun l => [thP l]) (by kernel_rfl) (by kernel_rfl) (fun _ => rfl) (by omega) (fun m cs y h => thread_of h) h
  rw [slice_of_cells (e := 30) (by kernel_rfl) hval e]
  exact ⟨ths, hp⟩
theorem Try.own : ownKnob Try.prog.godebug = none := by kernel_rfl
/-- The contract of a law's function, met at its arguments. -/
theorem PureC.gives {P : Program} {f : FuncId} {xs : List AV} {b : Bool} {vs : Array Value} (h : PureC P f xs (.bool b)) (hx : ARs 0 (fun _ => False) noLoc W xs vs.toList) : Calls P f vs W (Gives (.bool b) W) := by
  have := h (fun _ => False) W vs.toList (fun _ h => h.elim) hx
  refine Calls.mono this fun e w' ⟨v, h1, h2, h3⟩ => ?_
  subst h1
  exact ⟨by rw [h3.val], gw_of_below h2.toBelow⟩
end Go.Proofs.Ytbhkcejjehgfcaa
/- The program is laid out. -/
namespace Go.Proofs.Ytbhkcejjehgfcaa
open Go.RowKit Go.Sort Go.ChangeShapes Go.WideShapes Go.ChangeAt
theorem Try.laidOut : laidOutB Try.prog = true := by kernel_rfl
end Go.Proofs.Ytbhkcejjehgfcaa
/- 'exchanging two adjacent threads does not change the number of classes' -/
namespace Go.Proofs.Ytbhkcejjehgfcaa
open Go.RowKit Go.Sort Go.ChangeShapes Go.WideShapes Go.ChangeAt

theorem has_u8 {n : Int} (h : IntKind.u8.has n) : 0 ≤ n ∧ n < 256 := by
  simp only [IntKind.has, IntKind.min, IntKind.max, IntKind.bits, IntKind.signed] at h
  simp at h; omega
set_option maxRecDepth 100000 in
theorem open_u8 {W : World} {r : Reach} {base : Nat} {v : Value} (hval : Value.okWide Try.prog W r base 5 v) : ∃ x : Nat, x < 256 ∧ v = .int .u8 (x : Int) := by
  unfold Value.okWide at hval
  rw [show Try.prog.underlying 5 = some (.int .u8) by kernel_rfl] at hval
  cases v <;> simp [Cell.okWide, Cell.ok, show Try.prog.underlying 5 = some (.int .u8) by kernel_rfl] at hval
  rename_i k n
  obtain ⟨rfl, h⟩ := hval
  have hh := has_u8 h
  exact ⟨n.toNat, by omega, by rw [show ((n.toNat : Nat) : Int) = n by omega]⟩
set_option maxRecDepth 100000 in
theorem SleepRenumbered_lifted (os : Os) (started : os.Started) (H : Type) (enc : TypeId × Value → H) :
    ReturnsInHanded {} Try.checked os 7 .any (Rows.sleepRenumberedSpec.pre6 enc Try.prog Try.f7 Rows.sleepRenumberedRow.domain false) (Rows.sleepRenumberedSpec.post enc Try.prog Try.f7 false true false false) := by
  refine law_lifted (C := Try.checked) (B := 4) Try.own started (by kernel_rfl) Try.func7
    (ChangeSpec.witness6 (enc := enc) (C := Try.checked) false ⟨#[], #[.slice none 0 0, .int .u8 0], []⟩ 8 (by kernel_rfl) (by kernel_rfl) (by kernel_rfl) (by kernel_rfl)) Try.laidOut (by kernel_rfl) (by kernel_rfl) (by kernel_rfl) rfl
    (fun ds h => by match ds, h with | [_, _], _ => rfl) ?_
  intro W base args ds p hval0 hA0 hlt hnf hw hsh
  have hval : ∀ (j : Nat) t v, Try.f7.params[j]? = some t → args[j]? = some v → Value.okWide Try.prog W .any base t v := hval0
  have hA : DataW.TrodAll enc Try.prog W 0 (fun _ => true) true Try.f7.params.toList args.toList ds p := hA0
  clear hval0 hA0
  rw [Try.params7] at hA hval
  obtain ⟨v0, v1, d0, d1, p0, p1, rfl, rfl, rfl, h0, h1⟩ := trodAll_two hA
  obtain ⟨ths, hp⟩ := open_threads (hval 0 22 _ rfl rfl) h0
  obtain ⟨x, hx2, rfl⟩ := open_u8 (hval 1 5 _ rfl rfl)
  refine (sleepRen_ok ths x hx2).gives ⟨rfl, fun j x v hx hv => ?_⟩
  match j, hx, hv with
  | 0, hx, hv => cases hx; cases hv; exact .p _ _ hp
  | 1, hx, hv => cases hx; cases hv; exact .of_val _ rfl

theorem SleepRenumbered_holds : Rows.SleepRenumberedSaid :=
  OpenClaim.holds_of_wide 7 Try.f7 rfl rfl rfl rfl rfl rfl rfl ⟨rfl, rfl, rfl, rfl, rfl⟩ rfl rfl rfl rfl rfl (by kernel_rfl) Try.func7 (by kernel_rfl)
    (of_decide_eq_true (by kernel_rfl)) (by unfold Func.isWrapper; first | (rw [if_pos (by decide +kernel)]; kernel_rfl) | (rw [if_neg (by decide +kernel)]; exact ⟨rfl, rfl⟩))
    (fun os started H enc _ => SleepRenumbered_lifted os started H enc)

end Go.Proofs.Ytbhkcejjehgfcaa
