/- The plain laws of epochs and sets of reads. -/
import Derived.Test.YtkfngaobgnijmaaEpM
namespace Go.Proofs.Ytkfngaobgnijmaa
open Go.RowKit Go.Sort

/-- Two clocks agree on the eight goroutines. -/
def Eq8 (c d : Clk) : Prop := ∀ i, i < 8 → c i = d i
theorem Eq8.rfl' (c : Clk) : Eq8 c c := fun _ _ => rfl
theorem Eq8.symm' {c d : Clk} (h : Eq8 c d) : Eq8 d c := fun i hi => (h i hi).symm
theorem Eq8.trans' {c d e : Clk} (h : Eq8 c d) (k : Eq8 d e) : Eq8 c e := fun i hi => (h i hi).trans (k i hi)
theorem eq8_iff (c d : Clk) : clE c d = true ↔ Eq8 c d := clE_iff c d
def Rd8 (a b : RD) : Prop := a.s = b.s ∧ a.g = b.g ∧ a.n = b.n ∧ Eq8 a.c b.c
theorem rd8_iff (a b : RD) : rdE a b = true ↔ Rd8 a b := by simp [rdE, Rd8, eq8_iff]
theorem Rd8.rfl' (a : RD) : Rd8 a a := ⟨rfl, rfl, rfl, Eq8.rfl' _⟩
theorem Rd8.symm' {a b : RD} (h : Rd8 a b) : Rd8 b a := ⟨h.1.symm, h.2.1.symm, h.2.2.1.symm, h.2.2.2.symm'⟩
theorem Rd8.trans' {a b c : RD} (h : Rd8 a b) (k : Rd8 b c) : Rd8 a c := ⟨h.1.trans k.1, h.2.1.trans k.2.1, h.2.2.1.trans k.2.2.1, h.2.2.2.trans' k.2.2.2⟩

theorem cnt_congr {c d : Clk} : ∀ k, (∀ i, i < k → c i = d i) → cnt c k = cnt d k
  | 0, _ => rfl
  | k + 1, h => by simp only [cnt]; rw [cnt_congr k (fun i hi => h i (by omega)), h k (by omega)]
theorem lg_congr {c d : Clk} : ∀ k, (∀ i, i < k → c i = d i) → lg c k = lg d k
  | 0, _ => rfl
  | k + 1, h => by simp only [lg]; rw [lg_congr k (fun i hi => h i (by omega)), h k (by omega)]
theorem ln_congr {c d : Clk} : ∀ k, (∀ i, i < k → c i = d i) → ln c k = ln d k
  | 0, _ => rfl
  | k + 1, h => by simp only [ln]; rw [ln_congr k (fun i hi => h i (by omega)), h k (by omega)]
theorem cnt_mono (c : Clk) (k : Nat) : ∀ m, cnt c k ≤ cnt c (k + m)
  | 0 => Nat.le_refl _
  | m + 1 => by have := cnt_mono c k m; show cnt c k ≤ cnt c (k + m) + _; omega
theorem cnt_pos {c : Clk} {k i : Nat} (hi : i < k) (h : 0 < c i) : 0 < cnt c k := by
  have h1 : cnt c (i + 1) = cnt c i + 1 := cnt_hi h
  have h2 := cnt_mono c (i + 1) (k - (i + 1))
  rw [show i + 1 + (k - (i + 1)) = k by omega] at h2
  omega
theorem cnt_two {c : Clk} {k i j : Nat} (hij : i < j) (hj : j < k) (h : 0 < c i) (h' : 0 < c j) : 1 < cnt c k := by
  have h1 : cnt c (j + 1) = cnt c j + 1 := cnt_hi h'
  have h3 := cnt_pos hij h
  have h2 := cnt_mono c (j + 1) (k - (j + 1))
  rw [show j + 1 + (k - (j + 1)) = k by omega] at h2
  omega
theorem cnt_zero {c : Clk} : ∀ k, (∀ i, i < k → ¬ 0 < c i) → cnt c k = 0
  | 0, _ => rfl
  | k + 1, h => by rw [cnt_lo (h k (by omega)), cnt_zero k (fun i hi => h i (by omega))]
theorem lg_none {c : Clk} : ∀ k, (∀ i, i < k → ¬ 0 < c i) → lg c k = 0 ∧ ln c k = 0
  | 0, _ => ⟨rfl, rfl⟩
  | k + 1, h => by
    have := lg_none k (fun i hi => h i (by omega))
    simp [lg, ln, h k (by omega), this]
theorem lg_last {c : Clk} {i : Nat} (hp : 0 < c i) : ∀ k, i < k → (∀ j, i < j → j < k → ¬ 0 < c j) → lg c k = i ∧ ln c k = c i
  | 0, h, _ => by omega
  | k + 1, h, hn => by
    by_cases e : i = k
    · subst e; simp [lg, ln, hp]
    · have := lg_last hp k (by omega) (fun j h1 h2 => hn j h1 (by omega))
      simp [lg, ln, hn k (by omega) (by omega), this]
/-- At most one positive component: there is none, or there is just one. -/
theorem one_cases {c : Clk} (h : ¬ 1 < cnt c 8) : (∀ i, i < 8 → ¬ 0 < c i) ∨ ∃ i, i < 8 ∧ 0 < c i ∧ ∀ j, j < 8 → 0 < c j → j = i := by
  by_cases hex : ∃ i, i < 8 ∧ 0 < c i
  · obtain ⟨i, hi, hp⟩ := hex
    refine .inr ⟨i, hi, hp, fun j hj hq => ?_⟩
    by_cases e : j = i
    · exact e
    · exfalso
      rcases Nat.lt_or_gt_of_ne e with hlt | hlt
      · exact h (cnt_two hlt hi hq hp)
      · exact h (cnt_two hlt hj hp hq)
  · exact .inl fun i hi hp => hex ⟨i, hi, hp⟩
theorem compact_hi {c : Clk} (h : 1 < cnt c 8) : compactM c = ⟨true, 0, 0, c⟩ := by simp [compactM, h]
theorem compact_none {c : Clk} (h : ∀ i, i < 8 → ¬ 0 < c i) : compactM c = zr := by
  have h1 := cnt_zero 8 h
  have h2 := lg_none 8 h
  simp [compactM, h1, h2]
theorem compact_one {c : Clk} {i : Nat} (hi : i < 8) (hp : 0 < c i) (hu : ∀ j, j < 8 → 0 < c j → j = i) : compactM c = ⟨false, i, c i, zc⟩ := by
  have h1 : ¬ 1 < cnt c 8 := by
    intro h
    have hc : ∀ k, k ≤ 8 → cnt c k ≤ if i < k then 1 else 0 := by
      intro k
      induction k with
      | zero => intro _; simp [cnt]
      | succ k ih =>
        intro hk
        have := ih (by omega)
        by_cases hq : 0 < c k
        · have := hu k (by omega) hq
          subst this
          rw [cnt_hi hq]
          simp at this ⊢; omega
        · rw [cnt_lo hq]
          split at this <;> split <;> omega
    have := hc 8 (Nat.le_refl _)
    rw [if_pos hi] at this; omega
  have h2 := lg_last hp 8 hi (fun j h3 h4 h5 => by have := hu j h4 h5; omega)
  simp [compactM, h1, h2]
theorem compact_congr {c d : Clk} (h : Eq8 c d) : Rd8 (compactM c) (compactM d) := by
  have h1 := cnt_congr 8 h
  have h2 := lg_congr 8 h
  have h3 := ln_congr 8 h
  unfold compactM
  rw [h1, h2, h3]
  split
  · exact ⟨rfl, rfl, rfl, h⟩
  · exact Rd8.rfl' _
theorem first_none {c : Clk} : ∀ m k, (∀ i, k ≤ i → i < k + m → ¬ 0 < c i) → firstM c k m = zr
  | 0, _, _ => rfl
  | m + 1, k, h => by
    simp only [firstM, if_neg (h k (Nat.le_refl _) (by omega))]
    exact first_none m (k + 1) (fun i h1 h2 => h i (by omega) (by omega))
theorem first_one {c : Clk} {i : Nat} (hp : 0 < c i) : ∀ m k, k ≤ i → i < k + m → (∀ j, k ≤ j → j < i → ¬ 0 < c j) → firstM c k m = ⟨false, i, c i, zc⟩
  | 0, k, h1, h2, _ => by omega
  | m + 1, k, h1, h2, hn => by
    by_cases e : k = i
    · subst e; simp [firstM, hp]
    · simp only [firstM, if_neg (hn k (Nat.le_refl _) (by omega))]
      exact first_one hp m (k + 1) (by omega) (by omega) (fun j h3 h4 => hn j (by omega) h4)
/-- The two ways to bring a clock without negative components into form. -/
theorem form_eq {c : Clk} (hn : nnB c = true) : formR c = compactM c := by
  have hp : posM c = cnt c 8 := by simp [posM, hn]
  by_cases h : 1 < cnt c 8
  · rw [compact_hi h]
    unfold formR
    rw [if_pos (by omega)]
  · unfold formR
    rw [if_neg (by omega)]
    rcases one_cases h with h0 | ⟨i, hi, hq, hu⟩
    · rw [compact_none h0, first_none 8 0 (fun i _ hi => h0 i (by omega))]
    · rw [compact_one hi hq hu, first_one hq 8 0 (by omega) (by omega) (fun j _ hj hq' => by have := hu j (by omega) hq'; omega)]
theorem nnB_congr {c d : Clk} (h : Eq8 c d) (hc : nnB c = true) : nnB d = true := by
  rw [nnB_iff] at *
  intro j hj; rw [← h j hj]; exact hc j hj
theorem nnB_zc : nnB zc = true := by rw [nnB_iff]; intro j _; simp
theorem nnB_upd {c : Clk} {i : Nat} {x : Int} (h : nnB c = true) (hx : 0 ≤ x) : nnB (upd c i x) = true := by
  rw [nnB_iff] at *
  intro j hj
  simp only [upd]; split
  · exact hx
  · exact h j hj
theorem compact_single {g n : Int} (hp : 0 ≤ g ∧ g < 8) (hn : 0 < n) {c : Clk} (hc : Eq8 c zc) : compactM (upd c g.toNat n) = ⟨false, g, n, zc⟩ := by
  have h := compact_one (c := upd c g.toNat n) (i := g.toNat) (by omega) (by simp [upd, hn]) (fun j hj hq => by
    simp only [upd] at hq
    split at hq
    · assumption
    · rw [hc j hj] at hq; simp at hq)
  rw [h]
  simp [upd]; omega

/-! ### Valid sets -/
theorem expand_zero {g n : Int} {c : Clk} {s : Bool} (h : ¬ (plc g = true ∧ 0 < n)) : expandM ⟨s, g, n, c⟩ = c := by simp only [expandM, if_neg h]
theorem expand_one {g n : Int} {c : Clk} {s : Bool} (h : plc g = true ∧ 0 < n) : expandM ⟨s, g, n, c⟩ = upd c g.toNat n := by simp only [expandM, if_pos h]
theorem valid_iff (r : RD) : validM r = true ↔ nnB r.c = true ∧ ((r.s = true ∧ r.g = 0 ∧ r.n = 0 ∧ 1 < cnt r.c 8) ∨ (r.s = false ∧ Eq8 r.c zc ∧ ((r.g = 0 ∧ r.n = 0) ∨ (plc r.g = true ∧ 0 < r.n)))) := by
  obtain ⟨s, g, n, c⟩ := r
  simp only [validM, Bool.and_eq_true, rd8_iff]
  refine and_congr_right fun hnn => ?_
  cases s
  · constructor
    · rintro ⟨h1, h2, h3, h4⟩
      refine .inr ⟨rfl, ?_⟩
      have hlow : ¬ 1 < cnt (expandM ⟨false, g, n, c⟩) 8 := by
        intro h; rw [compact_hi h] at h1; exact absurd h1 (by simp)
      have hcz : Eq8 c zc := by
        have : (compactM (expandM ⟨false, g, n, c⟩)).c = zc := by simp [compactM, hlow]
        rw [this] at h4; exact h4.symm'
      refine ⟨hcz, ?_⟩
      by_cases hg : plc g = true ∧ 0 < n
      · exact .inr hg
      · rw [expand_zero hg, compact_none (fun i hi => by rw [hcz i hi]; simp)] at h2 h3
        exact .inl ⟨h2.symm, h3.symm⟩
    · rintro (⟨h, _⟩ | ⟨_, hcz, h⟩)
      · exact absurd h (by simp)
      · by_cases hg : plc g = true ∧ 0 < n
        · rw [expand_one hg, compact_single ((plc_iff g).1 hg.1) hg.2 hcz]
          exact ⟨rfl, rfl, rfl, hcz.symm'⟩
        · obtain ⟨rfl, rfl⟩ := h.resolve_right hg
          rw [expand_zero hg, compact_none (fun i hi => by rw [hcz i hi]; simp)]
          exact ⟨rfl, rfl, rfl, hcz.symm'⟩
  · constructor
    · rintro ⟨h1, h2, h3, h4⟩
      have hhi : 1 < cnt (expandM ⟨true, g, n, c⟩) 8 := by
        by_cases h : 1 < cnt (expandM ⟨true, g, n, c⟩) 8
        · exact h
        · simp [compactM, h] at h1
      rw [compact_hi hhi] at h2 h3
      have e1 : g = 0 := h2.symm
      have e2 : n = 0 := h3.symm
      subst e1; subst e2
      rw [expand_zero (by simp)] at hhi
      exact .inl ⟨rfl, rfl, rfl, hhi⟩
    · rintro (⟨_, h1, h2, h3⟩ | ⟨h, _⟩)
      · have e1 : g = 0 := h1
        have e2 : n = 0 := h2
        subst e1; subst e2
        rw [expand_zero (by simp), compact_hi h3]
        exact Rd8.rfl' _
      · exact absurd h (by simp)
theorem valid_eq (r : RD) : validM r = validR r := by
  rw [Bool.eq_iff_iff, valid_iff]
  obtain ⟨s, g, n, c⟩ := r
  cases s
  · simp only [validR, Bool.false_eq_true, false_and, false_or, if_false, Bool.and_eq_true, Bool.or_eq_true, beq_iff_eq, eq8_iff, decide_eq_true_eq, true_and]
    constructor
    · rintro ⟨_, h1, h2⟩; exact ⟨h1, h2⟩
    · rintro ⟨h1, h2⟩; exact ⟨nnB_congr h1.symm' nnB_zc, h1, h2⟩
  · simp only [validR, if_true, Bool.and_eq_true, beq_iff_eq, decide_eq_true_eq, true_and, Bool.true_eq_false, false_and, or_false, posM]
    constructor
    · rintro ⟨h0, h1, h2, h3⟩; rw [if_pos h0]; exact ⟨⟨h1, h2⟩, by omega⟩
    · rintro ⟨⟨h1, h2⟩, h3⟩
      split at h3
      · rename_i h0; exact ⟨h0, h1, h2, by omega⟩
      · omega
/-- The clock of a valid set. -/
theorem set_expand {r : RD} (h : validM r = true) : Eq8 (expandM r) (setR r) ∧ nnB (expandM r) = true := by
  have hr := h; rw [valid_eq] at hr
  obtain ⟨s, g, n, c⟩ := r
  obtain ⟨hnn, hc⟩ := (valid_iff _).1 h
  rcases hc with ⟨h1, h2, h3, h4⟩ | ⟨h1, h2, h3⟩
  · have e0 : s = true := h1
    have e1 : g = 0 := h2
    have e2 : n = 0 := h3
    subst e0; subst e1; subst e2
    rw [expand_zero (by simp)]
    exact ⟨by simp [setR, hr, Eq8], hnn⟩
  · have e0 : s = false := h1
    subst e0
    by_cases hg : plc g = true ∧ 0 < n
    · rw [expand_one hg]
      refine ⟨?_, nnB_upd hnn (by omega)⟩
      intro i hi
      simp only [setR, hr, if_true, Bool.false_eq_true, if_false, upd]
      split
      · rfl
      · exact h2 i hi
    · have h4 : g = 0 ∧ n = 0 := h3.resolve_right hg
      obtain ⟨e1, e2⟩ := h4
      subst e1; subst e2
      rw [expand_zero hg]
      refine ⟨?_, hnn⟩
      intro i hi
      have := h2 i hi
      simp only [setR, hr, if_true, Bool.false_eq_true, if_false, upd]
      split <;> simp_all
theorem set_eq (r : RD) : Eq8 (setM r) (setR r) := by
  cases h : validM r
  · have hr := h; rw [valid_eq] at hr
    simp [setM, setR, h, hr, Eq8]
  · simp only [setM, h, if_true]; exact (set_expand h).1

/-! ### Add -/
theorem add_eq (r : RD) (g n : Int) (c : Clk) : Rd8 (addM r g n c) (addR r g n c) := by
  unfold addM addR
  rw [← valid_eq]
  split
  · rename_i h
    obtain ⟨hv, hp, hn⟩ := h
    have hp' := (plc_iff g).1 hp
    split
    · rw [compact_single hp' hn (Eq8.rfl' _)]; exact Rd8.rfl' _
    · obtain ⟨h1, h2⟩ := set_expand hv
      have hg : expandM r g.toNat = setR r g.toNat := h1 _ (by omega)
      have key : Eq8 (upd (expandM r) g.toNat (imax (expandM r g.toNat) n)) (if setR r g.toNat < n then upd (setR r) g.toNat n else setR r) := by
        intro i hi
        simp only [imax, hg]
        split
        · simp only [upd]; split
          · rfl
          · exact h1 i hi
        · simp only [upd]; split
          · rename_i e; subst e; rfl
          · exact h1 i hi
      have hnn : nnB (if setR r g.toNat < n then upd (setR r) g.toNat n else setR r) = true := by
        refine nnB_congr key (nnB_upd h2 ?_)
        unfold imax; split
        · omega
        · exact (nnB_iff _).1 h2 _ (by omega)
      rw [form_eq hnn]
      exact compact_congr key
  · exact Rd8.rfl' _

/-! ### Drop and Covered -/
theorem left_at (x c : Clk) : ∀ k j, leftM x c k j = if j < k ∧ 0 < x j ∧ c j < x j then x j else 0
  | 0, j => by simp [leftM]
  | k + 1, j => by
    simp only [leftM]
    split
    · rename_i h
      simp only [upd]
      split
      · rename_i e; subst e; rw [if_pos ⟨by omega, h⟩]
      · rw [left_at x c k j]
        by_cases hj : j < k
        · simp [hj, show j < k + 1 by omega]
        · simp [hj, show ¬ j < k + 1 by omega]
    · rename_i h
      rw [left_at x c k j]
      by_cases hj : j < k
      · simp [hj, show j < k + 1 by omega]
      · by_cases e : j = k
        · subst e; rw [if_neg (by omega), if_neg (fun q => h q.2)]
        · rw [if_neg (by omega), if_neg (by omega)]
theorem cut_at (x c : Clk) : ∀ k j, cutR x c k j = if j < k ∧ x j ≤ c j then 0 else x j
  | 0, j => by simp [cutR]
  | k + 1, j => by
    simp only [cutR]
    split
    · rename_i h
      simp only [upd]
      split
      · rename_i e; subst e; rw [if_pos ⟨by omega, h⟩]
      · rw [cut_at x c k j]
        by_cases hj : j < k
        · simp [hj, show j < k + 1 by omega]
        · simp [hj, show ¬ j < k + 1 by omega]
    · rename_i h
      rw [cut_at x c k j]
      by_cases hj : j < k
      · simp [hj, show j < k + 1 by omega]
      · by_cases e : j = k
        · subst e; rw [if_neg (by omega), if_neg (fun q => h q.2)]
        · rw [if_neg (by omega), if_neg (by omega)]
theorem left_cut {x y c : Clk} (h : Eq8 x y) (hn : nnB x = true) : Eq8 (leftM x c 8) (cutR y c 8) := by
  intro i hi
  have := (nnB_iff _).1 hn i hi
  rw [left_at, cut_at, ← h i hi]
  by_cases h1 : x i ≤ c i
  · rw [if_neg (by omega), if_pos ⟨hi, h1⟩]
  · rw [if_neg (c := i < 8 ∧ x i ≤ c i) (by omega)]
    by_cases h2 : 0 < x i
    · rw [if_pos (by omega)]
    · rw [if_neg (by omega)]; omega
theorem left_nn (x c : Clk) : nnB (leftM x c 8) = true := by
  rw [nnB_iff]; intro j _; rw [left_at]; split <;> omega
theorem drop_eq (r : RD) (c : Clk) : Rd8 (dropM r c) (dropR r c) := by
  cases h : validM r
  · have hr := h; rw [valid_eq] at hr
    have hs : setR r = zc := by simp [setR, hr]
    simp only [dropM, dropR, h, hs, Bool.false_eq_true, if_false]
    have hz : Eq8 (cutR zc c 8) zc := by intro i hi; rw [cut_at]; split <;> simp
    rw [form_eq (nnB_congr hz.symm' nnB_zc), compact_none (fun i hi => by rw [hz i hi]; simp)]
    exact Rd8.rfl' _
  · obtain ⟨h1, h2⟩ := set_expand h
    simp only [dropM, dropR, h, if_true]
    have key := left_cut (c := c) h1 h2
    rw [form_eq (nnB_congr key (left_nn _ _))]
    exact compact_congr key
theorem compact_zr {c : Clk} : Rd8 (compactM c) zr ↔ ∀ i, i < 8 → ¬ 0 < c i := by
  constructor
  · intro h i hi hp
    by_cases h1 : 1 < cnt c 8
    · rw [compact_hi h1] at h; exact absurd h.1 (by simp)
    · rcases one_cases h1 with h0 | ⟨j, hj, hq, hu⟩
      · exact h0 i hi hp
      · rw [compact_one hj hq hu] at h
        have := h.2.2.1
        simp at this; omega
  · intro h; rw [compact_none h]; exact Rd8.rfl' _
theorem covered_iff (r : RD) (c : Clk) : coveredM r c = true ↔ validM r = true ∧ ∀ i, i < 8 → ¬ (0 < expandM r i ∧ c i < expandM r i) := by
  simp only [coveredM, Bool.and_eq_true, rd8_iff]
  refine and_congr_right fun hv => ?_
  simp only [dropM, hv, if_true]
  rw [compact_zr]
  refine forall_congr' fun i => forall_congr' fun hi => ?_
  rw [left_at]
  constructor
  · rintro h ⟨h1, h2⟩; rw [if_pos ⟨hi, h1, h2⟩] at h; exact h h1
  · intro h; split
    · rename_i q; exact absurd q.2 h
    · omega
theorem covered_eq (r : RD) (c : Clk) : coveredM r c = coveredR r c := by
  rw [Bool.eq_iff_iff, covered_iff]
  simp only [coveredR, Bool.and_eq_true, ← valid_eq]
  refine and_congr_right fun hv => ?_
  have h1 := (set_expand hv).1
  simp only [List.all_eq_true, List.mem_range]
  refine forall_congr' fun i => forall_congr' fun hi => ?_
  rw [h1 i hi]
  by_cases a : 0 < setR r i <;> by_cases b : c i < setR r i <;> simp [a, b]


/-! ### One form, exactness, what Add keeps -/
theorem expand_congr {a b : RD} (h : Rd8 a b) : Eq8 (expandM a) (expandM b) := by
  obtain ⟨s, g, n, c⟩ := a
  obtain ⟨t, g', n', d⟩ := b
  obtain ⟨h1, h2, h3, h4⟩ := h
  have e1 : g = g' := h2
  have e2 : n = n' := h3
  subst e1; subst e2
  intro i hi
  simp only [expandM]
  split
  · simp only [upd]; split
    · rfl
    · exact h4 i hi
  · exact h4 i hi
theorem valid_form {r : RD} (h : validM r = true) : Rd8 (compactM (expandM r)) r := by
  simp only [validM, Bool.and_eq_true, rd8_iff] at h; exact h.2
theorem one_form {a b : RD} (ha : validM a = true) (hb : validM b = true) : clE (setM a) (setM b) = rdE a b := by
  rw [Bool.eq_iff_iff, eq8_iff, rd8_iff]
  simp only [setM, ha, hb, if_true]
  constructor
  · intro h; exact (valid_form ha).symm'.trans' ((compact_congr h).trans' (valid_form hb))
  · exact expand_congr
theorem compact_valid {x : Clk} (h : nnB x = true) : validM (compactM x) = true ∧ Eq8 (expandM (compactM x)) x := by
  by_cases h1 : 1 < cnt x 8
  · rw [compact_hi h1]
    refine ⟨(valid_iff _).2 ⟨h, .inl ⟨rfl, rfl, rfl, h1⟩⟩, ?_⟩
    rw [expand_zero (by simp)]; exact Eq8.rfl' _
  · rcases one_cases h1 with h0 | ⟨i, hi, hp, hu⟩
    · rw [compact_none h0]
      refine ⟨(valid_iff _).2 ⟨nnB_zc, .inr ⟨rfl, Eq8.rfl' _, .inl ⟨rfl, rfl⟩⟩⟩, ?_⟩
      rw [expand_zero (by simp)]
      intro i hi
      have a := h0 i hi
      have b := (nnB_iff _).1 h i hi
      simp only [zc_at]; omega
    · rw [compact_one hi hp hu]
      have hg : plc (i : Int) = true ∧ 0 < x i := ⟨(plc_iff _).2 (by omega), hp⟩
      refine ⟨(valid_iff _).2 ⟨nnB_zc, .inr ⟨rfl, Eq8.rfl' _, .inr hg⟩⟩, ?_⟩
      rw [expand_one hg]
      intro j hj
      simp only [upd, Int.toNat_natCast]
      split
      · rename_i e; rw [e]
      · rename_i e
        have a := (nnB_iff _).1 h j hj
        have b : ¬ 0 < x j := fun q => e (hu j hj q)
        simp only [zc_at]; omega
theorem join_at (a b : Clk) : ∀ k j, joinM a b k j = if j < k ∧ a j < b j then b j else a j
  | 0, j => by simp [joinM]
  | k + 1, j => by
    simp only [joinM]
    split
    · rename_i h
      simp only [upd]
      split
      · rename_i e; subst e; rw [if_pos ⟨by omega, h⟩]
      · rw [join_at a b k j]
        by_cases hj : j < k
        · simp [hj, show j < k + 1 by omega]
        · simp [hj, show ¬ j < k + 1 by omega]
    · rename_i h
      rw [join_at a b k j]
      by_cases hj : j < k
      · simp [hj, show j < k + 1 by omega]
      · by_cases e : j = k
        · subst e; rw [if_neg (by omega), if_neg (fun q => h q.2)]
        · rw [if_neg (by omega), if_neg (by omega)]
theorem drop_valid {r : RD} {c : Clk} (h : validM r = true) : validM (dropM r c) = true ∧ Eq8 (expandM (dropM r c)) (leftM (expandM r) c 8) := by
  simp only [dropM, h, if_true]
  exact compact_valid (left_nn _ _)
theorem drop_exact {r : RD} {c d : Clk} (h : validM r = true) (hcd : ∀ i, i < 8 → c i ≤ d i) : coveredM r d = coveredM (dropM r c) d := by
  obtain ⟨h1, h2⟩ := drop_valid (c := c) h
  rw [Bool.eq_iff_iff, covered_iff, covered_iff]
  simp only [h, h1, true_and]
  refine forall_congr' fun i => forall_congr' fun hi => ?_
  rw [h2 i hi, left_at]
  have := hcd i hi
  split
  · rfl
  · rename_i q
    constructor
    · intro _; omega
    · intro _ a; exact q ⟨hi, by omega, by omega⟩
theorem drop_zero {r : RD} {c : Clk} (h : validM r = true) : coveredM r c = rdE (dropM r c) zr := by simp [coveredM, h]

/-- What Add leaves. -/
theorem add_keeps {r : RD} {g n : Int} {c : Clk} (hv : validM r = true) (hp : 0 ≤ g ∧ g < 8) (hn : 0 < n) :
    validM (addM r g n c) = true ∧ n ≤ setM (addM r g n c) g.toNat ∧ ∀ i, i < 8 → ¬ (setM (addM r g n c) i < setR r i ∧ c i < setR r i) := by
  have hp' := (plc_iff g).2 hp
  obtain ⟨h1, h2⟩ := set_expand hv
  by_cases hs : soleM r c = true
  · have e : addM r g n c = compactM (upd zc g.toNat n) := by simp [addM, hv, hp', hn, hs]
    have hx : nnB (upd zc g.toNat n) = true := nnB_upd nnB_zc (by omega)
    obtain ⟨k1, k2⟩ := compact_valid hx
    rw [e]
    have k3 : setM (compactM (upd zc g.toNat n)) = expandM (compactM (upd zc g.toNat n)) := by simp [setM, k1]
    refine ⟨k1, ?_, fun i hi => ?_⟩
    · rw [k3, k2 _ (by omega)]; simp [upd]
    · rintro ⟨q1, q⟩
      rw [k3, k2 i hi] at q1
      have hu : 0 ≤ upd zc g.toNat n i := (nnB_iff _).1 hx i hi
      obtain ⟨s, rg, rn, x⟩ := r
      simp only [soleM, Bool.and_eq_true, Bool.or_eq_true, Bool.not_eq_true', beq_iff_eq] at hs
      obtain ⟨hs1, hs2⟩ := hs
      have hs1' : s = false := hs1
      subst hs1'
      have hr := hv; rw [valid_eq] at hr
      have hq : setR ⟨false, rg, rn, x⟩ i = upd zc rg.toNat rn i := by simp [setR, hr]
      have h5 : setR ⟨false, rg, rn, x⟩ i = if i = rg.toNat then rn else 0 := hq
      rw [h5] at q1 q
      rcases hs2 with ⟨e1, e2⟩ | hl
      · have e2' : rn = 0 := e2
        subst e2'
        simp at q1; omega
      · have hl' : leqM rg rn c = true := hl
        simp only [leqM, Bool.and_eq_true, decide_eq_true_eq] at hl'
        split at q1
        · rename_i e; subst e; simp at q; omega
        · omega
  · have hs' : soleM r c = false := by simpa using hs
    have e : addM r g n c = compactM (upd (expandM r) g.toNat (imax (expandM r g.toNat) n)) := by simp [addM, hv, hp', hn, hs']
    have hm : n ≤ imax (expandM r g.toNat) n ∧ expandM r g.toNat ≤ imax (expandM r g.toNat) n := by unfold imax; split <;> omega
    have hx : nnB (upd (expandM r) g.toNat (imax (expandM r g.toNat) n)) = true := nnB_upd h2 (by omega)
    obtain ⟨k1, k2⟩ := compact_valid hx
    rw [e]
    have k3 : setM (compactM (upd (expandM r) g.toNat (imax (expandM r g.toNat) n))) = expandM (compactM (upd (expandM r) g.toNat (imax (expandM r g.toNat) n))) := by simp [setM, k1]
    refine ⟨k1, ?_, fun i hi => ?_⟩
    · rw [k3, k2 _ (by omega)]; simp [upd]; exact hm.1
    · rintro ⟨q, _⟩
      rw [k3, k2 i hi, ← h1 i hi] at q
      simp only [upd] at q
      split at q
      · rename_i e; subst e; omega
      · omega

end Go.Proofs.Ytkfngaobgnijmaa
