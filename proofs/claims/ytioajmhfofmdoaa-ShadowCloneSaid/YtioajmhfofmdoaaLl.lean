/- The plain law of Locations. -/
import Derived.Test.YtioajmhfofmdoaaLo
import Derived.Test.YtioajmhfofmdoaaPg
namespace Go.Proofs.Ytioajmhfofmdoaa
open Go.RowKit Go.Sort Go.Maps

theorem eq_of_sorted {α : Type} {lt : α → α → Prop} (hi : ∀ a, ¬ lt a a) (ht : ∀ a b c, lt a b → lt b c → lt a c) : ∀ (x y : List α), x.Pairwise lt → y.Pairwise lt → (∀ a, a ∈ x ↔ a ∈ y) → x = y
  | [], [], _, _, _ => rfl
  | [], b :: s, _, _, h => absurd ((h b).2 (List.mem_cons.2 (.inl rfl))) (by simp)
  | a :: r, [], _, _, h => absurd ((h a).1 (List.mem_cons.2 (.inl rfl))) (by simp)
  | a :: r, b :: s, hx, hy, h => by
    obtain ⟨x1, x2⟩ := List.pairwise_cons.1 hx
    obtain ⟨y1, y2⟩ := List.pairwise_cons.1 hy
    have hab : a = b := by
      rcases List.mem_cons.1 ((h a).1 (List.mem_cons.2 (.inl rfl))) with e | e
      · exact e
      · rcases List.mem_cons.1 ((h b).2 (List.mem_cons.2 (.inl rfl))) with e' | e'
        · exact e'.symm
        · exact absurd (ht _ _ _ (x1 b e') (y1 a e)) (hi a)
    subst hab
    congr 1
    refine eq_of_sorted hi ht r s x2 y2 fun c => ⟨fun hc => ?_, fun hc => ?_⟩
    · rcases List.mem_cons.1 ((h c).1 (List.mem_cons.2 (.inr hc))) with e | e
      · subst e; exact absurd (x1 c hc) (hi c)
      · exact e
    · rcases List.mem_cons.1 ((h c).2 (List.mem_cons.2 (.inr hc))) with e | e
      · subst e; exact absurd (y1 c hc) (hi c)
      · exact e
def locE (e : Ent) : Int × Int := (e.1, e.2.1)
theorem mem_pageK (M : Int → Int → Wd) (q x : Int × Int) : ∀ n, x ∈ pageK M q n ↔ ∃ i : Nat, i < n ∧ zeroM (M q.1 (q.2 * 16 + i)) = false ∧ x = (q.1, q.2 * 16 + i)
  | 0 => by simp [pageK]
  | n + 1 => by
    rw [pageK, List.mem_append, mem_pageK M q x n]
    constructor
    · rintro (⟨i, h1, h2⟩ | h)
      · exact ⟨i, by omega, h2⟩
      · cases hz : zeroM (M q.1 (q.2 * 16 + n))
        · rw [hz] at h
          exact ⟨n, by omega, hz, by simpa using h⟩
        · rw [hz] at h; cases h
    · rintro ⟨i, h1, h2, h3⟩
      by_cases hi : i < n
      · exact .inl ⟨i, hi, h2, h3⟩
      · obtain rfl : i = n := by omega
        right; rw [h2]; simpa using h3
theorem pageK_sorted (M : Int → Int → Wd) (q : Int × Int) : ∀ n, (pageK M q n).Pairwise ltP
  | 0 => List.Pairwise.nil
  | n + 1 => by
    rw [pageK, List.pairwise_append]
    refine ⟨pageK_sorted M q n, ?_, fun a ha b hb => ?_⟩
    · split <;> simp
    · obtain ⟨i, h1, _, rfl⟩ := (mem_pageK M q a n).1 ha
      split at hb
      · cases hb
      · simp at hb
        subst hb
        right; simp; omega
theorem pagesL_sorted (M : Int → Int → Wd) : ∀ ps : List (Int × Int), ps.Pairwise ltP → (pagesL M ps).Pairwise ltP
  | [], _ => List.Pairwise.nil
  | q :: r, h => by
    obtain ⟨h1, h2⟩ := List.pairwise_cons.1 h
    have ih := pagesL_sorted M r h2
    unfold pagesL at ih ⊢
    rw [List.flatMap_cons, List.pairwise_append]
    refine ⟨pageK_sorted M q 16, ih, fun a ha b hb => ?_⟩
    obtain ⟨i, hi, _, rfl⟩ := (mem_pageK M q a 16).1 ha
    obtain ⟨q', hq', hb'⟩ := List.mem_flatMap.1 hb
    obtain ⟨j, hj, _, rfl⟩ := (mem_pageK M q' b 16).1 hb'
    have := h1 q' hq'
    unfold ltP at this ⊢
    simp only
    omega
theorem locs_law {T : Nat → Prop} {B : Nat} {w : World} {bm bp tk n : Nat} {D : DataW Nat} {M : Int → Int → Wd} (h : MemAt T B w bm bp tk n D M) {l : List Ent} (hr : Rel M l) (hg : Good l) (hf : Fits l) (ps : List (Int × Int)) (hs : SortedKeys D ps) : pagesL M ps = l.map locE := by
  refine eq_of_sorted (lt := ltP) (fun a h => by unfold ltP at h; omega) (fun a b c h1 h2 => by unfold ltP at *; omega) _ _ (pagesL_sorted M ps hs.sorted) ?_ fun x => ?_
  · rw [List.pairwise_map]
    exact hg.sorted
  · unfold pagesL
    rw [List.mem_flatMap, List.mem_map]
    constructor
    · rintro ⟨q, hq, hx⟩
      obtain ⟨i, hi, hz, rfl⟩ := (mem_pageK M q x 16).1 hx
      obtain ⟨y, rfl, hy⟩ := (hs.mem q).1 hq
      obtain ⟨o, p, b, hpg, hkl, _⟩ := h.keys _ hy
      have e := kyl_inj y.2.1 y.2.2 hpg.wf.1 hpg.wf.2 hkl
      rw [e.1, e.2] at hz ⊢
      have h1 := hr o ((p : Int) * 16 + i) hpg.1 (by omega)
      rcases get_cases o ((p : Int) * 16 + i) l with ⟨h2, _⟩ | ⟨a, h2, h3, _⟩
      · rw [h2] at h1
        unfold zeroM at hz
        rw [(wdE_iff _ _).2 h1] at hz; cases hz
      · have := isLoc_iff.1 h3
        exact ⟨a, h2, by unfold locE; rw [this.1, this.2]⟩
    · rintro ⟨e, he, rfl⟩
      obtain ⟨u1, u2⟩ := hg.usable e he
      obtain ⟨f1, f2⟩ := hf e he
      have hpg : Pg e.1 (e.2.1 / 16).toNat := ⟨u1, f1, by omega⟩
      have e3 : (((e.2.1 / 16).toNat : Int)) * 16 + ((e.2.1 % 16).toNat : Int) = e.2.1 := by omega
      have hz : zeroM (M e.1 e.2.1) = false := by
        have h1 := hr e.1 e.2.1 u1 u2
        rcases get_cases e.1 e.2.1 l with ⟨_, h5⟩ | ⟨e', h5, _, h6⟩
        · have := h5 e he
          rw [isLoc_iff.2 ⟨rfl, rfl⟩] at this; cases this
        · rw [h6] at h1
          have h7 := hg.some e' h5
          unfold zeroM at h7 ⊢
          cases hh : wdE (M e.1 e.2.1) wz with
          | false => rfl
          | true =>
            have := (wdE_iff _ _).1 hh
            rw [h1] at this
            rw [(wdE_iff _ _).2 this] at h7; cases h7
      refine ⟨(e.1, ((e.2.1 / 16).toNat : Int)), (hs.mem _).2 ⟨⟨(e.1, ((e.2.1 / 16).toNat : Int)), hpg.wf⟩, rfl, ?_⟩, (mem_pageK M _ _ 16).2 ⟨(e.2.1 % 16).toNat, by omega, by simp only; rw [e3]; exact hz, by unfold locE; simp only; rw [e3]⟩⟩
      rcases h.page e.1 (e.2.1 / 16).toNat hpg with ⟨h1, h2⟩ | ⟨b', t, h1, _⟩
      · exfalso
        have h3 := h2 (e.2.1 % 16).toNat (by omega)
        rw [show (((e.2.1 / 16).toNat * 16 + (e.2.1 % 16).toNat : Nat) : Int) = e.2.1 by omega] at h3
        unfold zeroM at hz
        rw [(wdE_iff _ _).2 h3] at hz; cases hz
      · cases hh : Maps.has D (keyL' ⟨(e.1, ((e.2.1 / 16).toNat : Int)), hpg.wf⟩)
        · have := atKey_of_not_has hh (.nil : DataW Nat)
          unfold keyL' at this
          rw [h1] at this; cases this
        · rfl
theorem fit_law {M : Int → Int → Wd} {l : List Ent} (hr : Rel M l) (hf : Fits l) : ∀ o f, 0 ≤ o → 0 ≤ f → zeroM (M o f) = false → f ≤ 9223372036854775807 := fun o f ho hff hz => by
  have h1 := hr o f ho hff
  rcases get_cases o f l with ⟨h2, _⟩ | ⟨e, h2, h3, _⟩
  · rw [h2] at h1
    unfold zeroM at hz
    rw [(wdE_iff _ _).2 h1] at hz; cases hz
  · have := isLoc_iff.1 h3
    rw [← this.2]
    exact (hf e h2).2

end Go.Proofs.Ytioajmhfofmdoaa
