/- The plain law: what the given memory holds, and what the document's entries tell; pages. -/
import Derived.Test.YtioajmhfofmdoaaCl
import Derived.Test.YtioajmhfofmdoaaRj
namespace Go.Proofs.Ytioajmhfofmdoaa
open Go.RowKit Go.Sort Go.Maps

theorem get_cases (o f : Int) : ∀ l : List Ent, (getM l o f = wz ∧ ∀ e ∈ l, isLoc e o f = false) ∨ ∃ e ∈ l, isLoc e o f = true ∧ getM l o f = e.2.2
  | [] => .inl ⟨rfl, fun _ h => (by cases h)⟩
  | a :: r => by
    cases hi : isLoc a o f
    · rw [getM, if_neg (by rw [hi]; simp)]
      rcases get_cases o f r with ⟨h1, h2⟩ | ⟨e, h1, h2, h3⟩
      · exact .inl ⟨h1, fun e he => by rcases List.mem_cons.1 he with rfl | he'; · exact hi
                                       · exact h2 e he'⟩
      · exact .inr ⟨e, List.mem_cons.2 (.inr h1), h2, h3⟩
    · rw [getM, if_pos hi]
      exact .inr ⟨a, List.mem_cons.2 (.inl rfl), hi, rfl⟩
theorem setGo_mem (o f : Int) (x : Wd) : ∀ l : List Ent, (o, f, x) ∈ setGo o f x l false
  | [] => by simp [setGo]
  | a :: r => by
    cases hl : lessM o f a.1 a.2.1
    · simp only [setGo, hl]
      have := setGo_mem o f x r
      simp [this]
    · simp [setGo, hl]
theorem setGo_else (o f : Int) (x : Wd) {o' f' : Int} (hne : ¬ (o' = o ∧ f' = f)) : ∀ (l : List Ent) (d : Bool), getM (setGo o f x l d) o' f' = getM l o' f'
  | [], d => by
    cases d
    · have : isLoc (o, f, x) o' f' = false := by
        cases h : isLoc (o, f, x) o' f' with
        | false => rfl
        | true => have := isLoc_iff.1 h; exact absurd ⟨this.1.symm, this.2.symm⟩ hne
      simp [setGo, getM, this]
    · simp [setGo]
  | a :: r, d => by
    have h0 : isLoc (o, f, x) o' f' = false := by
      cases h : isLoc (o, f, x) o' f' with
      | false => rfl
      | true => have := isLoc_iff.1 h; exact absurd ⟨this.1.symm, this.2.symm⟩ hne
    simp only [setGo]
    rw [List.append_assoc, get_append (by
      intro e he
      split at he
      · simp at he; subst he; exact h0
      · cases he)]
    cases hi : isLoc a o f
    · simp only [Bool.false_eq_true, if_false, List.singleton_append, getM]
      rw [setGo_else o f x hne r _]
    · have h1 : isLoc a o' f' = false := by
        cases h : isLoc a o' f' with
        | false => rfl
        | true => have h2 := isLoc_iff.1 h; have h3 := isLoc_iff.1 hi; exact absurd ⟨h2.1.symm.trans h3.1, h2.2.symm.trans h3.2⟩ hne
      simp only [if_true, List.nil_append]
      rw [setGo_else o f x hne r _, getM, if_neg (by rw [h1]; simp)]
theorem set_here {l : List Ent} {o f : Int} (x : Wd) (hv : ¬ (o < 0 ∨ f < 0)) : wv (getM (setM l o f x) o f) = wv x := by
  unfold setM
  rw [if_neg hv]
  rcases get_cases o f (setGo o f x l (zeroM x)) with ⟨h1, h2⟩ | ⟨e, h1, h2, h3⟩
  · cases hz : zeroM x
    · rw [hz] at h2
      have := h2 _ (setGo_mem o f x l)
      simp [isLoc] at this
    · rw [← hz, h1]
      exact ((wdE_iff _ _).1 hz).symm
  · rw [h3]
    rcases mem_setGo _ _ _ _ _ _ h1 with ⟨rfl, _⟩ | ⟨_, h4⟩
    · rfl
    · rw [h2] at h4; cases h4
theorem set_else {l : List Ent} {o f o' f' : Int} (x : Wd) (hne : ¬ (o' = o ∧ f' = f)) : getM (setM l o f x) o' f' = getM l o' f' := by
  unfold setM
  split
  · rfl
  · exact setGo_else o f x hne _ _
theorem clear_get (l : List Ent) (ob o f : Int) : getM (clearM l ob) o f = if o = ob then wz else getM l o f := by
  split
  · rename_i e
    refine get_none fun a ha => ?_
    obtain ⟨_, h2⟩ := List.mem_filter.1 ha
    cases hi : isLoc a o f with
    | false => rfl
    | true => have := isLoc_iff.1 hi; simp at h2; exact absurd (this.1.trans e) h2
  · rename_i hne
    refine get_filter _ fun e he => ?_
    have := isLoc_iff.1 he
    simp; exact fun h => hne (this.1.symm.trans h)

/-- The given memory holds the document's words. -/
def Rel (M : Int → Int → Wd) (l : List Ent) : Prop := ∀ o f, 0 ≤ o → 0 ≤ f → wv (M o f) = wv (getM l o f)
theorem rel_nil : Rel (fun _ _ => wz) [] := fun _ _ _ _ => rfl
theorem rel_set {M M2 : Int → Int → Wd} {l : List Ent} (h : Rel M l) {o f : Int} {x : Wd} (hv : ¬ (o < 0 ∨ f < 0)) (h2 : ∀ o' f', wv (M2 o' f') = wv (updM M o f x o' f')) : Rel M2 (setM l o f x) := fun o' f' ho hf => by
  rw [h2]
  unfold updM
  split
  · rename_i e
    rw [e.1, e.2, set_here x hv]
  · rename_i hne
    rw [set_else x hne]
    exact h o' f' ho hf
theorem rel_clear {M : Int → Int → Wd} {l : List Ent} (h : Rel M l) (ob : Int) : Rel (clrM M ob) (clearM l ob) := fun o f ho hf => by
  rw [clear_get]
  unfold clrM
  split
  · rfl
  · exact h o f ho hf

/-- Offsets and objects that are ints. -/
def Fits (l : List Ent) : Prop := ∀ e ∈ l, e.1 ≤ 9223372036854775807 ∧ e.2.1 ≤ 9223372036854775807
theorem fits_nil : Fits [] := fun _ h => (by cases h)
theorem fits_set {l : List Ent} (h : Fits l) {o f : Int} (x : Wd) (ho : o ≤ 9223372036854775807) (hf : f ≤ 9223372036854775807) : Fits (setM l o f x) := by
  unfold setM
  split
  · exact h
  · intro e he
    rcases mem_setGo _ _ _ _ _ _ he with ⟨rfl, _⟩ | ⟨e1, _⟩
    · exact ⟨ho, hf⟩
    · exact h e e1
theorem fits_clear {l : List Ent} (h : Fits l) (o : Int) : Fits (clearM l o) := fun e he => h e (List.mem_filter.1 he).1

/-! ### pages -/
def pid (e : Ent) : Int × Int := (e.1, e.2.1.tdiv 16)
theorem pageE_iff {a b : Ent} : pageE a b = true ↔ pid a = pid b := by simp [pageE, pid]
def ids (l : List Ent) : Nat → List (Int × Int)
  | 0 => []
  | k + 1 => ids l k ++ if k = 0 ∨ pageE (entD l (k - 1)) (entD l k) = false then [pid (entD l k)] else []
theorem ids_len (l : List Ent) : ∀ k, (ids l k).length = pagesK l k
  | 0 => rfl
  | k + 1 => by
    rw [ids, pagesK, List.length_append, ids_len l k]
    split <;> rfl
theorem ids_mem (l : List Ent) (x : Int × Int) : ∀ k, x ∈ ids l k ↔ ∃ j, j < k ∧ pid (entD l j) = x
  | 0 => by simp [ids]
  | k + 1 => by
    rw [ids, List.mem_append, ids_mem l x k]
    constructor
    · rintro (⟨j, h1, h2⟩ | h)
      · exact ⟨j, by omega, h2⟩
      · split at h
        · simp at h; exact ⟨k, by omega, h.symm⟩
        · cases h
    · rintro ⟨j, h1, h2⟩
      by_cases hj : j < k
      · exact .inl ⟨j, hj, h2⟩
      · obtain rfl : j = k := by omega
        split
        · right; simp [h2]
        · rename_i hc
          left
          have hk : j ≠ 0 := fun e => hc (.inl e)
          have hp : pageE (entD l (j - 1)) (entD l j) = true := by
            cases h : pageE (entD l (j - 1)) (entD l j) with
            | true => rfl
            | false => exact absurd (.inr h) hc
          exact ⟨j - 1, by omega, (pageE_iff.1 hp).trans h2⟩
theorem entD_at {l : List Ent} {k : Nat} (h : k < l.length) : entD l k = l[k] := by simp [entD, h]
theorem ids_nodup {l : List Ent} (h : Good l) : ∀ k, k ≤ l.length → (ids l k).Nodup
  | 0, _ => List.nodup_nil
  | k + 1, hk => by
    have ih := ids_nodup h k (by omega)
    rw [ids]
    split
    · rename_i hc
      rw [List.nodup_append]
      refine ⟨ih, by simp, ?_⟩
      intro a ha b hb e
      simp at hb
      subst hb
      subst e
      obtain ⟨j, hj, e⟩ := (ids_mem l _ k).1 ha
      have hs := h.sorted
      rw [List.pairwise_iff_getElem] at hs
      have hk0 : k ≠ 0 := by omega
      have hc2 : pageE (entD l (k - 1)) (entD l k) = false := by rcases hc with h | h; · omega
                                                                 · exact h
      have hc3 : ¬ pid (entD l (k - 1)) = pid (entD l k) := fun h => by rw [← pageE_iff, hc2] at h; cases h
      rw [entD_at (by omega), entD_at (by omega)] at e hc3
      by_cases hjk : j = k - 1
      · subst hjk; exact hc3 e
      · have s1 := hs j (k - 1) (by omega) (by omega) (by omega)
        have s2 := hs (k - 1) k (by omega) (by omega) (by omega)
        have u0 := (h.usable _ (List.getElem_mem (show j < l.length by omega))).2
        have u1 := (h.usable _ (List.getElem_mem (show k - 1 < l.length by omega))).2
        have u2 := (h.usable _ (List.getElem_mem (show k < l.length by omega))).2
        apply hc3
        unfold ltE at s1 s2
        unfold pid at e ⊢
        simp only [Prod.mk.injEq] at e ⊢
        obtain ⟨e1, e2⟩ := e
        rw [Int.tdiv_eq_ediv_of_nonneg u0, Int.tdiv_eq_ediv_of_nonneg u2] at e2
        rw [Int.tdiv_eq_ediv_of_nonneg u1, Int.tdiv_eq_ediv_of_nonneg u2]
        refine ⟨by omega, by omega⟩
    · rw [List.append_nil]; exact ih
theorem len_le {α : Type} : ∀ (a b : List α), a.Nodup → (∀ x ∈ a, x ∈ b) → a.length ≤ b.length
  | [], _, _, _ => Nat.zero_le _
  | x :: xs, b, hn, hs => by
    classical
    obtain ⟨h1, h2⟩ := List.nodup_cons.1 hn
    have hx := hs x (List.mem_cons.2 (.inl rfl))
    have := len_le xs (b.erase x) h2 fun y hy => (List.mem_erase_of_ne (fun e => h1 (by rw [← e]; exact hy))).2 (hs y (List.mem_cons.2 (.inr hy)))
    rw [List.length_erase_of_mem hx] at this
    have := List.length_pos_of_mem hx
    simp; omega

theorem size_pages {T : Nat → Prop} {B : Nat} {w : World} {bm bp tk n : Nat} {D : DataW Nat} {M : Int → Int → Wd} (h : MemAt T B w bm bp tk n D M) {l : List Ent} (hr : Rel M l) (hg : Good l) (hf : Fits l) : Maps.size D = pagesK l l.length := by
  obtain ⟨es, rfl, hp⟩ := h.own.tidy keyed
  have hkey : ∀ (o : Int) (p : Nat), Pg o p → (Maps.has (.map es) (kyl o p) = true ↔ ∃ e ∈ l, pid e = (o, (p : Int))) := fun o p hpg => by
    constructor
    · intro hh
      obtain ⟨o', p', b, hp', e, hb⟩ := h.keys _ hh
      rcases h.page o p hpg with ⟨h1, _⟩ | ⟨b', t, _, _, _, i, hi, hz⟩
      · rw [hb] at h1; cases h1
      · have h1 := hr o ((p * 16 + i : Nat) : Int) hpg.1 (by omega)
        rcases get_cases o ((p * 16 + i : Nat) : Int) l with ⟨h2, _⟩ | ⟨e, h2, h3, _⟩
        · rw [h2] at h1
          have := (wdE_iff _ _).2 h1
          unfold zeroM at hz
          rw [this] at hz; cases hz
        · have := isLoc_iff.1 h3
          refine ⟨e, h2, ?_⟩
          unfold pid
          rw [this.1, this.2, Int.tdiv_eq_ediv_of_nonneg (by omega)]
          simp; omega
    · rintro ⟨e, he, hpe⟩
      obtain ⟨u1, u2⟩ := hg.usable e he
      unfold pid at hpe
      simp only [Prod.mk.injEq] at hpe
      obtain ⟨e1, e2⟩ := hpe
      rw [Int.tdiv_eq_ediv_of_nonneg u2] at e2
      rcases h.page o p hpg with ⟨h1, h2⟩ | ⟨b', t, h1, _⟩
      · exfalso
        have h3 := h2 (e.2.1 % 16).toNat (by omega)
        have e3 : ((p * 16 + (e.2.1 % 16).toNat : Nat) : Int) = e.2.1 := by omega
        rw [e3, hr o e.2.1 (by omega) u2] at h3
        rcases get_cases o e.2.1 l with ⟨_, h5⟩ | ⟨e', h5, _, h6⟩
        · have := h5 e he
          have h7 : isLoc e o e.2.1 = true := isLoc_iff.2 ⟨e1, rfl⟩
          rw [h7] at this; cases this
        · rw [h6] at h3
          have := hg.some e' h5
          unfold zeroM at this
          rw [(wdE_iff _ _).2 h3] at this; cases this
      · cases hh : Maps.has (.map es) (kyl o p)
        · rw [atKey_of_not_has hh] at h1; cases h1
        · rfl
  have hn1 : (es.map (·.1)).Nodup := by
    rw [List.nodup_iff_pairwise_ne, List.pairwise_map]; exact hp
  have hids := ids_nodup hg l.length (Nat.le_refl _)
  have hinj : ∀ x ∈ ids l l.length, ∃ p : Nat, x.2 = p ∧ Pg x.1 p := fun x hx => by
    obtain ⟨j, hj, e⟩ := (ids_mem l x l.length).1 hx
    rw [entD_at hj] at e
    obtain ⟨u1, u2⟩ := hg.usable _ (List.getElem_mem hj)
    obtain ⟨f1, f2⟩ := hf _ (List.getElem_mem hj)
    subst e
    unfold pid
    refine ⟨(l[j].2.1 / 16).toNat, by rw [Int.tdiv_eq_ediv_of_nonneg u2]; omega, by unfold Pg; simp only; omega⟩
  have hmemk : ∀ kl, kl ∈ es.map (·.1) ↔ Maps.has (.map es) kl = true := fun kl => by
    rw [has_eq]
    constructor
    · intro hm
      obtain ⟨x, hx, rfl⟩ := List.mem_map.1 hm
      obtain ⟨es', e', _, hall⟩ := h.own.entries keyed
      cases e'
      exact List.any_eq_true.2 ⟨x, hx, WideAt.sameKey_self (hall x hx)⟩
    · intro hm
      obtain ⟨x, hx, e⟩ := List.any_eq_true.1 hm
      exact List.mem_map.2 ⟨x, hx, WideAt.sameKey_eq e⟩
  have hn2 : ((ids l l.length).map fun x => kyl x.1 x.2).Nodup := by
    rw [List.nodup_iff_pairwise_ne, List.pairwise_map]
    rw [List.nodup_iff_pairwise_ne] at hids
    refine hids.imp_of_mem fun {a b} ha hb hne e => ?_
    obtain ⟨p, ea, pa⟩ := hinj a ha
    obtain ⟨q, eb, pb⟩ := hinj b hb
    rw [ea, eb] at e
    have := kyl_inj pa.wf.1 pa.wf.2 pb.wf.1 pb.wf.2 e
    exact hne (Prod.ext this.1 (by rw [ea, eb]; exact this.2))
  rw [Maps.size_eq, ← ids_len]
  have l1 := len_le _ ((ids l l.length).map fun x => kyl x.1 x.2) hn1 fun kl hm => by
    have hh := (hmemk kl).1 hm
    obtain ⟨o, p, b, hpg, rfl, _⟩ := h.keys kl hh
    obtain ⟨e, he, hpe⟩ := (hkey o p hpg).1 hh
    obtain ⟨j, hj, rfl⟩ := List.mem_iff_getElem.1 he
    exact List.mem_map.2 ⟨(o, (p : Int)), (ids_mem l _ _).2 ⟨j, hj, by rw [entD_at hj]; exact hpe⟩, rfl⟩
  have l2 := len_le _ (es.map (·.1)) hn2 fun kl hm => by
    obtain ⟨x, hx, rfl⟩ := List.mem_map.1 hm
    obtain ⟨p, ep, hpg⟩ := hinj x hx
    obtain ⟨j, hj, e⟩ := (ids_mem l x l.length).1 hx
    rw [hmemk, ep]
    refine (hkey x.1 p hpg).2 ⟨l[j], List.getElem_mem hj, ?_⟩
    rw [entD_at hj] at e
    rw [e, ← ep]
  simp at l1 l2
  omega

end Go.Proofs.Ytioajmhfofmdoaa
