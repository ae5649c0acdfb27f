/- Paths by their first step, in plain Lean. -/
import Derived.Test.YtmgiojkdcpolfaaSu
import Derived.Test.YtmgiojkdcpolfaaPm
namespace Go.Proofs.Ytmgiojkdcpolfaa
open Go.RowKit Go.Sort PT

/-- The tails behind the first step of a pick, and the other paths. -/
def wi (f : PS → Bool) (ls : List (List PS)) : List (List PS) := ls.flatMap fun p => match p with | s :: y :: r => if f s then [y :: r] else [] | _ => []
def wt (f : PS → Bool) (ls : List (List PS)) : List (List PS) := ls.flatMap fun p => match p with | s :: r => if f s then [] else [s :: r] | [] => []
theorem wi_append (f : PS → Bool) (a b : List (List PS)) : wi f (a ++ b) = wi f a ++ wi f b := List.flatMap_append
theorem wt_append (f : PS → Bool) (a b : List (List PS)) : wt f (a ++ b) = wt f a ++ wt f b := List.flatMap_append
mutual
theorem lvT_pre (be : List PS) : ∀ t : T, lvT be t = (lvT [] t).map (be ++ ·)
  | .nd s ks => by
    rw [lvT, lvT]
    split
    · simp
    · rw [lvK_pre (be ++ [s]) ks, lvK_pre ([] ++ [s]) ks, List.map_map]
      simp [Function.comp_def]
theorem lvK_pre (be : List PS) : ∀ ks : List T, lvK be ks = (lvK [] ks).map (be ++ ·)
  | [] => by simp [lvK]
  | k :: r => by rw [lvK, lvK, lvT_pre be k, lvK_pre be r, List.map_append]
end
mutual
theorem lvT_ne (be : List PS) : ∀ t : T, lvT be t ≠ []
  | .nd s ks => by
    rw [lvT]
    split
    · simp
    · rename_i h
      cases ks with
      | nil => simp at h
      | cons k r =>
        rw [lvK]
        intro e
        exact lvT_ne _ k (List.append_eq_nil_iff.1 e).1
end
theorem lvT_head (t : T) : ∀ p ∈ lvT [] t, ∃ r, p = t.s :: r := by
  cases t with
  | nd s ks =>
    rw [lvT]
    split
    · intro p hp; simp at hp; exact ⟨[], by rw [hp]; rfl⟩
    · intro p hp
      rw [lvK_pre] at hp
      obtain ⟨r, _, rfl⟩ := List.mem_map.1 hp
      exact ⟨r, rfl⟩
theorem lvK_head {ks : List T} : ∀ p ∈ lvK [] ks, ∃ k ∈ ks, ∃ r, p = k.s :: r := by
  induction ks with
  | nil => intro p hp; simp [lvK] at hp
  | cons k ks ih =>
    intro p hp
    rw [lvK] at hp
    rcases List.mem_append.1 hp with hp | hp
    · obtain ⟨r, hr⟩ := lvT_head k p hp
      exact ⟨k, List.mem_cons.2 (.inl rfl), r, hr⟩
    · obtain ⟨k', hk, h⟩ := ih p hp
      exact ⟨k', List.mem_cons.2 (.inr hk), h⟩
theorem wi_lvT (f : PS → Bool) (t : T) : wi f (lvT [] t) = if f t.s then lvK [] t.ks else [] := by
  cases t with
  | nd s ks =>
    rw [lvT]
    simp only [T.s, T.ks]
    split
    · rename_i h
      have : ks = [] := by simpa using h
      subst this
      by_cases hf : f s = true <;> simp [wi, lvK, hf]
    · rw [lvK_pre]
      have hne : ∀ p ∈ lvK [] ks, p ≠ [] := fun p hp e => by
        obtain ⟨k, _, r, h⟩ := lvK_head p hp
        rw [e] at h; cases h
      generalize lvK [] ks = L at *
      induction L with
      | nil => by_cases hf : f s = true <;> simp [wi, hf]
      | cons p L ih =>
        have ih := ih fun q hq => hne q (List.mem_cons.2 (.inr hq))
        have hp := hne p (List.mem_cons.2 (.inl rfl))
        rw [List.map_cons, show ∀ (a : List PS) b, wi f (a :: b) = wi f [a] ++ wi f b from fun a b => wi_append f [a] b, ih]
        cases p with
        | nil => exact absurd rfl hp
        | cons y r => by_cases hf : f s = true <;> simp [wi, hf]
theorem wt_lvT (f : PS → Bool) (t : T) : wt f (lvT [] t) = if f t.s then [] else lvT [] t := by
  have h := lvT_head t
  generalize lvT [] t = L at *
  induction L with
  | nil => simp [wt]
  | cons p L ih =>
    have ih := ih fun q hq => h q (List.mem_cons.2 (.inr hq))
    obtain ⟨r, rfl⟩ := h p (List.mem_cons.2 (.inl rfl))
    rw [show wt f ((t.s :: r) :: L) = wt f [t.s :: r] ++ wt f L from wt_append f [_] L, ih]
    by_cases hf : f t.s = true <;> simp [wt, hf]
theorem wi_lvK (f : PS → Bool) : ∀ ks : List T, wi f (lvK [] ks) = (ks.filter (fun k => f k.s)).flatMap (fun k => lvK [] k.ks)
  | [] => by simp [wi, lvK]
  | k :: ks => by
    rw [lvK, wi_append, wi_lvT, wi_lvK f ks, List.filter_cons]
    by_cases hf : f k.s = true <;> simp [hf]
theorem wt_lvK (f : PS → Bool) : ∀ ks : List T, wt f (lvK [] ks) = lvK [] (ks.filter (fun k => !f k.s))
  | [] => by simp [wt, lvK]
  | k :: ks => by
    rw [lvK, wt_append, wt_lvT, wt_lvK f ks, List.filter_cons]
    by_cases hf : f k.s = true <;> simp [hf, lvK]
theorem pk_trans {a b x : PS} (h1 : pk a x = true) (h2 : pk b x = true) : pk a b = true := by
  simp only [pk, Bool.and_eq_true, beq_iff_eq] at *
  exact ⟨h1.1.trans h2.1.symm, h1.2.trans h2.2.symm⟩
/-- Of distinct picks one at most is the pick. -/
theorem pick_one {x : PS} : ∀ {ks : List T}, Dist (ks.map T.s) →
    (match (ks.map T.s).findIdx? (fun s => pk s x) with
    | some i => ∃ k, ks[i]? = some k ∧ pk k.s x = true ∧ ks.filter (fun k => pk k.s x) = [k] ∧ ks.filter (fun k => !pk k.s x) = ks.eraseIdx i
    | none => ks.filter (fun k => pk k.s x) = [] ∧ ks.filter (fun k => !pk k.s x) = ks)
  | [], _ => by simp
  | k :: ks, hd => by
    have hd' : Dist (ks.map T.s) := (List.pairwise_cons.1 hd).2
    have hk := (List.pairwise_cons.1 hd).1
    have ih := pick_one (x := x) hd'
    rw [List.map_cons, List.findIdx?_cons]
    by_cases h : pk k.s x = true
    · have hno : ∀ y ∈ ks, pk y.s x = false := fun y hy => by
        cases hy2 : pk y.s x with
        | false => rfl
        | true =>
          have := hk y.s (List.mem_map_of_mem hy)
          rw [pk_trans h hy2] at this
          cases this
      simp only [h, if_true]
      refine ⟨k, rfl, h, ?_, ?_⟩
      · rw [List.filter_cons, if_pos h, List.filter_eq_nil_iff.2 fun y hy => by simp [hno y hy]]
      · rw [List.filter_cons, if_neg (by simp [h]), List.filter_eq_self.2 fun y hy => by simp [hno y hy]]
        rfl
    · simp only [Bool.not_eq_true] at h
      rw [if_neg (by simp [h])]
      cases hf : (ks.map T.s).findIdx? (fun s => pk s x) with
      | none =>
        rw [hf] at ih
        exact ⟨by rw [List.filter_cons, if_neg (by simp [h])]; exact ih.1, by rw [List.filter_cons, if_pos (by simp [h]), ih.2]⟩
      | some i =>
        rw [hf] at ih
        obtain ⟨k', h1, h2, h3, h4⟩ := ih
        exact ⟨k', by simpa using h1, h2, by rw [List.filter_cons, if_neg (by simp [h])]; exact h3, by rw [List.filter_cons, if_pos (by simp [h]), h4]; rfl⟩
end Go.Proofs.Ytmgiojkdcpolfaa
