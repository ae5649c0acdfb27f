/- A sequence that is equivalent to an inserted one, in plain Lean. -/
import Derived.Test.YtmgiojkdcpolfaaPl
namespace Go.Proofs.Ytmgiojkdcpolfaa
open Go.RowKit Go.Sort PT

theorem any_comm {α β : Type} (f : α → β → Bool) (a : List α) (b : List β) : a.any (fun x => b.any (fun y => f x y)) = b.any (fun y => a.any (fun x => f x y)) := by
  rw [Bool.eq_iff_iff]
  simp only [List.any_eq_true]
  exact ⟨fun ⟨x, hx, y, hy, h⟩ => ⟨y, hy, x, hx, h⟩, fun ⟨y, hy, x, hx, h⟩ => ⟨x, hx, y, hy, h⟩⟩
theorem beq_swap {α : Type} [BEq α] [LawfulBEq α] (x y : α) : (x == y) = (y == x) := by
  rw [Bool.eq_iff_iff, beq_iff_eq, beq_iff_eq]; exact ⟨Eq.symm, Eq.symm⟩
theorem tdep_comm (x y : Tch) : tdep x y = tdep y x := by
  unfold tdep
  rw [beq_swap x.1, beq_swap x.2.1, beq_swap x.2.2.1, Bool.or_comm]
theorem dep_comm (p q : PS) : dep p q = dep q p := by
  unfold dep
  rw [any_comm (fun a b => a == b), any_comm tdep]
  congr 1
  · congr 1; funext a; congr 1; funext b; exact beq_swap _ _
  · congr 1; funext a; congr 1; funext b; exact tdep_comm _ _
theorem pk_comm (p q : PS) : pk p q = pk q p := by unfold pk; rw [beq_swap p.g, beq_swap p.c]

/-- Reached by exchanges of adjacent independent steps. -/
inductive Eqv (l : List PS) : List PS → Prop
  | refl : Eqv l l
  | swap (P : List PS) (a b : PS) (Q : List PS) : Eqv l (P ++ a :: b :: Q) → dep a b = false → Eqv l (P ++ b :: a :: Q)
def Dist (l : List PS) : Prop := l.Pairwise fun p q => pk p q = false
theorem Eqv.perm {l m : List PS} (h : Eqv l m) : l.Perm m := by
  induction h with
  | refl => exact List.Perm.refl _
  | swap P a b Q _ _ ih => exact ih.trans ((List.Perm.swap b a Q).append_left P)
theorem Eqv.dist {l m : List PS} (h : Eqv l m) (hd : Dist l) : Dist m := (h.perm.pairwise_iff (fun {x y} h => by rw [pk_comm]; exact h)).1 hd
theorem split_at {P Q pre post : List PS} {a b x : PS} (h : P ++ a :: b :: Q = pre ++ x :: post) :
    (∃ R, pre = P ++ a :: b :: R ∧ Q = R ++ x :: post) ∨ (pre = P ++ [a] ∧ b = x ∧ Q = post) ∨ (pre = P ∧ a = x ∧ post = b :: Q) ∨ (∃ R, P = pre ++ x :: R ∧ post = R ++ a :: b :: Q) := by
  rcases List.append_eq_append_iff.1 h with ⟨c, h1, h2⟩ | ⟨c, h1, h2⟩
  · match c, h2 with
    | [], h2 =>
      simp at h2
      exact .inr (.inr (.inl ⟨by simpa using h1, h2.1, h2.2.symm⟩))
    | [u], h2 =>
      simp at h2
      exact .inr (.inl ⟨by rw [h1, h2.1], h2.2.1, h2.2.2⟩)
    | u :: v :: R, h2 =>
      simp at h2
      exact .inl ⟨R, by rw [h1, h2.1, h2.2.1], h2.2.2⟩
  · match c, h2 with
    | [], h2 =>
      simp at h2
      exact .inr (.inr (.inl ⟨by simpa using h1.symm, h2.1.symm, h2.2⟩))
    | u :: R, h2 =>
      simp at h2
      exact .inr (.inr (.inr ⟨R, by rw [h1, h2.1], h2.2⟩))
theorem Eqv.head {x : PS} {l m : List PS} (h : Eqv (x :: l) m) : ∃ pre post, m = pre ++ x :: post ∧ (∀ p ∈ pre, dep p x = false) ∧ Eqv l (pre ++ post) := by
  induction h with
  | refl => exact ⟨[], l, rfl, (by intro p hp; cases hp), Eqv.refl⟩
  | swap P a b Q _ hd ih =>
    obtain ⟨pre, post, h1, h2, h3⟩ := ih
    rcases split_at h1 with ⟨R, rfl, rfl⟩ | ⟨rfl, rfl, rfl⟩ | ⟨rfl, rfl, rfl⟩ | ⟨R, rfl, rfl⟩
    · refine ⟨P ++ b :: a :: R, post, by simp, fun p hp => h2 p (by simp at hp ⊢; grind), ?_⟩
      have := Eqv.swap P a b (R ++ post) (by simpa using h3) hd
      simpa using this
    · exact ⟨P, a :: Q, by simp, fun p hp => h2 p (by simp [hp]), by simpa using h3⟩
    · refine ⟨pre ++ [b], Q, by simp, fun p hp => ?_, by simpa using h3⟩
      rcases List.mem_append.1 hp with hp | hp
      · exact h2 p hp
      · rw [List.mem_singleton.1 hp, dep_comm]; exact hd
    · refine ⟨pre, R ++ b :: a :: Q, by simp, h2, ?_⟩
      have := Eqv.swap (pre ++ R) a b Q (by simpa using h3) hd
      simpa using this
theorem wo_pre {pre post : List PS} {x : PS} (hd : Dist (pre ++ x :: post)) (h : ∀ p ∈ pre, dep p x = false) : wo (pre ++ x :: post) x = some (pre ++ post) := by
  have hg : (pre ++ x :: post)[pre.length]? = some x := by simp
  have hp : ∀ p ∈ pre, pk p x = false := fun p hp => (List.pairwise_append.1 hd).2.2 p hp x (by simp)
  rw [wo_hit (first_idx (f := fun s => pk s x) (by simpa using hp) hg (by simp [pk])) hg]
  rw [if_pos (by simp [iniB]; exact h)]
  simp
theorem insT_eqv : ∀ (l m : List PS), Eqv l m → Dist m → ∀ (s : PS) (root : Bool), insT (.nd s (chain l)) m root = .nd s (chain l)
  | [], m, h, _, s, root => by
    obtain rfl : m = [] := List.length_eq_zero_iff.1 (by simpa using h.perm.length_eq.symm)
    rw [insT]; simp
  | x :: l, m, h, hd, s, root => by
    obtain ⟨pre, post, rfl, h2, h3⟩ := h.head
    have hd' : Dist (pre ++ post) := List.Pairwise.sublist (List.Sublist.append (List.Sublist.refl pre) (List.sublist_cons_self x post)) hd
    rw [insT, if_neg (by simp [chain])]
    simp only [chain, insL, T.s, wo_pre hd h2]
    rw [insT_eqv l (pre ++ post) h3 hd' x false]
    simp
/-- The exchange at k. -/
theorem Eqv.put {l m : List PS} {k : Nat} {a b : PS} (h : Eqv l m) (ha : m[k]? = some a) (hb : m[k + 1]? = some b) (hd : dep a b = false) : Eqv l ((m.set k b).set (k + 1) a) := by
  obtain ⟨h1, rfl⟩ := List.getElem?_eq_some_iff.1 ha
  obtain ⟨h2, rfl⟩ := List.getElem?_eq_some_iff.1 hb
  have hm : m = m.take k ++ m[k] :: m[k + 1] :: m.drop (k + 2) := by
    conv => lhs; rw [← List.take_append_drop k m, List.drop_eq_getElem_cons h1, List.drop_eq_getElem_cons h2]
  have hl : (m.take k).length = k := by rw [List.length_take]; omega
  generalize m[k] = a at *
  generalize m[k + 1] = b at *
  have e : (m.set k b).set (k + 1) a = m.take k ++ b :: a :: m.drop (k + 2) := by
    generalize m.take k = P at *
    generalize m.drop (k + 2) = Q at *
    subst hm
    rw [List.set_append_right _ _ (by omega), hl, Nat.sub_self, List.set_cons_zero, List.set_append_right _ _ (by omega), hl, Nat.add_sub_cancel_left]
    rfl
  rw [e]
  rw [hm] at h
  exact .swap _ _ _ _ h hd
theorem dist_of {l : List PS} (h : ∀ i k : Nat, k < i → ∀ x y, l[i]? = some x → l[k]? = some y → pk x y = false) : Dist l := by
  unfold Dist
  rw [List.pairwise_iff_getElem]
  intro i j hi hj hlt
  rw [pk_comm]
  exact h j i hlt _ _ (List.getElem?_eq_getElem hj) (List.getElem?_eq_getElem hi)
end Go.Proofs.Ytmgiojkdcpolfaa
