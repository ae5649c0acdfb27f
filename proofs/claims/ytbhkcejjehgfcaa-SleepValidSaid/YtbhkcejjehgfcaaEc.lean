/- The least linearization, as a plain function. -/
import Derived.Test.YtbhkcejjehgfcaaEb
namespace Go.Proofs.Ytbhkcejjehgfcaa
open Go.RowKit Go.Sort
set_option linter.unusedSimpArgs false
set_option linter.unusedVariables false

def freeL (s : St) : List St → List Bool → Bool
  | x :: l, c :: ch => (c || !dpB x s) && freeL s l ch
  | _, _ => true
def pkLt (a b : St) : Bool := decide (a.g < b.g ∨ a.g = b.g ∧ a.c < b.c)
theorem pkLt_or (a b : St) : decide (orI [cmpI a.g b.g, cmpI a.c b.c] < 0) = pkLt a b := by
  unfold pkLt orI orI orI cmpI
  by_cases h1 : a.g < b.g
  · simp [h1]
  · by_cases h2 : b.g < a.g
    · have : ¬ a.g = b.g := by omega
      simp [h1, h2, this]
    · have h3 : a.g = b.g := by omega
      by_cases h4 : a.c < b.c
      · simp [h3, h4]
      · by_cases h5 : b.c < a.c <;> simp [h3, h4, h5]
/-- The step i is better than what is. -/
def betB (l : List St) (ch : List Bool) (b : Option Nat) (i : Nat) (s : St) : Bool := !(ch.getD i false) && (freeL s (l.take i) ch && (match b with
  | none => true
  | some j => match l[j]? with
    | some y => pkLt s y
    | none => false))
def bestStep (l : List St) (ch : List Bool) (b : Option Nat) (i : Nat) : Option Nat := match l[i]? with
  | none => b
  | some s => if betB l ch b i s = true then some i else b
def bestN (l : List St) (ch : List Bool) : Nat → Option Nat
  | 0 => none
  | n + 1 => bestStep l ch (bestN l ch n) n
def ordStep (l : List St) (p : List Nat × List Bool) : List Nat × List Bool := match bestN l p.2 l.length with
  | some b => (p.1 ++ [b], p.2.set b true)
  | none => p
def ordN (l : List St) : Nat → List Nat × List Bool
  | 0 => ([], List.replicate l.length false)
  | k + 1 => ordStep l (ordN l k)
def orderB (l : List St) : List Nat := (ordN l l.length).1
def leastB (l : List St) : List St := (orderB l).filterMap (l[·]?)
def pick (s : St) : Int × Int := (s.g, s.c)
def canB (l : List St) : List (Int × Int) := (leastB l).map pick

theorem freeL_all (s : St) : ∀ (l : List St) (ch : List Bool) , (∀ k, k < l.length → ch[k]? = some true) → freeL s l ch = true
  | [], _, _ => by cases ‹List Bool› <;> rfl
  | x :: l, [], _ => rfl
  | x :: l, c :: ch, h => by
    have := h 0 (by simp)
    simp only [List.getElem?_cons_zero, Option.some.injEq] at this
    rw [freeL, this, Bool.true_or, Bool.true_and]
    exact freeL_all s l ch fun k hk => by have := h (k + 1) (by simpa using hk); simpa using this
theorem best_lt (l : List St) (ch : List Bool) : ∀ n b, bestN l ch n = some b → b < n ∧ b < l.length ∧ ch.getD b false = false
  | 0, b, h => by cases h
  | n + 1, b, h => by
    rw [bestN, bestStep] at h
    split at h
    · have := best_lt l ch n b h; exact ⟨by omega, this.2⟩
    · rename_i s hs
      split at h
      · rename_i hb
        cases h
        refine ⟨by omega, (List.getElem?_eq_some_iff.1 hs).1, ?_⟩
        simp only [betB, Bool.and_eq_true, Bool.not_eq_true'] at hb
        exact hb.1
      · have := best_lt l ch n b h; exact ⟨by omega, this.2⟩
theorem best_some (l : List St) (ch : List Bool) (hc : ch.length = l.length) : ∀ n, n ≤ l.length → (∃ i, i < n ∧ ch[i]? = some false) → ∃ b, bestN l ch n = some b
  | 0, _, ⟨i, hi, _⟩ => by omega
  | n + 1, hn, ⟨i, hi, h⟩ => by
    obtain ⟨s, hs⟩ := at_lt (l := l) (k := n) (by omega)
    rw [bestN, bestStep, hs]
    by_cases hex : ∃ i, i < n ∧ ch[i]? = some false
    · obtain ⟨b, hb⟩ := best_some l ch hc n (by omega) hex
      rw [hb]
      dsimp only
      split <;> exact ⟨_, rfl⟩
    · have hall : ∀ k, k < n → ch[k]? = some true := fun k hk => by
        obtain ⟨c, hck⟩ := at_lt (l := ch) (k := k) (by omega)
        cases c
        · exact absurd ⟨k, hk, hck⟩ hex
        · exact hck
      have hin : i = n := by
        refine Nat.le_antisymm (by omega) (Nat.le_of_not_lt fun hlt => ?_)
        rw [hall i hlt] at h; cases h
      subst hin
      cases hb : bestN l ch i with
      | some b => dsimp only; split <;> exact ⟨_, rfl⟩
      | none =>
        refine ⟨i, ?_⟩
        have : betB l ch none i s = true := by
          simp only [betB, List.getD_eq_getElem?_getD, h, Option.getD_some, Bool.not_false, Bool.true_and, Bool.and_true]
          exact freeL_all s _ ch fun k hk => hall k (by simp at hk; omega)
        dsimp only
        rw [if_pos this]
theorem count_set (ch : List Bool) (b : Nat) (hb : ch[b]? = some false) : (ch.set b true).count false + 1 = ch.count false := by
  induction ch generalizing b with
  | nil => simp at hb
  | cons c r ih =>
    cases b with
    | zero => simp at hb; subst hb; simp
    | succ b =>
      have := ih b (by simpa using hb)
      rw [List.set_cons_succ, List.count_cons, List.count_cons]
      omega
theorem ord_inv (l : List St) : ∀ k, k ≤ l.length → (ordN l k).2.length = l.length ∧ (ordN l k).2.count false + k = l.length ∧ (ordN l k).1.length = k ∧ ∀ i ∈ (ordN l k).1, i < l.length
  | 0, _ => by simp [ordN]
  | k + 1, h => by
    obtain ⟨h1, h2, h3, h4⟩ := ord_inv l k (by omega)
    have hex : ∃ i, i < l.length ∧ (ordN l k).2[i]? = some false := by
      have : 0 < (ordN l k).2.count false := by omega
      obtain ⟨i, hi, e⟩ := List.getElem_of_mem (List.count_pos_iff.1 this)
      exact ⟨i, by omega, by rw [List.getElem?_eq_getElem hi, e]⟩
    obtain ⟨b, hb⟩ := best_some l _ h1 l.length (Nat.le_refl _) hex
    obtain ⟨b1, b2, b3⟩ := best_lt l _ _ b hb
    have hbf : (ordN l k).2[b]? = some false := by
      obtain ⟨c, hc⟩ := at_lt (l := (ordN l k).2) (k := b) (by omega)
      rw [List.getD_eq_getElem?_getD, hc] at b3
      rw [hc]; simpa using b3
    have := count_set _ b hbf
    rw [ordN, ordStep, hb]
    refine ⟨by simp [h1], by simp only; omega, by simp [h3], fun i hi => ?_⟩
    rcases List.mem_append.1 hi with hi | hi
    · exact h4 i hi
    · rw [List.mem_singleton.1 hi]; exact b2
theorem ord_next (l : List St) (k : Nat) (h : k < l.length) : ∃ b, bestN l (ordN l k).2 l.length = some b ∧ b < l.length ∧ ordN l (k + 1) = ((ordN l k).1 ++ [b], (ordN l k).2.set b true) := by
  obtain ⟨h1, h2, h3, h4⟩ := ord_inv l k (by omega)
  have hex : ∃ i, i < l.length ∧ (ordN l k).2[i]? = some false := by
    have : 0 < (ordN l k).2.count false := by omega
    obtain ⟨i, hi, e⟩ := List.getElem_of_mem (List.count_pos_iff.1 this)
    exact ⟨i, by omega, by rw [List.getElem?_eq_getElem hi, e]⟩
  obtain ⟨b, hb⟩ := best_some l _ h1 l.length (Nat.le_refl _) hex
  exact ⟨b, hb, (best_lt l _ _ b hb).2.1, by rw [ordN, ordStep, hb]⟩
end Go.Proofs.Ytbhkcejjehgfcaa
