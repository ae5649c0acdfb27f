/- The document's memory: sorted entries; in plain Lean. -/
import Derived.Test.YtioajmhfofmdoaaWd
namespace Go.Proofs.Ytioajmhfofmdoaa
open Go.RowKit Go.Sort

abbrev Ent := Int × Int × Wd
def lessM (o f o' f' : Int) : Bool := decide (o < o') || (o == o' && decide (f < f'))
def isLoc (e : Ent) (o f : Int) : Bool := e.1 == o && e.2.1 == f
def zeroM (x : Wd) : Bool := wdE x wz
def getM : List Ent → Int → Int → Wd
  | [], _, _ => wz
  | e :: r, o, f => if isLoc e o f then e.2.2 else getM r o f
/-- The rest of Set's loop: what is put out for the entries that are left. -/
def setGo (o f : Int) (x : Wd) : List Ent → Bool → List Ent
  | [], d => if d then [] else [(o, f, x)]
  | e :: r, d =>
    (if !d && lessM o f e.1 e.2.1 then [(o, f, x)] else []) ++ (if isLoc e o f then [] else [e]) ++ setGo o f x r (d || lessM o f e.1 e.2.1)
def setM (l : List Ent) (o f : Int) (x : Wd) : List Ent := if o < 0 ∨ f < 0 then l else setGo o f x l (zeroM x)
def clearM (l : List Ent) (o : Int) : List Ent := l.filter fun e => !(e.1 == o)
/-- Do two entries lie on one page? -/
def pageE (a b : Ent) : Bool := a.1 == b.1 && a.2.1.tdiv 16 == b.2.1.tdiv 16
def pagesM : List Ent → Nat
  | [] => 0
  | [_] => 1
  | a :: b :: r => (if pageE a b then 0 else 1) + pagesM (b :: r)
inductive Ch
  | set (o f : Int) (x : Wd)
  | drop (o : Int)
def doM (l : List Ent) : Ch → List Ent
  | .set o f x => setM l o f x
  | .drop o => clearM l o

/-! ### What the entries tell -/
def ltE (a b : Ent) : Prop := a.1 < b.1 ∨ a.1 = b.1 ∧ a.2.1 < b.2.1
structure Good (l : List Ent) : Prop where
  sorted : l.Pairwise ltE
  usable : ∀ e ∈ l, 0 ≤ e.1 ∧ 0 ≤ e.2.1
  some : ∀ e ∈ l, zeroM e.2.2 = false
theorem good_nil : Good [] := ⟨List.Pairwise.nil, fun _ h => (by cases h), fun _ h => (by cases h)⟩
theorem isLoc_iff {e : Ent} {o f : Int} : isLoc e o f = true ↔ e.1 = o ∧ e.2.1 = f := by simp [isLoc]
theorem lessM_iff {o f o' f' : Int} : lessM o f o' f' = true ↔ o < o' ∨ o = o' ∧ f < f' := by simp [lessM]
theorem get_none {l : List Ent} {o f : Int} (h : ∀ e ∈ l, isLoc e o f = false) : getM l o f = wz := by
  induction l with
  | nil => rfl
  | cons e r ih =>
    rw [getM, if_neg (by rw [h e (List.mem_cons.2 (.inl rfl))]; simp)]
    exact ih fun e' h' => h e' (List.mem_cons.2 (.inr h'))
theorem get_append {a b : List Ent} {o f : Int} (h : ∀ e ∈ a, isLoc e o f = false) : getM (a ++ b) o f = getM b o f := by
  induction a with
  | nil => rfl
  | cons e r ih =>
    rw [List.cons_append, getM, if_neg (by rw [h e (List.mem_cons.2 (.inl rfl))]; simp)]
    exact ih fun e' h' => h e' (List.mem_cons.2 (.inr h'))
/-- Behind the place where the word lies: the entries but those of the location. -/
theorem setGo_done (o f : Int) (x : Wd) : ∀ l, setGo o f x l true = l.filter fun e => !isLoc e o f
  | [] => by simp [setGo]
  | e :: r => by
    simp only [setGo, Bool.not_true, Bool.false_and, Bool.false_eq_true, if_false, List.nil_append, Bool.true_or, List.filter_cons]
    rw [setGo_done o f x r]
    cases isLoc e o f <;> simp
theorem mem_setGo (o f : Int) (x : Wd) : ∀ (l : List Ent) (d : Bool) (e : Ent), e ∈ setGo o f x l d → (e = (o, f, x) ∧ d = false) ∨ (e ∈ l ∧ isLoc e o f = false)
  | [], d, e, h => by
    cases d
    · simp [setGo] at h; exact .inl ⟨h, rfl⟩
    · simp [setGo] at h
  | a :: r, d, e, h => by
    simp only [setGo, List.mem_append] at h
    rcases h with (h | h) | h
    · split at h
      · rename_i hc
        simp at h hc
        exact .inl ⟨h, hc.1⟩
      · cases h
    · split at h
      · cases h
      · rename_i hc
        simp at h
        subst h
        exact .inr ⟨List.mem_cons.2 (.inl rfl), by simpa using hc⟩
    · rcases mem_setGo o f x r _ e h with ⟨h1, h2⟩ | ⟨h1, h2⟩
      · exact .inl ⟨h1, by simp at h2; exact h2.1⟩
      · exact .inr ⟨List.mem_cons.2 (.inr h1), h2⟩
theorem ltE_trans {a b c : Ent} (h : ltE a b) (k : ltE b c) : ltE a c := by
  unfold ltE at *; omega
theorem setGo_sorted (o f : Int) (x : Wd) : ∀ (l : List Ent) (d : Bool), l.Pairwise ltE → (setGo o f x l d).Pairwise ltE
  | [], d, _ => by cases d <;> simp [setGo]
  | a :: r, d, h => by
    obtain ⟨h1, h2⟩ := List.pairwise_cons.1 h
    have ih := fun d => setGo_sorted o f x r d h2
    simp only [setGo]
    cases d
    · cases hl : lessM o f a.1 a.2.1
      · simp only [Bool.not_false, Bool.true_and, Bool.false_eq_true, if_false, List.nil_append, Bool.or_self]
        have hn : ¬ (o < a.1 ∨ o = a.1 ∧ f < a.2.1) := fun h => by rw [← lessM_iff, hl] at h; cases h
        cases hi : isLoc a o f
        · simp only [Bool.false_eq_true, if_false, List.singleton_append, List.pairwise_cons]
          have hi' : ¬ (a.1 = o ∧ a.2.1 = f) := fun h => by rw [← isLoc_iff, hi] at h; cases h
          refine ⟨fun e he => ?_, ih false⟩
          rcases mem_setGo o f x r false e he with ⟨e1, _⟩ | ⟨e1, _⟩
          · subst e1; unfold ltE; simp only; omega
          · exact h1 e e1
        · simp only [if_true, List.nil_append]; exact ih false
      · have hl' := lessM_iff.1 hl
        simp only [Bool.not_false, Bool.true_and, if_true, Bool.or_true]
        have hi : isLoc a o f = false := by
          cases hi : isLoc a o f with
          | false => rfl
          | true => have := isLoc_iff.1 hi; omega
        rw [hi, setGo_done]
        simp only [Bool.false_eq_true, if_false, List.cons_append, List.nil_append, List.pairwise_cons]
        have ha : ltE (o, f, x) a := by unfold ltE; simp only; omega
        refine ⟨fun e he => ?_, fun e he => h1 e (List.mem_filter.1 he).1, h2.filter _⟩
        rcases List.mem_cons.1 he with rfl | he
        · exact ha
        · exact ltE_trans ha (h1 e (List.mem_filter.1 he).1)
    · simp only [Bool.not_true, Bool.false_and, Bool.false_eq_true, if_false, List.nil_append, Bool.true_or]
      rw [setGo_done]
      split
      · simp only [List.nil_append]; exact h2.filter _
      · simp only [List.singleton_append, List.pairwise_cons]
        exact ⟨fun e he => h1 e (List.mem_filter.1 he).1, h2.filter _⟩
theorem good_set {l : List Ent} (h : Good l) (o f : Int) (x : Wd) : Good (setM l o f x) := by
  unfold setM
  split
  · exact h
  · rename_i hv
    refine ⟨setGo_sorted _ _ _ _ _ h.sorted, fun e he => ?_, fun e he => ?_⟩
    · rcases mem_setGo _ _ _ _ _ _ he with ⟨rfl, _⟩ | ⟨e1, _⟩
      · simp only; omega
      · exact h.usable e e1
    · rcases mem_setGo _ _ _ _ _ _ he with ⟨rfl, e2⟩ | ⟨e1, _⟩
      · exact e2
      · exact h.some e e1
theorem good_clear {l : List Ent} (h : Good l) (o : Int) : Good (clearM l o) :=
  ⟨h.sorted.filter _, fun e he => h.usable e (List.mem_filter.1 he).1, fun e he => h.some e (List.mem_filter.1 he).1⟩
theorem get_filter {l : List Ent} {o f : Int} (p : Ent → Bool) (hp : ∀ e, isLoc e o f = true → p e = true) : getM (l.filter p) o f = getM l o f := by
  induction l with
  | nil => rfl
  | cons e r ih =>
    rw [List.filter_cons]
    cases hi : isLoc e o f
    · split
      · rw [getM, getM, if_neg (by rw [hi]; simp), if_neg (by rw [hi]; simp)]; exact ih
      · rw [getM, if_neg (by rw [hi]; simp)]; exact ih
    · rw [if_pos (hp e hi), getM, getM, if_pos hi, if_pos hi]

end Go.Proofs.Ytioajmhfofmdoaa
