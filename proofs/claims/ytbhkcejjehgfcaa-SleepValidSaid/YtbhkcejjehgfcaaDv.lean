/- visit, as a plain function. -/
import Derived.Test.YtbhkcejjehgfcaaDb
namespace Go.Proofs.Ytbhkcejjehgfcaa
open Go.RowKit Go.Sort
set_option linter.unusedSimpArgs false
set_option linter.unusedVariables false

/-- The next step of a thread. -/
def stepOf (ths : List (List St)) (pos : List Nat) (t : Nat) : Option St := (ths[t]?).bind fun l => (pos[t]?).bind fun k => l[k]?
def bump (pos : List Nat) (t : Nat) : List Nat := pos.set t (pos.getD t 0 + 1)
/-- The threads that still sleep behind the step s. -/
def nextZ (ths : List (List St)) (pos : List Nat) (s : St) (Z : Nat → Bool) (u : Nat) : Bool := Z u && !(match stepOf ths pos u with | some x => dpB s x | none => false)
def loopB (rc : List Nat → List St → (Nat → Bool) → List (List St)) (ths : List (List St)) (pos : List Nat) (run : List St) : List Nat → (Nat → Bool) → List (List St)
  | [], _ => []
  | t :: r, Z => match stepOf ths pos t with
    | none => loopB rc ths pos run r Z
    | some s => if Z t = true then loopB rc ths pos run r Z else rc (bump pos t) (run ++ [s]) (nextZ ths pos s Z) ++ loopB rc ths pos run r (fun u => decide (u = t) || Z u)
def endB (ths : List (List St)) (pos : List Nat) (l : List Nat) : Bool := l.all fun t => (stepOf ths pos t).isNone
def endU (ths : List (List St)) (pos : List Nat) (k : Nat) : Bool := endB ths pos (List.range k)
theorem endU_zero (ths : List (List St)) (pos : List Nat) : endU ths pos 0 = true := rfl
theorem endU_succ (ths : List (List St)) (pos : List Nat) (k : Nat) : endU ths pos (k + 1) = (endU ths pos k && (stepOf ths pos k).isNone) := by simp [endU, endB, List.range_succ]
def visB (ths : List (List St)) : Nat → List Nat → List St → (Nat → Bool) → List (List St)
  | 0, _, _, _ => []
  | n + 1, pos, run, Z => loopB (visB ths n) ths pos run (List.range ths.length) Z ++ (if endU ths pos ths.length = true then [run] else [])
/-- The steps that are left. -/
def remB (ths : List (List St)) (pos : List Nat) : Nat := ((List.range ths.length).map fun t => (ths.getD t []).length - pos.getD t 0).sum
structure PosOk (ths : List (List St)) (pos : List Nat) : Prop where
  len : pos.length = ths.length
  le : ∀ (t : Nat) (l : List St) (k : Nat), ths[t]? = some l → pos[t]? = some k → k ≤ l.length
/-- The steps of a run are steps of the threads. -/
structure RunIn (ths : List (List St)) (run : List St) : Prop where
  len : run.length ≤ 100000
  mem : ∀ s ∈ run, ∃ l ∈ ths, s ∈ l
theorem stepOf_some {ths : List (List St)} {pos : List Nat} {t : Nat} {s : St} : stepOf ths pos t = some s ↔ ∃ l k, ths[t]? = some l ∧ pos[t]? = some k ∧ l[k]? = some s := by
  simp only [stepOf, Option.bind_eq_some_iff]
  constructor
  · rintro ⟨l, h1, k, h2, h3⟩; exact ⟨l, k, h1, h2, h3⟩
  · rintro ⟨l, k, h1, h2, h3⟩; exact ⟨l, h1, k, h2, h3⟩
theorem sum_set (l : List Nat) (f g : Nat → Nat) (t : Nat) (hn : l.Nodup) (ht : t ∈ l) (h : ∀ u, u ≠ t → f u = g u) (h1 : f t + 1 = g t) : (l.map f).sum + 1 = (l.map g).sum := by
  induction l with
  | nil => cases ht
  | cons x r ih =>
    obtain ⟨hx, hr⟩ := List.nodup_cons.1 hn
    simp only [List.map_cons, List.sum_cons]
    rcases List.mem_cons.1 ht with rfl | ht
    · have : r.map f = r.map g := List.map_congr_left fun u hu => h u (fun e => hx (e ▸ hu))
      rw [this]; omega
    · have := ih hr ht
      rw [h x (fun e => hx (e ▸ ht))]
      omega
theorem rem_bump {ths : List (List St)} {pos : List Nat} {t : Nat} {s : St} (h : stepOf ths pos t = some s) : remB ths (bump pos t) + 1 = remB ths pos := by
  obtain ⟨l, k, h1, h2, h3⟩ := stepOf_some.1 h
  have hl := (List.getElem?_eq_some_iff.1 h1).1
  have hp := (List.getElem?_eq_some_iff.1 h2).1
  have hk := (List.getElem?_eq_some_iff.1 h3).1
  refine sum_set _ _ _ t List.nodup_range (by simpa using hl) (fun u hu => ?_) ?_
  · simp only [bump, List.getD_eq_getElem?_getD, List.getElem?_set_ne (Ne.symm hu)]
  · simp only [bump, List.getD_eq_getElem?_getD, List.getElem?_set_self hp, h1, h2, Option.getD_some]
    omega
theorem pos_bump {ths : List (List St)} {pos : List Nat} {t : Nat} {s : St} (hp : PosOk ths pos) (h : stepOf ths pos t = some s) : PosOk ths (bump pos t) := by
  obtain ⟨l, k, h1, h2, h3⟩ := stepOf_some.1 h
  have hk := (List.getElem?_eq_some_iff.1 h3).1
  refine ⟨by simp [bump, hp.len], fun u m j hu hj => ?_⟩
  by_cases e : u = t
  · subst e
    rw [h1] at hu; cases hu
    simp only [bump, List.getElem?_set_self (List.getElem?_eq_some_iff.1 h2).1, List.getD_eq_getElem?_getD, h2, Option.getD_some, Option.some.injEq] at hj
    omega
  · rw [bump, List.getElem?_set_ne (Ne.symm e)] at hj
    exact hp.le u m j hu hj
theorem stepOf_bump {ths : List (List St)} {pos : List Nat} {t u : Nat} (h : u ≠ t) : stepOf ths (bump pos t) u = stepOf ths pos u := by
  simp only [stepOf, bump, List.getElem?_set_ne (Ne.symm h)]
theorem rem_pos {ths : List (List St)} {pos : List Nat} {t : Nat} {s : St} (h : stepOf ths pos t = some s) : 0 < remB ths pos := by have := rem_bump h; omega
theorem loop_len {rc : List Nat → List St → (Nat → Bool) → List (List St)} {ths : List (List St)} {pos : List Nat} {run : List St} {B : Nat} (h : ∀ a b c, (rc a b c).length ≤ B) : ∀ (l : List Nat) (Z : Nat → Bool), (loopB rc ths pos run l Z).length ≤ l.length * B
  | [], Z => Nat.zero_le _
  | t :: r, Z => by
    have e : (t :: r).length * B = r.length * B + B := by simp [Nat.add_mul]
    unfold loopB
    split
    · have := loop_len h r Z (ths := ths) (pos := pos) (run := run); omega
    · split
      · have := loop_len h r Z (ths := ths) (pos := pos) (run := run); omega
      · rw [List.length_append]
        rename_i s _ _
        have h1 := loop_len h r (fun u => decide (u = t) || Z u) (ths := ths) (pos := pos) (run := run)
        have h2 := h (bump pos t) (run ++ [s]) (nextZ ths pos s Z)
        omega
theorem vis_len (ths : List (List St)) : ∀ (n : Nat) (pos : List Nat) (run : List St) (Z : Nat → Bool), (visB ths n pos run Z).length ≤ (ths.length + 1) ^ n
  | 0, _, _, _ => by simp [visB]
  | n + 1, pos, run, Z => by
    have h1 := loop_len (ths := ths) (pos := pos) (run := run) (fun a b c => vis_len ths n a b c) (List.range ths.length) Z
    have hp : 0 < (ths.length + 1) ^ n := Nat.pow_pos (Nat.succ_pos _)
    rw [visB, List.length_append, Nat.pow_succ, Nat.mul_add, Nat.mul_one]
    simp only [List.length_range] at h1
    have h2 : (if endU ths pos ths.length = true then [run] else []).length ≤ 1 := by split <;> simp
    rw [Nat.mul_comm] at h1
    omega

/-! ### The sleeping threads as a map -/
def zf (Z : Nat → Bool) : Lit → Option Value := fun l => match l with
  | .int .i64 a => if 0 ≤ a ∧ Z a.toNat = true then some (.bool true) else none
  | _ => none
theorem zf_at (Z : Nat → Bool) (t : Nat) : zf Z (.int .i64 (t : Int)) = if Z t = true then some (.bool true) else none := by simp [zf]
theorem zf_look (Z : Nat → Bool) (t : Nat) : cv ((zf Z (.int .i64 (t : Int))).getD (.bool false)) = .bool (Z t) := by
  rw [zf_at]
  cases Z t <;> rfl
theorem zf_ext {Z Z' : Nat → Bool} (h : ∀ u, Z u = Z' u) : zf Z = zf Z' := by rw [show Z = Z' from funext h]
theorem zf_put (Z : Nat → Bool) (t : Nat) : updF (zf Z) (.int .i64 (t : Int)) (some (.bool true)) = zf fun u => decide (u = t) || Z u := by
  funext l
  by_cases e : l = .int .i64 (t : Int)
  · subst e; rw [updF_same, zf_at]; simp
  · rw [updF_ne _ _ e]
    unfold zf
    split
    · rename_i a
      by_cases h0 : 0 ≤ a
      · have hne : a.toNat ≠ t := fun e2 => e (by rw [← e2, Int.toNat_of_nonneg h0])
        simp [hne]
      · simp [h0]
    · rfl
theorem zf_del (Z : Nat → Bool) (t : Nat) : updF (zf Z) (.int .i64 (t : Int)) none = zf fun u => !decide (u = t) && Z u := by
  funext l
  by_cases e : l = .int .i64 (t : Int)
  · subst e; rw [updF_same, zf_at]; simp
  · rw [updF_ne _ _ e]
    unfold zf
    split
    · rename_i a
      by_cases h0 : 0 ≤ a
      · have hne : a.toNat ≠ t := fun e2 => e (by rw [← e2, Int.toNat_of_nonneg h0])
        simp [hne]
      · simp [h0]
    · rfl
theorem zf_none : zf (fun _ => false) = fun _ => none := by
  funext l
  unfold zf
  split <;> simp
end Go.Proofs.Ytbhkcejjehgfcaa
