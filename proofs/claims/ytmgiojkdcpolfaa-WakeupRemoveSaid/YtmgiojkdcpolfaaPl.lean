/- Trees in plain Lean: sizes, paths, insertion twice. -/
import Derived.Test.YtmgiojkdcpolfaaLf
namespace Go.Proofs.Ytmgiojkdcpolfaa
open Go.RowKit Go.Sort PT

mutual
def cnt : T → Nat
  | .nd _ ks => 1 + cntL ks
def cntL : List T → Nat
  | [] => 0
  | t :: r => cnt t + cntL r
end
theorem cntL_append : ∀ a b : List T, cntL (a ++ b) = cntL a + cntL b
  | [], b => by simp [cntL]
  | x :: a, b => by simp [cntL, cntL_append a b]; omega
mutual
theorem nodes_cnt : ∀ t : PT, (nodes t).length = cnt (sh t)
  | .mk s a c ks => by simp [nodes, sh, cnt, nodesL_cnt ks]; omega
theorem nodesL_cnt : ∀ l : List PT, (nodesL l).length = cntL (shL l)
  | [] => by simp [nodesL, shL, cntL]
  | t :: r => by simp [nodesL, shL, cntL, nodes_cnt t, nodesL_cnt r]
end
theorem cnt_chain : ∀ l : List PS, cntL (chain l) = l.length
  | [] => by simp [chain, cntL]
  | s :: r => by simp [chain, cntL, cnt, cnt_chain r]; omega
theorem wo_le {l rest : List PS} {x : PS} (h : wo l x = some rest) : rest.length ≤ l.length := wo_len h
mutual
theorem insT_cnt : ∀ (t : T) (l : List PS) (root : Bool), cnt (insT t l root) ≤ cnt t + l.length
  | .nd s ks, l, root => by
    rw [insT]
    split
    · omega
    · simp only [cnt]
      cases h : insL ks l with
      | none => simp [cntL_append, cnt_chain]; omega
      | some k => have := insL_cnt ks l k h; simp; omega
theorem insL_cnt : ∀ (ks : List T) (l : List PS) (r : List T), insL ks l = some r → cntL r ≤ cntL ks + l.length
  | [], l, r, h => by simp [insL] at h
  | k :: ks, l, r, h => by
    rw [insL] at h
    cases hw : wo l k.s with
    | none =>
      rw [hw] at h
      simp only [Option.map_eq_some_iff] at h
      obtain ⟨r', h1, rfl⟩ := h
      have := insL_cnt ks l r' h1
      simp [cntL]; omega
    | some rest =>
      rw [hw] at h
      simp only [Option.some.injEq] at h
      subst h
      have h1 := insT_cnt k rest false
      have h2 := wo_le hw
      simp [cntL]; omega
end
mutual
theorem lvT_len : ∀ (be : List PS) (t : T), (lvT be t).length ≤ cnt t
  | be, .nd s ks => by
    rw [lvT]
    split
    · simp [cnt]
    · have := lvK_len (be ++ [s]) ks; simp [cnt]; omega
theorem lvK_len : ∀ (be : List PS) (ks : List T), (lvK be ks).length ≤ cntL ks
  | be, [] => by simp [lvK]
  | be, k :: r => by have h1 := lvT_len be k; have h2 := lvK_len be r; simp [lvK, cntL]; omega
end
mutual
theorem lvT_path : ∀ (be : List PS) (t : T), ∀ p ∈ lvT be t, p.length ≤ be.length + cnt t ∧ ∃ q, p = be ++ t.s :: q
  | be, .nd s ks => by
    rw [lvT]
    split
    · intro p hp
      rw [List.mem_singleton.1 hp]
      exact ⟨by simp [cnt], [], by simp [T.s]⟩
    · rename_i h
      intro p hp
      obtain ⟨h1, k, _, q, h2⟩ := lvK_path (be ++ [s]) ks p hp
      refine ⟨by simp at h1; simp [cnt]; omega, k.s :: q, by rw [h2]; simp [T.s]⟩
theorem lvK_path : ∀ (be : List PS) (ks : List T), ∀ p ∈ lvK be ks, p.length ≤ be.length + cntL ks ∧ ∃ k ∈ ks, ∃ q, p = be ++ k.s :: q
  | be, [] => by simp [lvK]
  | be, k :: r => by
    intro p hp
    rw [lvK] at hp
    rcases List.mem_append.1 hp with hp | hp
    · obtain ⟨h1, q, h2⟩ := lvT_path be k p hp
      exact ⟨by simp [cntL]; omega, k, List.mem_cons_self .., q, h2⟩
    · obtain ⟨h1, k', h2, q, h3⟩ := lvK_path be r p hp
      exact ⟨by simp [cntL]; omega, k', List.mem_cons_of_mem _ h2, q, h3⟩
end

/-! ### Insertion twice -/
theorem insT_s (t : T) (l : List PS) (root : Bool) : (insT t l root).s = t.s := by
  cases t with
  | nd s ks => rw [insT]; split <;> rfl
theorem wo_head (x : PS) (l : List PS) : wo (x :: l) x = some l := by
  have := wo_hit (l := x :: l) (x := x) (k := 0) (y := x) (by simp [List.findIdx?_cons, pk]) rfl
  rw [this]
  simp [iniB]
theorem insT_chain (s : PS) : ∀ (l : List PS) (root : Bool), insT (.nd s (chain l)) l root = .nd s (chain l)
  | [], root => by rw [insT]; simp
  | x :: l, root => by
    rw [insT]
    rw [if_neg (by simp [chain])]
    simp only [chain, insL, T.s, wo_head]
    rw [insT_chain x l false]
    simp
theorem insL_append_none : ∀ {ks : List T} {l : List PS} (r : List T), insL ks l = none → insL (ks ++ r) l = (insL r l).map (ks ++ ·)
  | [], l, r, _ => by simp
  | k :: ks, l, r, h => by
    rw [insL] at h
    cases hw : wo l k.s with
    | some rest => rw [hw] at h; cases h
    | none =>
      rw [hw] at h
      simp only [Option.map_eq_none_iff] at h
      rw [List.cons_append, insL, hw]
      simp only
      rw [insL_append_none r h]
      cases insL r l <;> simp
mutual
theorem insT_twice : ∀ (t : T) (l : List PS) (root : Bool), insT (insT t l root) l root = insT t l root
  | .nd s ks, l, root => by
    rw [insT]
    split
    · rename_i h
      rw [insT, if_pos h]
    · rename_i h
      cases hi : insL ks l with
      | none =>
        simp only [Option.getD_none]
        cases l with
        | nil => simp at h
        | cons x l =>
          rw [insT, if_neg (by simp [chain])]
          rw [insL_append_none _ hi]
          simp only [chain, insL, T.s, wo_head, Option.map_some, Option.getD_some]
          rw [insT_chain x l false]
      | some r =>
        simp only [Option.getD_some]
        have h2 := insL_twice ks l r hi
        have hr : (l.isEmpty || !root && r.isEmpty) = false := by
          have hlen : r.length = ks.length := insL_length ks l r hi
          cases hr0 : r with
          | nil => 
            rw [hr0] at hlen
            have : ks = [] := List.length_eq_zero_iff.1 hlen.symm
            subst this
            simp [insL] at hi
          | cons a b =>
            simp at h ⊢
            exact h.1
        rw [insT, if_neg (by rw [hr]; simp), h2]
        rfl
theorem insL_twice : ∀ (ks : List T) (l : List PS) (r : List T), insL ks l = some r → insL r l = some r
  | [], l, r, h => by simp [insL] at h
  | k :: ks, l, r, h => by
    rw [insL] at h
    cases hw : wo l k.s with
    | none =>
      rw [hw] at h
      simp only [Option.map_eq_some_iff] at h
      obtain ⟨r', h1, rfl⟩ := h
      rw [insL, hw]
      simp only
      rw [insL_twice ks l r' h1]
      rfl
    | some rest =>
      rw [hw] at h
      simp only [Option.some.injEq] at h
      subst h
      rw [insL, insT_s, hw]
      simp only
      rw [insT_twice k rest false]
theorem insL_length : ∀ (ks : List T) (l : List PS) (r : List T), insL ks l = some r → r.length = ks.length
  | [], l, r, h => by simp [insL] at h
  | k :: ks, l, r, h => by
    rw [insL] at h
    cases hw : wo l k.s with
    | none =>
      rw [hw] at h
      simp only [Option.map_eq_some_iff] at h
      obtain ⟨r', h1, rfl⟩ := h
      simp [insL_length ks l r' h1]
    | some rest =>
      rw [hw] at h
      simp only [Option.some.injEq] at h
      subst h
      simp
end

/-! ### One path more -/
theorem lvK_chain (be : List PS) : ∀ (x : PS) (l : List PS), lvK be (chain (x :: l)) = [be ++ x :: l]
  | x, [] => by simp [chain, lvK, lvT]
  | x, y :: l => by
    have := lvK_chain (be ++ [x]) y l
    rw [chain, lvK, lvT, this]
    simp [chain, lvK]
/-- The list b is a with at most one more within. -/
def More {α : Type} (a b : List α) : Prop := ∃ x y z, a = x ++ z ∧ b = x ++ y ++ z ∧ y.length ≤ 1
theorem More.refl {α : Type} (a : List α) : More a a := ⟨a, [], [], by simp, by simp, by simp⟩
theorem More.pre {α : Type} {a b : List α} (c : List α) (h : More a b) : More (c ++ a) (c ++ b) := by
  obtain ⟨x, y, z, rfl, rfl, h⟩ := h
  exact ⟨c ++ x, y, z, by simp, by simp, h⟩
theorem More.post {α : Type} {a b : List α} (c : List α) (h : More a b) : More (a ++ c) (b ++ c) := by
  obtain ⟨x, y, z, rfl, rfl, h⟩ := h
  exact ⟨x, y, z ++ c, by simp, by simp, h⟩
mutual
theorem insT_more : ∀ (t : T) (l : List PS) (root : Bool) (be : List PS), More (lvK be t.ks) (lvK be (insT t l root).ks) ∧ (root = false → More (lvT be t) (lvT be (insT t l root)))
  | .nd s ks, l, root, be => by
    rw [insT]
    split
    · exact ⟨More.refl _, fun _ => More.refl _⟩
    · rename_i h
      have key : ∀ be, More (lvK be ks) (lvK be ((insL ks l).getD (ks ++ chain l))) := fun be => by
        cases hi : insL ks l with
        | none =>
          simp only [Option.getD_none]
          rw [lvK_append]
          cases l with
          | nil => simp [chain, lvK]; exact More.refl _
          | cons x l => rw [lvK_chain]; exact ⟨lvK be ks, [be ++ x :: l], [], by simp, by simp, by simp⟩
        | some r => exact insL_more ks l r be hi
      refine ⟨key be, fun hr => ?_⟩
      subst hr
      have hne : ks.isEmpty = false := by simpa using (by simpa using h : _ ∧ _).2
      have hne2 : ((insL ks l).getD (ks ++ chain l)).isEmpty = false := by
        cases hi : insL ks l with
        | none => cases ks with
          | nil => simp at hne
          | cons a b => simp
        | some r =>
          have := insL_length ks l r hi
          cases ks with
          | nil => simp at hne
          | cons a b => cases r with
            | nil => simp at this
            | cons c d => simp
      rw [lvT, lvT, hne, hne2]
      simp only [Bool.false_eq_true, if_false]
      exact key _
theorem insL_more : ∀ (ks : List T) (l : List PS) (r : List T) (be : List PS), insL ks l = some r → More (lvK be ks) (lvK be r)
  | [], l, r, be, h => by simp [insL] at h
  | k :: ks, l, r, be, h => by
    rw [insL] at h
    cases hw : wo l k.s with
    | none =>
      rw [hw] at h
      simp only [Option.map_eq_some_iff] at h
      obtain ⟨r', h1, rfl⟩ := h
      rw [lvK, lvK]
      exact (insL_more ks l r' be h1).pre _
    | some rest =>
      rw [hw] at h
      simp only [Option.some.injEq] at h
      subst h
      rw [lvK, lvK]
      exact ((insT_more k rest false be).2 rfl).post _
end

end Go.Proofs.Ytmgiojkdcpolfaa
