/- The reference's list of nodes and the tree, in plain Lean. -/
import Derived.Test.YtmgiojkdcpolfaaPm
namespace Go.Proofs.Ytmgiojkdcpolfaa
open Go.RowKit Go.Sort PT

/-- A node of the list: where it stands, and its step. -/
abbrev En := List Nat × PS
def isCh (p q : List Nat) : Bool := p.length == q.length + 1 && p.take q.length == q
theorem isCh_iff {p q : List Nat} : isCh p q = true ↔ ∃ j, p = q ++ [j] := by
  simp only [isCh, Bool.and_eq_true, beq_iff_eq]
  constructor
  · rintro ⟨h1, h2⟩
    have hd : (p.drop q.length).length = 1 := by rw [List.length_drop]; omega
    obtain ⟨j, hj⟩ := List.length_eq_one_iff.1 hd
    exact ⟨j, by rw [← hj]; conv => lhs; rw [← List.take_append_drop q.length p, h2]⟩
  · rintro ⟨j, rfl⟩
    simp
def chL (e : List En) (q : List Nat) : List En := e.filter fun x => isCh x.1 q
theorem chL_append (a b : List En) (q : List Nat) : chL (a ++ b) q = chL a q ++ chL b q := List.filter_append ..
theorem chL_none {e : List En} {q : List Nat} (h : ∀ x ∈ e, ∀ j, x.1 ≠ q ++ [j]) : chL e q = [] := by
  rw [chL, List.filter_eq_nil_iff]
  intro x hx hc
  obtain ⟨j, hj⟩ := isCh_iff.1 hc
  exact h x hx j hj
def mapK (q : List Nat) : Nat → List T → List En
  | _, [] => []
  | j, k :: ks => (q ++ [j], k.s) :: mapK q (j + 1) ks
mutual
/-- The list of nodes holds the tree below q. -/
def RepT (e : List En) : List Nat → T → Prop
  | q, .nd _ ks => chL e q = mapK q 0 ks ∧ (∀ x ∈ e, ∀ j r, x.1 = q ++ j :: r → j < ks.length) ∧ RepL e q 0 ks
def RepL (e : List En) : List Nat → Nat → List T → Prop
  | _, _, [] => True
  | q, j, k :: ks => RepT e (q ++ [j]) k ∧ RepL e q (j + 1) ks
end
def newN (q : List Nat) : Nat → List PS → List En
  | _, [] => []
  | n, x :: l => (q ++ [n], x) :: newN (q ++ [n]) 0 l
mutual
/-- The nodes that an insertion appends. -/
def rI : T → List Nat → List PS → Bool → List En
  | .nd _ ks, q, l, root => if l.isEmpty || (!root && ks.isEmpty) then [] else (rL ks q 0 l).getD (newN q ks.length l)
def rL : List T → List Nat → Nat → List PS → Option (List En)
  | [], _, _, _ => none
  | k :: r, q, j, l => match wo l k.s with
    | some rest => some (rI k (q ++ [j]) rest false)
    | none => rL r q (j + 1) l
end
theorem newN_pos : ∀ (l : List PS) (q : List Nat) (n : Nat), ∀ x ∈ newN q n l, ∃ r, x.1 = q ++ n :: r
  | [], _, _, x, hx => by simp [newN] at hx
  | y :: l, q, n, x, hx => by
    rw [newN] at hx
    rcases List.mem_cons.1 hx with rfl | hx
    · exact ⟨[], rfl⟩
    · obtain ⟨r, hr⟩ := newN_pos l (q ++ [n]) 0 x hx
      exact ⟨0 :: r, by rw [hr]; simp⟩
mutual
theorem rI_pos : ∀ (t : T) (q : List Nat) (l : List PS) (root : Bool), ∀ x ∈ rI t q l root, ∃ j r, x.1 = q ++ j :: r
  | .nd s ks, q, l, root, x, hx => by
    rw [rI] at hx
    split at hx
    · simp at hx
    · cases hr : rL ks q 0 l with
      | none =>
        rw [hr] at hx
        obtain ⟨r, h⟩ := newN_pos l q ks.length x hx
        exact ⟨_, r, h⟩
      | some new =>
        rw [hr] at hx
        obtain ⟨j, r, _, _, _, h⟩ := rL_pos ks q 0 l new hr x hx
        exact ⟨j, r, h⟩
theorem rL_pos : ∀ (ks : List T) (q : List Nat) (j : Nat) (l : List PS) (new : List En), rL ks q j l = some new → ∀ x ∈ new, ∃ j' r, j ≤ j' ∧ j' < j + ks.length ∧ r ≠ [] ∧ x.1 = q ++ j' :: r
  | [], _, _, _, _, h, _, _ => by simp [rL] at h
  | k :: ks, q, j, l, new, h, x, hx => by
    rw [rL] at h
    cases hw : wo l k.s with
    | none =>
      rw [hw] at h
      obtain ⟨j', r, h1, h2, h3, h4⟩ := rL_pos ks q (j + 1) l new h x hx
      exact ⟨j', r, by omega, by simp; omega, h3, h4⟩
    | some rest =>
      rw [hw] at h
      simp only [Option.some.injEq] at h
      subst h
      obtain ⟨j', r, h4⟩ := rI_pos k (q ++ [j]) rest false x hx
      exact ⟨j, j' :: r, by omega, by simp, by simp, by rw [h4]; simp⟩
end
mutual
theorem RepT.apart {e new : List En} : ∀ (t : T) (q : List Nat), RepT e q t → (∀ x ∈ new, ¬ q <+: x.1) → RepT (e ++ new) q t
  | .nd s ks, q, h, hn => by
    rw [RepT] at h ⊢
    refine ⟨?_, ?_, RepL.apart ks q 0 h.2.2 fun x hx j' _ _ hp => hn x hx ((List.prefix_append q [j']).trans hp)⟩
    · rw [chL_append, h.1, chL_none (e := new) fun x hx j hj => hn x hx (by rw [hj]; exact List.prefix_append _ _), List.append_nil]
    · intro x hx j r hj
      rcases List.mem_append.1 hx with hx | hx
      · exact h.2.1 x hx j r hj
      · exact absurd (by rw [hj]; exact List.prefix_append _ _) (hn x hx)
theorem RepL.apart {e new : List En} : ∀ (ks : List T) (q : List Nat) (j : Nat), RepL e q j ks → (∀ x ∈ new, ∀ j', j ≤ j' → j' < j + ks.length → ¬ (q ++ [j']) <+: x.1) → RepL (e ++ new) q j ks
  | [], _, _, _, _ => by rw [RepL]; trivial
  | k :: ks, q, j, h, hn => by
    rw [RepL] at h ⊢
    exact ⟨RepT.apart k (q ++ [j]) h.1 fun x hx => hn x hx j (by omega) (by simp), RepL.apart ks q (j + 1) h.2 fun x hx j' h1 h2 => hn x hx j' (by omega) (by simp; omega)⟩
end
theorem not_pre {q r : List Nat} {j j' : Nat} (h : j' ≠ j) : ¬ (q ++ [j']) <+: q ++ j :: r := by
  rw [List.prefix_append_right_inj, List.cons_prefix_cons]
  exact fun e => h e.1
theorem RepL.append {e : List En} {q : List Nat} : ∀ (ks : List T) (j : Nat) (k : T), RepL e q j ks → RepT e (q ++ [j + ks.length]) k → RepL e q j (ks ++ [k])
  | [], j, k, _, h => by
    rw [List.nil_append, RepL]
    exact ⟨by simpa using h, by rw [RepL]; trivial⟩
  | a :: ks, j, k, h, h2 => by
    rw [RepL] at h
    rw [List.cons_append, RepL]
    exact ⟨h.1, RepL.append ks (j + 1) k h.2 (by rw [show j + 1 + ks.length = j + (a :: ks).length by simp; omega]; exact h2)⟩
theorem mapK_append (q : List Nat) : ∀ (a b : List T) (j : Nat), mapK q j (a ++ b) = mapK q j a ++ mapK q (j + a.length) b
  | [], b, j => by simp [mapK]
  | k :: a, b, j => by simp [mapK, mapK_append q a b (j + 1)]; congr 1; omega
theorem app_ne {q r : List Nat} {n j : Nat} : q ++ [n] ≠ q ++ [n] ++ j :: r := by
  intro h
  have := congrArg List.length h
  simp at this
theorem repT_chain : ∀ (l : List PS) (x : PS) (q : List Nat) (n : Nat) (e : List En), (∀ y ∈ e, ∀ r, y.1 ≠ q ++ n :: r) → RepT (e ++ newN q n (x :: l)) (q ++ [n]) (.nd x (chain l))
  | [], x, q, n, e, he => by
    rw [chain, RepT, newN, newN]
    have h1 : ∀ y ∈ e ++ [(q ++ [n], x)], ∀ j r, y.1 ≠ q ++ [n] ++ j :: r := fun y hy j r h => by
      rcases List.mem_append.1 hy with hy | hy
      · exact he y hy (j :: r) (by rw [h]; simp)
      · rw [List.mem_singleton.1 hy] at h; exact app_ne h
    exact ⟨by rw [chL_none fun y hy j => h1 y hy j []]; rfl, fun y hy j r h => absurd h (h1 y hy j r), by rw [RepL]; trivial⟩
  | y :: l, x, q, n, e, he => by
    rw [chain, newN, RepT]
    have h1 : ∀ z ∈ e ++ [(q ++ [n], x)], ∀ j r, z.1 ≠ q ++ [n] ++ j :: r := fun z hz j r h => by
      rcases List.mem_append.1 hz with hz | hz
      · exact he z hz (j :: r) (by rw [h]; simp)
      · rw [List.mem_singleton.1 hz] at h; exact app_ne h
    have hh : e ++ (q ++ [n], x) :: newN (q ++ [n]) 0 (y :: l) = (e ++ [(q ++ [n], x)]) ++ newN (q ++ [n]) 0 (y :: l) := by simp
    rw [hh]
    refine ⟨?_, ?_, ?_⟩
    · rw [chL_append, chL_none fun z hz j => h1 z hz j [], newN]
      have h2 : isCh (q ++ [n] ++ [0], y).1 (q ++ [n]) = true := isCh_iff.2 ⟨0, rfl⟩
      have h3 : chL (newN (q ++ [n] ++ [0]) 0 l) (q ++ [n]) = [] := chL_none fun z hz j h => by
        obtain ⟨r, hr⟩ := newN_pos l _ 0 z hz
        rw [hr] at h
        have := congrArg List.length h
        simp at this
      rw [chL] at h3
      rw [List.nil_append, chL, List.filter_cons, if_pos h2, h3]
      rfl
    · intro z hz j r h
      rcases List.mem_append.1 hz with hz | hz
      · exact absurd h (h1 z hz j r)
      · obtain ⟨r', hr⟩ := newN_pos (y :: l) _ 0 z hz
        rw [hr] at h
        have := List.append_cancel_left h
        simp at this
        simp
        omega
    · rw [RepL]
      refine ⟨repT_chain l y (q ++ [n]) 0 _ fun z hz r h => h1 z hz 0 r h, by rw [RepL]; trivial⟩
mutual
theorem rep_ins : ∀ (t : T) (q : List Nat) (l : List PS) (root : Bool) (e : List En), RepT e q t → RepT (e ++ rI t q l root) q (insT t l root)
  | .nd s ks, q, l, root, e, h => by
    rw [rI, insT]
    split
    · simpa using h
    · rename_i hl
      cases hi : insL ks l with
      | none =>
        have hr := rL_none ks q 0 l hi
        rw [hr]
        simp only [Option.getD_none]
        match l, hl with
        | [], hl => simp at hl
        | x :: l, _ =>
          rw [chain]
          rw [RepT] at h ⊢
          obtain ⟨h1, h2, h3⟩ := h
          have hpos := newN_pos (x :: l) q ks.length
          refine ⟨?_, ?_, ?_⟩
          · rw [chL_append, h1, mapK_append, Nat.zero_add]
            congr 1
            have c1 : isCh (q ++ [ks.length], x).1 q = true := isCh_iff.2 ⟨_, rfl⟩
            have c2 : chL (newN (q ++ [ks.length]) 0 l) q = [] := chL_none fun z hz j h => by
              obtain ⟨r, hr⟩ := newN_pos l _ 0 z hz
              rw [hr] at h
              have := congrArg List.length h
              simp at this
            rw [chL] at c2
            rw [newN, chL, List.filter_cons, if_pos c1, c2]
            rfl
          · intro z hz j r hj
            rcases List.mem_append.1 hz with hz | hz
            · have := h2 z hz j r hj; simp; omega
            · obtain ⟨r', hr'⟩ := hpos z hz
              rw [hr'] at hj
              have := List.append_cancel_left hj
              simp at this
              simp
              omega
          · refine RepL.append ks 0 _ (RepL.apart ks q 0 h3 fun z hz j' _ hj' => ?_) ?_
            · obtain ⟨r', hr'⟩ := hpos z hz
              rw [hr']
              exact not_pre (by omega)
            · rw [Nat.zero_add]
              exact repT_chain l x q ks.length e fun y hy r hr' => by
                have := h2 y hy _ r hr'
                omega
      | some r =>
        obtain ⟨new, hr, h4, h5, h6⟩ := repL_ins ks q 0 l e r (by rw [RepT] at h; exact h.2.2) hi
        rw [hr]
        simp only [Option.getD_some]
        rw [RepT] at h ⊢
        have hpos := rL_pos ks q 0 l new hr
        refine ⟨?_, ?_, h4⟩
        · rw [chL_append, h.1, h5, chL_none (e := new) fun x hx j hj => by
            obtain ⟨j', r', _, _, h3, h7⟩ := hpos x hx
            rw [h7] at hj
            have := List.append_cancel_left hj
            simp at this
            exact h3 this.2, List.append_nil]
        · intro x hx j r' hj
          rcases List.mem_append.1 hx with hx | hx
          · rw [h6]; exact h.2.1 x hx j r' hj
          · obtain ⟨j', r2, _, h2, _, h7⟩ := hpos x hx
            rw [h7] at hj
            have := List.append_cancel_left hj
            simp at this
            omega
theorem repL_ins : ∀ (ks : List T) (q : List Nat) (j : Nat) (l : List PS) (e : List En) (r : List T), RepL e q j ks → insL ks l = some r → ∃ new, rL ks q j l = some new ∧ RepL (e ++ new) q j r ∧ mapK q j ks = mapK q j r ∧ r.length = ks.length
  | [], _, _, _, _, _, _, h => by simp [insL] at h
  | k :: ks, q, j, l, e, r, h, hi => by
    rw [RepL] at h
    rw [insL] at hi
    rw [rL]
    cases hw : wo l k.s with
    | none =>
      rw [hw] at hi
      simp only [Option.map_eq_some_iff] at hi
      obtain ⟨r', h1, rfl⟩ := hi
      obtain ⟨new, h2, h3, h4, h5⟩ := repL_ins ks q (j + 1) l e r' h.2 h1
      refine ⟨new, h2, ?_, by rw [mapK, mapK, h4], by simp [h5]⟩
      rw [RepL]
      refine ⟨RepT.apart k _ h.1 fun x hx => ?_, h3⟩
      obtain ⟨j', r2, h6, _, _, h7⟩ := rL_pos ks q (j + 1) l new h2 x hx
      rw [h7]
      exact not_pre (by omega)
    | some rest =>
      rw [hw] at hi
      simp only [Option.some.injEq] at hi
      subst hi
      refine ⟨_, rfl, ?_, by rw [mapK, mapK, insT_s], rfl⟩
      rw [RepL]
      refine ⟨rep_ins k (q ++ [j]) rest false e h.1, RepL.apart ks q (j + 1) h.2 fun x hx j' h1 _ => ?_⟩
      obtain ⟨j2, r2, h7⟩ := rI_pos k (q ++ [j]) rest false x hx
      rw [h7, List.append_assoc]
      exact not_pre (by omega)
theorem rL_none : ∀ (ks : List T) (q : List Nat) (j : Nat) (l : List PS), insL ks l = none → rL ks q j l = none
  | [], _, _, _, _ => by rw [rL]
  | k :: ks, q, j, l, h => by
    rw [insL] at h
    rw [rL]
    cases hw : wo l k.s with
    | none =>
      rw [hw] at h
      simp only [Option.map_eq_none_iff] at h
      exact rL_none ks q (j + 1) l h
    | some rest => rw [hw] at h; cases h
end
theorem rep_nil (s : PS) : RepT [] [] (.nd s []) := by
  rw [RepT]
  exact ⟨rfl, (by intro x hx; cases hx), (by rw [RepL]; trivial)⟩
end Go.Proofs.Ytmgiojkdcpolfaa
