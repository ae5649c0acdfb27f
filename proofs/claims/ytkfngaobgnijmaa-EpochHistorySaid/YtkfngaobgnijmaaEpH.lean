/- Histories of reads and joins: what the set of reads tells of them, in plain Lean. -/
import Derived.Test.YtkfngaobgnijmaaEpL
namespace Go.Proofs.Ytkfngaobgnijmaa
open Go.RowKit Go.Sort

structure Rd1 where
  g : Int
  n : Int
  c : Clk
abbrev Cks := Nat → Clk
def updC (C : Cks) (j : Nat) (x : Clk) : Cks := fun k => if k = j then x else C k
def stepC (C : Cks) (a b : Nat) : Cks :=
  if a % 8 = b % 8 then updC C (a % 8) (tickM (C (a % 8)) (a % 8 : Nat))
  else
    let C1 := updC C (b % 8) (tickM (C (b % 8)) (b % 8 : Nat))
    updC C1 (a % 8) (joinM (C1 (a % 8)) (C1 (b % 8)) 8)
def stepR (C : Cks) (R : List Rd1) (a b : Nat) : List Rd1 :=
  if a % 8 = b % 8 then R ++ [⟨(ofM (stepC C a b (a % 8)) (a % 8 : Nat)).1, (ofM (stepC C a b (a % 8)) (a % 8 : Nat)).2, stepC C a b (a % 8)⟩] else R
/-- The clocks and the reads after the first steps of a history. -/
def histC (l : Nat → Nat × Nat) : Nat → Cks
  | 0 => fun _ => zc
  | k + 1 => stepC (histC l k) (l k).1 (l k).2
def histR (l : Nat → Nat × Nat) : Nat → List Rd1
  | 0 => []
  | k + 1 => stepR (histC l k) (histR l k) (l k).1 (l k).2

def Le8 (c d : Clk) : Prop := ∀ i, i < 8 → c i ≤ d i
theorem Le8.rfl' (c : Clk) : Le8 c c := fun _ _ => Int.le_refl _
theorem Le8.trans' {a b c : Clk} (h : Le8 a b) (k : Le8 b c) : Le8 a c := fun i hi => Int.le_trans (h i hi) (k i hi)
/-- A clock that has seen a read has seen what the read's goroutine had seen. -/
def Closed (R : List Rd1) (D : Clk) : Prop := ∀ r ∈ R, r.n ≤ D r.g.toNat → Le8 r.c D
structure Fit (C : Cks) (R : List Rd1) (k : Nat) : Prop where
  pos : ∀ j i, j < 8 → i < 8 → 0 ≤ C j i ∧ C j i ≤ k
  own : ∀ j i, j < 8 → i < 8 → C j i ≤ C i i
  rd : ∀ r ∈ R, 0 ≤ r.g ∧ r.g < 8 ∧ 0 < r.n ∧ r.n = r.c r.g.toNat ∧ Le8 r.c (C r.g.toNat)
  rpos : ∀ r ∈ R, ∀ i, i < 8 → 0 ≤ r.c i
  closed : ∀ j, j < 8 → Closed R (C j)
  rclosed : ∀ r ∈ R, Closed R r.c
  len : R.length ≤ k

theorem fit_zero : Fit (fun _ => zc) [] 0 where
  pos := fun _ _ _ _ => by simp
  own := fun _ _ _ _ => Int.le_refl _
  rd := fun r h => by cases h
  rpos := fun r h => by cases h
  closed := fun _ _ r h => by cases h
  rclosed := fun r h => by cases h
  len := Nat.le_refl _

theorem tick_eq {c : Clk} {g : Nat} (hg : g < 8) (h : c g < 9223372036854775807) : tickM c (g : Int) = upd c g (c g + 1) := by
  have h1 : plc (g : Int) = true := (plc_iff _).2 (by omega)
  simp only [tickM, Int.toNat_natCast]
  rw [if_pos ⟨h1, by omega⟩]
theorem le_tick (c : Clk) (g : Nat) : Le8 c (upd c g (c g + 1)) := by
  intro i _; simp only [upd]; split
  · rename_i e; subst e; omega
  · omega

/-- A goroutine ticks. -/
theorem fit_tick {C : Cks} {R : List Rd1} {k : Nat} (h : Fit C R k) {f : Nat} (hf : f < 8) : Fit (updC C f (upd (C f) f (C f f + 1))) R (k + 1) where
  pos := fun j i hj hi => by
    have := h.pos j i hj hi
    have hff := h.pos f f hf hf
    simp only [updC]; split
    · simp only [upd]; split
      · omega
      · rename_i e _; subst e; omega
    · omega
  own := fun j i hj hi => by
    have h1 := h.own j i hj hi
    have h2 := h.own f i hf hi
    simp only [updC]
    by_cases hjf : j = f
    · subst hjf
      by_cases hij : i = j
      · subst hij; simp
      · simp only [if_true, upd, if_neg hij]; exact h1
    · simp only [if_neg hjf]
      by_cases hif : i = f
      · subst hif; simp only [if_true, upd]; omega
      · simp only [if_neg hif]; exact h1
  rd := fun r hr => by
    obtain ⟨a, b, c, d, e⟩ := h.rd r hr
    refine ⟨a, b, c, d, ?_⟩
    simp only [updC]; split
    · rename_i q; rw [q] at e; exact e.trans' (le_tick _ _)
    · exact e
  rpos := h.rpos
  closed := fun j hj r hr => by
    simp only [updC]
    split
    · rename_i e
      subst e
      intro hn
      refine Le8.trans' (h.closed j hj r hr ?_) (le_tick _ _)
      simp only [upd] at hn
      split at hn
      · rename_i e
        obtain ⟨a, b, c, d, e2⟩ := h.rd r hr
        have := e2 r.g.toNat (by omega)
        rw [← d, e] at this
        rw [e]; exact this
      · exact hn
    · exact h.closed j hj r hr
  rclosed := h.rclosed
  len := by have := h.len; omega

theorem join_max (a b : Clk) {i : Nat} (hi : i < 8) : joinM a b 8 i = imax (a i) (b i) := by
  rw [join_at]; unfold imax; by_cases h : a i < b i
  · rw [if_pos ⟨hi, h⟩, if_pos h]
  · rw [if_neg (fun q => h q.2), if_neg h]
theorem imax_ge (a b : Int) : a ≤ imax a b ∧ b ≤ imax a b ∧ (imax a b = a ∨ imax a b = b) := by unfold imax; split <;> omega

/-- A goroutine joins another one's clock. -/
theorem fit_join {C : Cks} {R : List Rd1} {k : Nat} (h : Fit C R k) {g f : Nat} (hg : g < 8) (hf : f < 8) : Fit (updC C g (joinM (C g) (C f) 8)) R k where
  pos := fun j i hj hi => by
    have h1 := h.pos j i hj hi
    have h2 := h.pos g i hg hi
    have h3 := h.pos f i hf hi
    simp only [updC]; split
    · rw [join_max _ _ hi]
      have := imax_ge (C g i) (C f i)
      omega
    · exact h1
  own := fun j i hj hi => by
    have h1 := h.own j i hj hi
    have h2 := h.own g i hg hi
    have h3 := h.own f i hf hi
    simp only [updC]
    by_cases hig : i = g
    · subst hig
      have m := imax_ge (C i i) (C f i)
      by_cases hj2 : j = i
      · subst hj2; exact Int.le_refl _
      · simp only [if_neg hj2, if_true]
        rw [join_max _ _ hi]; omega
    · simp only [if_neg hig]
      by_cases hj2 : j = g
      · subst hj2
        simp only [if_true]
        rw [join_max _ _ hi]
        have m := imax_ge (C j i) (C f i)
        omega
      · simp only [if_neg hj2]; exact h1
  rd := fun r hr => by
    obtain ⟨a, b, c, d, e⟩ := h.rd r hr
    refine ⟨a, b, c, d, ?_⟩
    simp only [updC]; split
    · rename_i q
      rw [q] at e
      intro i hi
      rw [join_max _ _ hi]
      have := e i hi
      have m := imax_ge (C g i) (C f i)
      omega
    · exact e
  rpos := h.rpos
  closed := fun j hj r hr => by
    obtain ⟨a, b, _, _, _⟩ := h.rd r hr
    simp only [updC]
    split
    · intro hn
      rw [join_max _ _ (by omega)] at hn
      have m := imax_ge (C g r.g.toNat) (C f r.g.toNat)
      have key : Le8 r.c (C g) ∨ Le8 r.c (C f) := by
        rcases m.2.2 with e | e
        · rw [e] at hn; exact .inl (h.closed g hg r hr hn)
        · rw [e] at hn; exact .inr (h.closed f hf r hr hn)
      intro i hi
      rw [join_max _ _ hi]
      have m2 := imax_ge (C g i) (C f i)
      rcases key with q | q
      · have := q i hi; omega
      · have := q i hi; omega
    · exact h.closed j hj r hr
  rclosed := h.rclosed
  len := h.len

/-- A goroutine has just ticked, and reads. -/
theorem fit_read {C : Cks} {R : List Rd1} {k : Nat} (h : Fit C R k) {g : Nat} (hg : g < 8) :
    Fit (updC C g (upd (C g) g (C g g + 1))) (R ++ [⟨(g : Int), C g g + 1, upd (C g) g (C g g + 1)⟩]) (k + 1) := by
  have ht := fit_tick h hg
  have hgg := h.pos g g hg hg
  have hnew : updC C g (upd (C g) g (C g g + 1)) g = upd (C g) g (C g g + 1) := by simp [updC]
  refine ⟨ht.pos, ht.own, ?_, ?_, ?_, ?_, ?_⟩
  · intro r hr
    rcases List.mem_append.1 hr with hr | hr
    · exact ht.rd r hr
    · simp only [List.mem_singleton] at hr
      subst hr
      refine ⟨by simp, by simp; omega, by simp; omega, by simp [upd], ?_⟩
      simp only [Int.toNat_natCast, hnew]; exact Le8.rfl' _
  · intro r hr i hi
    rcases List.mem_append.1 hr with hr | hr
    · exact ht.rpos r hr i hi
    · simp only [List.mem_singleton] at hr
      subst hr
      have := h.pos g i hg hi
      simp only [upd]; split <;> omega
  · intro j hj r hr
    rcases List.mem_append.1 hr with hr | hr
    · exact ht.closed j hj r hr
    · simp only [List.mem_singleton] at hr
      subst hr
      intro hn
      simp only [Int.toNat_natCast] at hn
      by_cases e : j = g
      · subst e; rw [hnew]; exact Le8.rfl' _
      · have := h.own j g hj hg
        simp only [updC, if_neg e] at hn
        omega
  · intro r hr r' hr'
    have old : ∀ r ∈ R, r.c g ≤ C g g := fun r hr => by
      obtain ⟨a, b, c, d, e⟩ := h.rd r hr
      have h1 := e g hg
      have h2 := h.own r.g.toNat g (by omega) hg
      omega
    rcases List.mem_append.1 hr' with hr' | hr'
    · rcases List.mem_append.1 hr with hr | hr
      · exact ht.rclosed r hr r' hr'
      · simp only [List.mem_singleton] at hr
        subst hr
        have := ht.closed g hg r' hr'
        rw [hnew] at this
        exact this
    · simp only [List.mem_singleton] at hr'
      subst hr'
      intro hn
      simp only [Int.toNat_natCast] at hn
      rcases List.mem_append.1 hr with hr | hr
      · have := old r hr; omega
      · simp only [List.mem_singleton] at hr
        subst hr; exact Le8.rfl' _
  · have := h.len; simp; omega

theorem fit_more {C : Cks} {R : List Rd1} {k m : Nat} (h : Fit C R k) (hm : k ≤ m) : Fit C R m :=
  ⟨fun j i hj hi => by have := h.pos j i hj hi; omega, h.own, h.rd, h.rpos, h.closed, h.rclosed, by have := h.len; omega⟩
theorem step_fit {C : Cks} {R : List Rd1} {k : Nat} (h : Fit C R k) (hk : k ≤ 1000) (a b : Nat) : Fit (stepC C a b) (stepR C R a b) (k + 1) := by
  have ha : a % 8 < 8 := Nat.mod_lt _ (by omega)
  have hb : b % 8 < 8 := Nat.mod_lt _ (by omega)
  by_cases e : a % 8 = b % 8
  · have hp := h.pos (a % 8) (a % 8) ha ha
    have ht : tickM (C (a % 8)) ((a % 8 : Nat) : Int) = upd (C (a % 8)) (a % 8) (C (a % 8) (a % 8) + 1) := tick_eq ha (by omega)
    have hC : stepC C a b = updC C (a % 8) (upd (C (a % 8)) (a % 8) (C (a % 8) (a % 8) + 1)) := by
      unfold stepC; rw [if_pos e, ht]
    have hR : stepR C R a b = R ++ [⟨((a % 8 : Nat) : Int), C (a % 8) (a % 8) + 1, upd (C (a % 8)) (a % 8) (C (a % 8) (a % 8) + 1)⟩] := by
      unfold stepR
      rw [if_pos e, hC]
      have h1 : updC C (a % 8) (upd (C (a % 8)) (a % 8) (C (a % 8) (a % 8) + 1)) (a % 8) = upd (C (a % 8)) (a % 8) (C (a % 8) (a % 8) + 1) := by simp [updC]
      rw [h1]
      have h2 : ofM (upd (C (a % 8)) (a % 8) (C (a % 8) (a % 8) + 1)) ((a % 8 : Nat) : Int) = (((a % 8 : Nat) : Int), C (a % 8) (a % 8) + 1) := by
        have h3 : plc ((a % 8 : Nat) : Int) = true := (plc_iff _).2 (by omega)
        have h4 : upd (C (a % 8)) (a % 8) (C (a % 8) (a % 8) + 1) (a % 8) = C (a % 8) (a % 8) + 1 := by simp [upd]
        simp only [ofM, Int.toNat_natCast, h4]
        rw [if_pos ⟨h3, by omega⟩]
      rw [h2]
    rw [hC, hR]
    exact fit_read h ha
  · have hp := h.pos (b % 8) (b % 8) hb hb
    have ht : tickM (C (b % 8)) ((b % 8 : Nat) : Int) = upd (C (b % 8)) (b % 8) (C (b % 8) (b % 8) + 1) := tick_eq hb (by omega)
    have h1 := fit_tick h hb
    rw [← ht] at h1
    have h2 := fit_join h1 ha hb
    unfold stepC stepR
    rw [if_neg e, if_neg e]
    exact h2
theorem hist_fit (l : Nat → Nat × Nat) : ∀ k, k ≤ 1000 → Fit (histC l k) (histR l k) k
  | 0, _ => fit_zero
  | k + 1, hk => step_fit (hist_fit l k (by omega)) (by omega) _ _

/-! ### The set -/
def setAll (s : RD) : List Rd1 → RD
  | [] => s
  | r :: R => setAll (addM s r.g r.n r.c) R
structure Told (s : RD) (R : List Rd1) : Prop where
  valid : validM s = true
  some : ∀ i, i < 8 → 0 < expandM s i → ∃ r ∈ R, r.g = (i : Int) ∧ r.n = expandM s i
  all : ∀ D, Closed R D → (∀ i, i < 8 → 0 < expandM s i → expandM s i ≤ D i) → ∀ r ∈ R, r.n ≤ D r.g.toNat
theorem told_nil : Told zr [] where
  valid := (valid_iff _).2 ⟨nnB_zc, .inr ⟨rfl, Eq8.rfl' _, .inl ⟨rfl, rfl⟩⟩⟩
  some := fun i hi h => by rw [expand_zero (by simp)] at h; simp at h
  all := fun _ _ _ r h => by cases h
/-- What Add makes of a valid set: the set's clock. -/
theorem add_expand {s : RD} {g n : Int} {c : Clk} (hv : validM s = true) (hp : 0 ≤ g ∧ g < 8) (hn : 0 < n) :
    validM (addM s g n c) = true ∧ Eq8 (expandM (addM s g n c)) (if soleM s c = true then upd zc g.toNat n else upd (expandM s) g.toNat (imax (expandM s g.toNat) n)) := by
  have hp' := (plc_iff g).2 hp
  obtain ⟨_, h2⟩ := set_expand hv
  by_cases hs : soleM s c = true
  · have e : addM s g n c = compactM (upd zc g.toNat n) := by simp [addM, hv, hp', hn, hs]
    rw [e, if_pos hs]
    exact compact_valid (nnB_upd nnB_zc (by omega))
  · have hs' : soleM s c = false := by simpa using hs
    have e : addM s g n c = compactM (upd (expandM s) g.toNat (imax (expandM s g.toNat) n)) := by simp [addM, hv, hp', hn, hs']
    rw [e, if_neg hs]
    have := imax_ge (expandM s g.toNat) n
    exact compact_valid (nnB_upd h2 (by omega))
/-- A set that is not shared has at most one read. -/
theorem sole_only {s : RD} {c : Clk} (hv : validM s = true) (h : soleM s c = true) : ∀ i, i < 8 → 0 < expandM s i → expandM s i ≤ c i := by
  intro i hi hp
  obtain ⟨s0, g, n, x⟩ := s
  simp only [soleM, Bool.and_eq_true, Bool.or_eq_true, Bool.not_eq_true', beq_iff_eq] at h
  obtain ⟨h1, h2⟩ := h
  have h1' : s0 = false := h1
  subst h1'
  obtain ⟨_, hc⟩ := (valid_iff _).1 hv
  rcases hc with ⟨hf, _⟩ | ⟨_, hz, hor⟩
  · exact absurd hf (by simp)
  · have hz' : Eq8 x zc := hz
    by_cases hg : plc g = true ∧ 0 < n
    · rw [expand_one hg] at hp ⊢
      simp only [upd] at hp ⊢
      split at hp
      · rename_i e
        rw [if_pos e]
        rcases h2 with ⟨_, e2⟩ | hl
        · have : n = 0 := e2
          omega
        · have hl' : leqM g n c = true := hl
          simp only [leqM, Bool.and_eq_true, decide_eq_true_eq] at hl'
          rw [e]; exact hl'.2
      · rw [hz' i hi] at hp; simp at hp
    · rw [expand_zero hg, hz' i hi] at hp; simp at hp
theorem closed_left {R S : List Rd1} {D : Clk} (h : Closed (R ++ S) D) : Closed R D := fun r hr => h r (List.mem_append_left _ hr)
theorem told_add {s : RD} {R : List Rd1} (h : Told s R) {r : Rd1} (hg : 0 ≤ r.g ∧ r.g < 8) (hn : 0 < r.n) : Told (addM s r.g r.n r.c) (R ++ [r]) := by
  obtain ⟨hv, he⟩ := add_expand (c := r.c) h.valid hg hn
  have hlt : r.g.toNat < 8 := by omega
  refine ⟨hv, ?_, ?_⟩
  · intro i hi hp
    rw [he i hi] at hp ⊢
    split at hp
    · rename_i hs
      simp only [if_pos hs]
      simp only [upd] at hp ⊢
      split at hp
      · rename_i e
        rw [if_pos e]
        exact ⟨r, List.mem_append_right _ (by simp), by omega, rfl⟩
      · simp at hp
    · rename_i hs
      simp only [if_neg hs]
      simp only [upd] at hp ⊢
      split at hp
      · rename_i e
        rw [if_pos e]
        rcases (imax_ge (expandM s r.g.toNat) r.n).2.2 with q | q
        · rw [q]
          rw [q] at hp
          obtain ⟨r', hr', e1, e2⟩ := h.some _ hlt hp
          exact ⟨r', List.mem_append_left _ hr', by omega, e2⟩
        · rw [q]; exact ⟨r, List.mem_append_right _ (by simp), by omega, rfl⟩
      · rename_i e
        rw [if_neg e]
        obtain ⟨r', hr', e1, e2⟩ := h.some i hi hp
        exact ⟨r', List.mem_append_left _ hr', e1, e2⟩
  · intro D hD hle
    have hr : r.n ≤ D r.g.toNat := by
      have hx := he r.g.toNat hlt
      by_cases hs : soleM s r.c = true
      · rw [if_pos hs] at hx
        have e : expandM (addM s r.g r.n r.c) r.g.toNat = r.n := by rw [hx]; simp [upd]
        have := hle _ hlt (by omega)
        omega
      · rw [if_neg hs] at hx
        have e : expandM (addM s r.g r.n r.c) r.g.toNat = imax (expandM s r.g.toNat) r.n := by rw [hx]; simp [upd]
        have m := imax_ge (expandM s r.g.toNat) r.n
        have := hle _ hlt (by omega)
        omega
    have hseen : Le8 r.c D := hD r (List.mem_append_right _ (by simp)) hr
    intro r' hr'
    rcases List.mem_append.1 hr' with hr' | hr'
    · refine h.all D (closed_left hD) (fun i hi hp => ?_) r' hr'
      by_cases hs : soleM s r.c = true
      · exact Int.le_trans (sole_only h.valid hs i hi hp) (hseen i hi)
      · have hx := he i hi
        rw [if_neg hs] at hx
        have m := imax_ge (expandM s r.g.toNat) r.n
        by_cases e : i = r.g.toNat
        · subst e
          have e2 : expandM (addM s r.g r.n r.c) r.g.toNat = imax (expandM s r.g.toNat) r.n := by rw [hx]; simp [upd]
          have := hle _ hi (by omega)
          omega
        · have e2 : expandM (addM s r.g r.n r.c) i = expandM s i := by rw [hx]; simp [upd, e]
          have := hle _ hi (by omega)
          omega
    · simp only [List.mem_singleton] at hr'
      subst hr'; exact hr
theorem told_all : ∀ (R : List Rd1) {s : RD} {R0 : List Rd1}, Told s R0 → (∀ r ∈ R, (0 ≤ r.g ∧ r.g < 8) ∧ 0 < r.n) → Told (setAll s R) (R0 ++ R)
  | [], s, R0, h, _ => by simpa [setAll] using h
  | r :: R, s, R0, h, hr => by
    have h1 := told_add h (hr r (List.mem_cons.2 (.inl rfl))).1 (hr r (List.mem_cons.2 (.inl rfl))).2
    have := told_all R h1 (fun r' h' => hr r' (List.mem_cons.2 (.inr h')))
    simpa [setAll] using this
/-- In a history, a goroutine's clock covers the set if and only if it has seen all reads. -/
theorem history_law {C : Cks} {R : List Rd1} {k : Nat} (h : Fit C R k) {g : Nat} (hg : g < 8) : coveredM (setAll zr R) (C g) = R.all fun r => leqM r.g r.n (C g) := by
  have ht : Told (setAll zr R) R := by
    have := told_all R told_nil (fun r hr => by
      obtain ⟨a, b, c, _, _⟩ := h.rd r hr
      exact ⟨⟨a, b⟩, c⟩)
    simpa using this
  rw [Bool.eq_iff_iff, covered_iff, List.all_eq_true]
  constructor
  · rintro ⟨_, hc⟩ r hr
    obtain ⟨a, b, _, _, _⟩ := h.rd r hr
    have := ht.all (C g) (h.closed g hg) (fun i hi hp => by have := hc i hi; omega) r hr
    simp only [leqM, Bool.and_eq_true, decide_eq_true_eq]
    exact ⟨(plc_iff _).2 ⟨a, b⟩, this⟩
  · intro ha
    refine ⟨ht.valid, fun i hi ⟨hp, hlt⟩ => ?_⟩
    obtain ⟨r, hr, e1, e2⟩ := ht.some i hi hp
    have := ha r hr
    simp only [leqM, Bool.and_eq_true, decide_eq_true_eq] at this
    rw [e1] at this
    simp only [Int.toNat_natCast] at this
    omega

end Go.Proofs.Ytkfngaobgnijmaa
