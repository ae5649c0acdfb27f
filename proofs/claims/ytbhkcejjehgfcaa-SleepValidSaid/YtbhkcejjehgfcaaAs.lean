/- Contracts of functions that write what they are handed; calls of them. -/
import Derived.Test.YtbhkcejjehgfcaaAr
namespace Go.Proofs.Ytbhkcejjehgfcaa
open Go.RowKit Go.Sort
set_option linter.unusedSimpArgs false
set_option linter.unusedVariables false

theorem AO.sub_box (t : Nat) (y : AV) (pin : Option Nat) (ty : TypeId) (cs : List AV) : AO.sub t y (.boxP pin ty cs) = .boxP pin ty (cs.map (AV.sub t y)) := rfl
theorem AO.sub_row (t : Nat) (y : AV) (e n : Nat) (rows : List (List PV)) : AO.sub t y (.row e n rows) = .row e n rows := rfl
theorem AO.sub_map (t : Nat) (y : AV) (pin : Option Nat) (P : Program) (k n : Nat) (f : Lit → Option Value) : AO.sub t y (.map pin P k n f) = .map pin P k n f := rfl
theorem AO.sub_raw (t : Nat) (y : AV) (u : Value) (ob : Obj) : AO.sub t y (.raw u ob) = .raw u ob := rfl
theorem AO.sub_lrec (t : Nat) (y : AV) (l : Nat) (sp : LSpec) (fr : List (Nat × AV)) : AO.sub t y (.lrec l sp fr) = .lrec l sp (fr.map fun p => (p.1, AV.sub t y p.2)) := rfl
theorem AO.okB_box (n : Nat) (pin : Option Nat) (ty : TypeId) (cs : List AV) : AO.okB n (.boxP pin ty cs) = cs.all (AV.okB n) := rfl
theorem AO.okB_row (n e m : Nat) (rows : List (List PV)) : AO.okB n (.row e m rows) = true := rfl
theorem AO.okB_map (n : Nat) (pin : Option Nat) (P : Program) (k m : Nat) (f : Lit → Option Value) : AO.okB n (.map pin P k m f) = true := rfl
theorem AO.okB_raw (n : Nat) (u : Value) (ob : Obj) : AO.okB n (.raw u ob) = true := rfl
theorem AO.okB_lrec (n l : Nat) (sp : LSpec) (fr : List (Nat × AV)) : AO.okB n (.lrec l sp fr) = fr.all fun p => AV.okB n p.2 := rfl
/-- Where an object lies, if its place has a name. -/
def AO.handle : AO → Option Value
  | .boxP (some b) _ _ => some (.pointer (some ⟨b, 0, none⟩))
  | .map (some b) _ _ _ _ => some (.map (some b))
  | .raw u _ => some u
  | .lrec l _ _ => some (.func (.yield l) #[] #[])
  | _ => none
theorem OR.handle {N : Nat} {D : Nat → Prop} {loc : Nat → Option Value} {w : World} {u v : Value} {o : AO} (h : OR N D loc w u o) (hv : o.handle = some v) : u = v := by
  cases o with
  | boxP pin ty cs =>
    obtain ⟨b, arr, rfl, _, _, _, _, hp⟩ := h
    cases pin with
    | none => cases hv
    | some p => cases hv; rw [hp p rfl]
  | map pin P k n f =>
    obtain ⟨b, D, rfl, _, _, hp⟩ := h
    cases pin with
    | none => cases hv
    | some p => cases hv; rw [hp p rfl]
  | raw v' ob => obtain ⟨b, rfl, _⟩ := h; cases hv; rfl
  | lrec l sp fr => obtain ⟨rfl, _⟩ := h; cases hv; rfl
  | row e n rows => cases hv
/-- The place of t has a name, and is the same in both. -/
def Kept (hp hp' : Hp) (t : Nat) : Prop := match hp.lookup t, hp'.lookup t with
  | some o, some o' => o.handle.isSome = true ∧ o.handle = o'.handle
  | _, _ => False
theorem Kept.spec {hp hp' : Hp} {t : Nat} (h : Kept hp hp' t) : ∃ o o' v, hp.lookup t = some o ∧ hp'.lookup t = some o' ∧ o.handle = some v ∧ o'.handle = some v := by
  unfold Kept at h
  split at h
  · rename_i o o' h1 h2
    obtain ⟨v, hv⟩ := Option.isSome_iff_exists.1 h.1
    exact ⟨o, o', v, h1, h2, hv, h.2 ▸ hv⟩
  · exact h.elim

/-- Of the tags below n only those of ks are known. -/
def AV.keep (n : Nat) (ks : List Nat) : AV → AV
  | .own t => if n ≤ t ∨ t ∈ ks then .own t else .junk
  | .ptr t k => if n ≤ t ∨ t ∈ ks then .ptr t k else .junk
  | .rptr t m k j => if n ≤ t ∨ t ∈ ks then .rptr t m k j else .junk
  | .pre t m => if n ≤ t ∨ t ∈ ks then .pre t m else .junk
  | .fn f cs => .fn f (cs.attach.map fun ⟨c, _⟩ => AV.keep n ks c)
  | .agg cs => .agg (cs.attach.map fun ⟨c, _⟩ => AV.keep n ks c)
  | .tup cs => .tup (cs.attach.map fun ⟨c, _⟩ => AV.keep n ks c)
  | x => x
theorem AV.keep_own (n : Nat) (ks : List Nat) (t : Nat) : AV.keep n ks (.own t) = if n ≤ t ∨ t ∈ ks then .own t else .junk := by simp [AV.keep]
theorem AV.keep_ptr (n : Nat) (ks : List Nat) (t k : Nat) : AV.keep n ks (.ptr t k) = if n ≤ t ∨ t ∈ ks then .ptr t k else .junk := by simp [AV.keep]
theorem AV.keep_rptr (n : Nat) (ks : List Nat) (t m k j : Nat) : AV.keep n ks (.rptr t m k j) = if n ≤ t ∨ t ∈ ks then .rptr t m k j else .junk := by simp [AV.keep]
theorem AV.keep_pre (n : Nat) (ks : List Nat) (t m : Nat) : AV.keep n ks (.pre t m) = if n ≤ t ∨ t ∈ ks then .pre t m else .junk := by simp [AV.keep]
theorem AV.keep_fn (n : Nat) (ks : List Nat) (f : Fn) (cs : List AV) : AV.keep n ks (.fn f cs) = .fn f (cs.map (AV.keep n ks)) := by simp [AV.keep]
theorem AV.keep_agg (n : Nat) (ks : List Nat) (cs : List AV) : AV.keep n ks (.agg cs) = .agg (cs.map (AV.keep n ks)) := by simp [AV.keep]
theorem AV.keep_tup (n : Nat) (ks : List Nat) (cs : List AV) : AV.keep n ks (.tup cs) = .tup (cs.map (AV.keep n ks)) := by simp [AV.keep]
theorem AV.keep_p (n : Nat) (ks : List Nat) (x : PV) : AV.keep n ks (.p x) = .p x := by simp [AV.keep]
theorem AV.keep_elt (n : Nat) (ks : List Nat) (r : List PV) (k : Nat) : AV.keep n ks (.elt r k) = .elt r k := by simp [AV.keep]
theorem AV.keep_cap0 (n : Nat) (ks : List Nat) : AV.keep n ks .cap0 = .cap0 := by simp [AV.keep]
theorem AV.keep_junk (n : Nat) (ks : List Nat) : AV.keep n ks .junk = .junk := by simp [AV.keep]
theorem AR.keep {n : Nat} {ks : List Nat} {N N' : Nat} {D D' : Nat → Prop} {loc loc' : Nat → Option Value} {w w' : World} {x : AV} {v : Value} (h : AR N D loc w x v) (hN : N ≤ N') (hk : Kp D w w') (hD : ∀ k, k < w.heap.size → D' k → D k)
    (hl : ∀ t u, t < N → (n ≤ t ∨ t ∈ ks) → loc' t = some u → loc t = some u) : AR N' D' loc' w' (AV.keep n ks x) v := by
  induction h with
  | p x v h => rw [AV.keep_p]; exact .p x v (h.mono hk hD)
  | elt row off b o f hb hnD hc hr => rw [AV.keep_elt]; exact .elt row off b o f (Nat.lt_of_lt_of_le hb hk.size) (fun h => hnD (hD _ hb h)) (fun j x h1 => (hk.cell hb hnD).trans (hc j x h1)) (fun j x h1 => (hr j x h1).mono hk hD)
  | ptr t off v ht h1 h =>
    rw [AV.keep_ptr]
    split
    · rename_i e; exact .ptr t off v (Nat.lt_of_lt_of_le ht hN) h1 fun b hb => h b (hl t _ ht e hb)
    · exact .junk _
  | rptr t m k j v ht h1 h =>
    rw [AV.keep_rptr]
    split
    · rename_i e; exact .rptr t m k j v (Nat.lt_of_lt_of_le ht hN) h1 fun b l c hb => h b l c (hl t _ ht e hb)
    · exact .junk _
  | own t v ht h1 h =>
    rw [AV.keep_own]
    split
    · rename_i e; exact .own t v (Nat.lt_of_lt_of_le ht hN) h1 fun u hu => h u (hl t u ht e hu)
    · exact .junk _
  | pre t m v ht h1 h =>
    rw [AV.keep_pre]
    split
    · rename_i e; exact .pre t m v (Nat.lt_of_lt_of_le ht hN) h1 fun b l c hb => h b l c (hl t _ ht e hb)
    · exact .junk _
  | fn f caps vs hlen _ ih =>
    rw [AV.keep_fn]
    refine .fn f _ vs (by simpa using hlen) fun j x hx => ?_
    simp only [List.getElem?_map, Option.map_eq_some_iff] at hx
    obtain ⟨c, hc, rfl⟩ := hx
    exact ih j c hc
  | agg cs vs hlen _ h1 ih =>
    rw [AV.keep_agg]
    refine .agg _ vs (by simpa using hlen) (fun j x hx => ?_) h1
    simp only [List.getElem?_map, Option.map_eq_some_iff] at hx
    obtain ⟨c, hc, rfl⟩ := hx
    exact ih j c hc
  | tup cs vs hlen _ ih =>
    rw [AV.keep_tup]
    refine .tup _ vs (by simpa using hlen) fun j x hx => ?_
    simp only [List.getElem?_map, Option.map_eq_some_iff] at hx
    obtain ⟨c, hc, rfl⟩ := hx
    exact ih j c hc
  | cap0 a h => rw [AV.keep_cap0]; exact .cap0 a fun x hx => ⟨Nat.lt_of_lt_of_le (h x hx).1 hk.size, fun hd => (h x hx).2.1 (hD _ (h x hx).1 hd), (h x hx).2.2⟩
  | junk v => rw [AV.keep_junk]; exact .junk v
def AO.keep (n : Nat) (ks : List Nat) : AO → AO
  | .boxP pin ty cs => .boxP pin ty (cs.map (AV.keep n ks))
  | .row e m rows => .row e m rows
  | .map pin P k m f => .map pin P k m f
  | .raw u ob => .raw u ob
  | .lrec l sp fr => .lrec l sp (fr.map fun p => (p.1, AV.keep n ks p.2))
theorem OR.keep {n : Nat} {ks : List Nat} {N N' : Nat} {D D' : Nat → Prop} {loc loc' : Nat → Option Value} {w w' : World} {u : Value} {o : AO} (h : OR N D loc w u o) (hN : N ≤ N') (hk : Kp D w w') (hD : ∀ k, k < w.heap.size → D' k → D k)
    (hl : ∀ t u, t < N → (n ≤ t ∨ t ∈ ks) → loc' t = some u → loc t = some u) (hb : ∀ b, blkOf u = some b → w'.heap[b]? = w.heap[b]?) : OR N' D' loc' w' u (o.keep n ks) := by
  cases o with
  | map pin P k n f =>
    obtain ⟨b, D, rfl, ⟨es, ck, h1, h2⟩, h3⟩ := h
    exact ⟨b, D, rfl, ⟨es, ck, (hb b rfl).trans h1, h2⟩, h3⟩
  | raw v ob =>
    obtain ⟨b, rfl, h1, h2⟩ := h
    exact ⟨b, rfl, h1, (hb b h1).trans h2⟩
  | lrec l sp fr =>
    obtain ⟨rfl, tmps, h1, h2, h3⟩ := h
    refine ⟨rfl, tmps, (hb l rfl).trans h1, h2, fun t => ?_⟩
    rw [lookup_map]
    have h4 := h3 t
    cases hf : fr.lookup t with
    | none => exact .junk _
    | some x => rw [hf] at h4; exact h4.keep hN hk hD hl
  | boxP pin ty cs =>
    obtain ⟨b, arr, rfl, h1, h2, h3, h4⟩ := h
    refine ⟨b, arr, rfl, (hb b rfl).trans h1, by simpa [AO.keep] using h2, fun j x hx => ?_, h4⟩
    simp only [List.getElem?_map, Option.map_eq_some_iff] at hx
    obtain ⟨c, hc, rfl⟩ := hx
    exact (h3 j c hc).keep hN hk hD hl
  | row e n rows =>
    obtain ⟨flat, h1, h2, h3, h4⟩ := h
    refine ⟨flat, own_of_block h1 fun g hg => hb g (blk_own hg), h2, fun k r j x hr hx => ?_, h4⟩
    obtain ⟨v, h5, h6⟩ := h3 k r j x hr hx
    exact ⟨v, h5, h6.mono hk hD⟩

/-! ### Contracts -/
/-- The function, called with xs where the objects of hp lie, ends with objects and a result of Q. -/
def MemC (P : Program) (f : FuncId) (n : Nat) (hp : Hp) (xs : List AV) (Q : Hp → AV → Prop) : Prop := ∀ L loc w vs, HRel L n hp loc w → ARs n (Dm L loc) loc w xs vs →
  Calls P f vs.toArray w fun e w' => ∃ v loc' hp' r, e = .returned v ∧ Q hp' r ∧ HRel L n hp' loc' w' ∧ AR n (Dm L loc') loc' w' r v ∧ Ext loc w loc' w'
/-- The caller's state behind such a call. -/
def ASt.callM (s : ASt) (n : Nat) (ks : List Nat) (hp' : Hp) : ASt := { s with fr := s.fr.map fun p => (p.1, p.2.keep n ks), hp := hp' ++ (s.hp.filter fun p => decide (n ≤ p.1)).map fun p => (p.1, p.2.keep n ks) }
theorem ASt.get_callM (s : ASt) (n : Nat) (ks : List Nat) (hp' : Hp) (t : Nat) : (s.callM n ks hp').get t = (s.get t).keep n ks := by
  simp only [ASt.get, ASt.callM, lookup_map]
  cases s.fr.lookup t <;> simp [AV.keep_junk]
/-- The objects of hp are those that s has below n. -/
def Passes (s : ASt) (n : Nat) (hp : Hp) : Prop := n ≤ s.N ∧ (∀ p ∈ hp, s.hp.lookup p.1 = some p.2 ∧ p.1 < n ∧ p.2.okB n = true) ∧ ∀ p ∈ s.hp, p.1 < n → (hp.lookup p.1).isSome = true
theorem lookup_apd {α : Type} (a b : List (Nat × α)) (t : Nat) : (a ++ b).lookup t = (a.lookup t).or (b.lookup t) := by
  induction a with
  | nil => simp
  | cons p r ih =>
    obtain ⟨j, x⟩ := p
    rw [List.cons_append]
    by_cases e : t = j
    · subst e; rw [lookup_cons_eq, lookup_cons_eq]; rfl
    · rw [lookup_cons_ne e, lookup_cons_ne e, ih]
theorem lookup_ge {α : Type} (l : List (Nat × α)) (n t : Nat) : (l.filter fun p => decide (n ≤ p.1)).lookup t = if n ≤ t then l.lookup t else none := by
  induction l with
  | nil => simp
  | cons p r ih =>
    obtain ⟨j, x⟩ := p
    by_cases e : t = j
    · subst e
      by_cases h : n ≤ t
      · rw [List.filter_cons, if_pos (by simpa using h), lookup_cons_eq, if_pos h, lookup_cons_eq]
      · rw [List.filter_cons, if_neg (by simpa using h), ih, if_neg h, if_neg h]
    · rw [lookup_cons_ne e, ← ih, List.filter_cons]
      split
      · rw [lookup_cons_ne e]
      · rfl
theorem mem_of_look {α : Type} {l : List (Nat × α)} {t : Nat} {x : α} (h : l.lookup t = some x) : (t, x) ∈ l := by
  induction l with
  | nil => cases h
  | cons p r ih =>
    obtain ⟨j, y⟩ := p
    by_cases e : t = j
    · subst e; rw [lookup_cons_eq] at h; cases h; exact List.mem_cons.2 (.inl rfl)
    · rw [lookup_cons_ne e] at h; exact List.mem_cons.2 (.inr (ih h))
/-- Into a call, and out of it. -/
theorem mem_call {L : Lim} {s : ASt} {loc : Nat → Option Value} {a : Act} {w : World} (hr : Rel All L s loc a w) {n : Nat} {hp : Hp} (hps : Passes s n hp) (ks : List Nat) :
    ∃ (LC : Nat → Prop) (locC : Nat → Option Value), HRel LC n hp locC w ∧ (∀ x v, x.okB n = true → AR s.N (Dm L loc) loc w x v → AR n (Dm LC locC) locC w x v) ∧
      ∀ (w' : World) (loc' : Nat → Option Value) (hp' : Hp), HRel LC n hp' loc' w' → Ext locC w loc' w' → (∀ t ∈ ks, t < n → Kept hp hp' t) →
        ∃ loc2, Rel All L (s.callM n ks hp') loc2 a w' ∧ Ext loc w loc2 w' ∧ ∀ x v, AR n (Dm LC loc') loc' w' x v → AR s.N (Dm L loc2) loc2 w' x v := by
  obtain ⟨c1, c2, c3⟩ := hps
  let locC : Nat → Option Value := fun t => if t < n then loc t else none
  let LC : Nat → Prop := fun b => L b ∨ ∃ t u, n ≤ t ∧ loc t = some u ∧ blkOf u = some b
  have lC : ∀ t u, locC t = some u → t < n ∧ loc t = some u := fun t u h => by
    simp only [locC] at h
    split at h
    · exact ⟨by assumption, h⟩
    · cases h
  have dC : ∀ b, Dm LC locC b → Dm L loc b := fun b h => by
    rcases h with (h | ⟨t, u, _, h1, h2⟩) | ⟨t, u, h1, h2⟩
    · exact .inl h
    · exact .inr ⟨t, u, h1, h2⟩
    · exact .inr ⟨t, u, (lC t u h1).2, h2⟩
  have hlook : ∀ t o, hp.lookup t = some o → s.hp.lookup t = some o ∧ t < n ∧ o.okB n = true := fun t o h => c2 _ (mem_of_look h)
  have hdead : ∀ t, hp.lookup t = none → locC t = none := fun t h => by
    simp only [locC]
    split
    · rename_i hlt
      refine hr.hp.dead t ?_
      cases ho : s.hp.lookup t with
      | none => rfl
      | some o => have := c3 _ (mem_of_look ho) hlt; rw [h] at this; cases this
    · rfl
  refine ⟨LC, locC, ⟨fun t o ho => ?_, hdead, fun t t' u u' b h1 h2 => hr.hp.apart t t' u u' b (lC t u h1).2 (lC t' u' h2).2, fun b hb => hr.hp.dm_lt (dC b (.inl hb)), fun t u b h1 h2 h3 => ?_⟩, fun x v hx h => (h.low hx).mono (Nat.le_refl _) (Kp.refl _ _) (fun k _ h => dC k h) (fun t u _ h => (lC t u h).2), fun w' loc' hp' hh' hx hks => ?_⟩
  · obtain ⟨h1, h2, h3⟩ := hlook t o ho
    obtain ⟨_, u, h4, h5⟩ := hr.hp.at' t o h1
    exact ⟨h2, u, by simp [locC, h2, h4], (h5.low h3).mono (Nat.le_refl _) (Kp.refl _ _) (fun k _ h => dC k h) (fun t u _ h => (lC t u h).2) (fun _ _ => rfl)⟩
  · rcases h3 with h3 | ⟨t', u', h4, h5, h6⟩
    · exact hr.hp.notL t u b (lC t u h1).2 h2 h3
    · have := hr.hp.apart t t' u u' b (lC t u h1).2 h5 h2 h6
      have := (lC t u h1).1
      omega
  · let loc2 : Nat → Option Value := fun t => if t < n then loc' t else loc t
    have hge : ∀ t, n ≤ t → loc' t = none := fun t h => hh'.dead t (hh'.none_at h)
    have l2 : ∀ t u, loc2 t = some u → (t < n ∧ loc' t = some u) ∨ (n ≤ t ∧ loc t = some u) := fun t u h => by
      simp only [loc2] at h
      split at h
      · exact .inl ⟨by assumption, h⟩
      · exact .inr ⟨by omega, h⟩
    have lt' : ∀ t u, loc' t = some u → t < n := fun t u h => Nat.lt_of_not_le fun e => by rw [hge t e] at h; cases h
    have d2 : ∀ b, Dm L loc2 b → Dm LC loc' b := fun b h => by
      rcases h with h | ⟨t, u, h1, h2⟩
      · exact .inl (.inl h)
      · rcases l2 t u h1 with ⟨_, h3⟩ | ⟨h3, h4⟩
        · exact .inr ⟨t, u, h3, h2⟩
        · exact .inl (.inr ⟨t, u, h3, h4, h2⟩)
    have kpL : Kp (Dm L loc) w w' := hx.kp.wide fun b h => by
      rcases h with h | ⟨t, u, h1, h2⟩
      · exact h.elim
      · exact .inr ⟨t, u, (lC t u h1).2, h2⟩
    have hD : ∀ k, k < w.heap.size → Dm L loc2 k → Dm L loc k := fun k hk h => by
      rcases d2 k h with h | h
      · exact dC k (.inl h)
      · rcases hx.fresh k (.inr h) with (h | ⟨t, u, h1, h2⟩) | h
        · exact h.elim
        · exact .inr ⟨t, u, (lC t u h1).2, h2⟩
        · omega
    have hl : ∀ t u, t < s.N → (n ≤ t ∨ t ∈ ks) → loc2 t = some u → loc t = some u := fun t u _ hc h => by
      rcases l2 t u h with ⟨h1, h2⟩ | ⟨_, h2⟩
      · rcases hc with hc | hc
        · omega
        · obtain ⟨o, o', v, g1, g2, g3, g4⟩ := (hks t hc h1).spec
          obtain ⟨_, u1, g5, g6⟩ := hr.hp.at' t o (hlook t o g1).1
          obtain ⟨_, u2, g7, g8⟩ := hh'.at' t o' g2
          rw [h2] at g7; cases g7
          rw [g5, g6.handle g3, g8.handle g4]
      · exact h2
    have hlt : ∀ t, t < n → (s.callM n ks hp').hp.lookup t = hp'.lookup t := fun t ht => by
      simp only [ASt.callM]
      rw [lookup_apd, lookup_map, lookup_ge, if_neg (by omega)]
      simp
    have hgt : ∀ t, n ≤ t → (s.callM n ks hp').hp.lookup t = (s.hp.lookup t).map (AO.keep n ks) := fun t ht => by
      simp only [ASt.callM]
      rw [lookup_apd, lookup_map, lookup_ge, if_pos ht, hh'.none_at ht]
      simp
    have blk : ∀ t u b, n ≤ t → loc t = some u → blkOf u = some b → b < w.heap.size ∧ w'.heap[b]? = w.heap[b]? := fun t u b ht h1 h2 => by
      obtain ⟨o, _, ho⟩ := hr.hp.loc_obj h1
      refine ⟨ho.blk_lt h2, hx.kp.block b (ho.blk_lt h2) ?_⟩
      rintro (h | ⟨t', u', h3, h4⟩)
      · exact h
      · have := hr.hp.apart t t' u u' b h1 (lC t' u' h3).2 h2 h4
        have := (lC t' u' h3).1
        omega
    have mix : ∀ t t' u u' b, t < n → n ≤ t' → loc' t = some u → loc t' = some u' → blkOf u = some b → blkOf u' = some b → False := fun t t' u u' b h1 h2 h3 h4 h5 h6 => by
      rcases hx.fresh b (.inr ⟨t, u, h3, h5⟩) with (h | ⟨t2, u2, h7, h8⟩) | h
      · exact h.elim
      · have := hr.hp.apart t2 t' u2 u' b (lC t2 u2 h7).2 h4 h8 h6
        have := (lC t2 u2 h7).1
        omega
      · have := (blk t' u' b h2 h4 h6).1
        omega
    refine ⟨loc2, ⟨hr.defers, hr.size, fun t _ => ?_, ⟨fun t o ho => ?_, fun t ht => ?_, fun t t' u u' b h1 h2 h3 h4 => ?_, fun b hb => Nat.lt_of_lt_of_le (hr.hp.inL b hb) kpL.size, fun t u b h1 h2 h3 => ?_⟩⟩, ⟨hx.kp.wide fun b h => ?_, fun b h => ?_⟩, fun x v h => h.mono c1 (Kp.refl _ _) (fun k _ h => d2 k h) (fun t u ht h => ?_)⟩
    · rw [ASt.get_callM]
      exact (hr.fr t trivial).keep (Nat.le_refl _) kpL hD hl
    · rcases Nat.lt_or_ge t n with ht | ht
      · rw [hlt t ht] at ho
        obtain ⟨h1, u, h2, h3⟩ := hh'.at' t o ho
        exact ⟨Nat.lt_of_lt_of_le h1 c1, u, by simp [loc2, ht, h2], h3.mono c1 (Kp.refl _ _) (fun k _ h => d2 k h) (fun t u ht h => by rcases l2 t u h with ⟨_, h⟩ | ⟨h, _⟩ <;> first | exact h | omega) (fun _ _ => rfl)⟩
      · rw [hgt t ht] at ho
        obtain ⟨o', h1, rfl⟩ := Option.map_eq_some_iff.1 ho
        obtain ⟨h2, u, h3, h4⟩ := hr.hp.at' t o' h1
        exact ⟨h2, u, by simp [loc2, Nat.not_lt.2 ht, h3], h4.keep (Nat.le_refl _) kpL hD hl fun b hb => (blk t u b ht h3 hb).2⟩
    · rcases Nat.lt_or_ge t n with hlt' | hge'
      · rw [hlt t hlt'] at ht
        simp [loc2, hlt', hh'.dead t ht]
      · rw [hgt t hge'] at ht
        simp only [Option.map_eq_none_iff] at ht
        simp [loc2, Nat.not_lt.2 hge', hr.hp.dead t ht]
    · rcases l2 t u h1 with ⟨g1, g2⟩ | ⟨g1, g2⟩ <;> rcases l2 t' u' h2 with ⟨g3, g4⟩ | ⟨g3, g4⟩
      · exact hh'.apart t t' u u' b g2 g4 h3 h4
      · exact (mix t t' u u' b g1 g3 g2 g4 h3 h4).elim
      · exact (mix t' t u' u b g3 g1 g4 g2 h4 h3).elim
      · exact hr.hp.apart t t' u u' b g2 g4 h3 h4
    · rcases l2 t u h1 with ⟨g1, g2⟩ | ⟨g1, g2⟩
      · exact hh'.notL t u b g2 h2 (.inl h3)
      · exact hr.hp.notL t u b g2 h2 h3
    · rcases h with h | ⟨t, u, h1, h2⟩
      · exact h.elim
      · exact .inr ⟨t, u, (lC t u h1).2, h2⟩
    · rcases h with h | ⟨t, u, h1, h2⟩
      · exact h.elim
      · rcases l2 t u h1 with ⟨_, h3⟩ | ⟨_, h3⟩
        · rcases hx.fresh b (.inr ⟨t, u, h3, h2⟩) with (h | ⟨t2, u2, h7, h8⟩) | h
          · exact h.elim
          · exact .inl (.inr ⟨t2, u2, (lC t2 u2 h7).2, h8⟩)
          · exact .inr h
        · exact .inl (.inr ⟨t, u, h3, h2⟩)
    · rcases l2 t u h with ⟨_, h⟩ | ⟨h, _⟩
      · exact h
      · omega
section
variable {P : Program} {ops : Array Oper} {o : Oper} {s : ASt}
/-- Whatever the callee turns. -/
def CallM (P : Program) (s : ASt) (f : FuncId) (xs : List AV) (d : Option Nat) (K : ASt → Prop) : Prop := ∃ n hp Q ks, Ent P f ∧ MemC P f n hp xs Q ∧ Passes s n hp ∧ (xs.all (·.okB n)) = true ∧ ∀ hp' r, Q hp' r → (∀ t ∈ ks, t < n → Kept hp hp' t) ∧ K ((s.callM n ks hp').put d r)
theorem CallM.mono {f : FuncId} {xs : List AV} {d : Option Nat} {K K' : ASt → Prop} (h : ∀ s, K s → K' s) (k : CallM P s f xs d K) : CallM P s f xs d K' :=
  let ⟨n, hp, Q, ks, h1, h2, h3, h4, h5⟩ := k; ⟨n, hp, Q, ks, h1, h2, h3, h4, fun hp' r hq => ⟨(h5 hp' r hq).1, h _ (h5 hp' r hq).2⟩⟩
theorem CallM.eff {f : FuncId} {xs : List AV} {K : ASt → Prop} {vals : Act → List Value} (h : CallM P s f xs o.dst K) (hd : ∀ t, o.dst = some t → t < s.n)
    (hrun : ∀ L loc a w, Rel All L s loc a w → Ent P f → (execOp a.eval o).run P w = .ok (.enter f (vals a).toArray) w ∧ ARs s.N (Dm L loc) loc w xs (vals a)) : OpEffG P o s K := fun L loc a w hr => by
  obtain ⟨n, hp, Q, ks, hent, hm, hps, hok, hq⟩ := h
  obtain ⟨hx, ha⟩ := hrun L loc a w hr hent
  obtain ⟨LC, locC, h1, h2, h3⟩ := mem_call hr hps ks
  unfold Oper.wp
  rw [hx]
  refine (hm LC locC w (vals a) h1 ⟨ha.1, fun j x v hx hv => h2 x v (List.all_eq_true.1 hok x (List.mem_of_getElem? hx)) (ha.2 j x v hx hv)⟩).mono fun e w' ⟨v, loc', hp', r, he, hQ, g1, g2, g3⟩ => ?_
  subst he
  obtain ⟨q1, q2⟩ := hq hp' r hQ
  obtain ⟨loc2, g4, g5, g6⟩ := h3 w' loc' hp' g1 g3 q1
  exact ⟨_, loc2, q2, Rel.put' g4 (s := s.callM n ks hp') hd (g6 r v g2), g5⟩
/-- The callee hands over something new. -/
def CallN (P : Program) (s : ASt) (f : FuncId) (xs : List AV) (d : Option Nat) (K : ASt → Prop) : Prop := ∃ o : AO, Ent P f ∧ (∀ L loc w vs, HRel L s.N s.hp loc w → ARs s.N (Dm L loc) loc w xs vs →
  Calls P f vs.toArray w fun e w' => ∃ u, e = .returned u ∧ Blw w.heap.size w w' ∧ (∀ b, blkOf u = some b → w.heap.size ≤ b) ∧ u.oneCell' = true ∧ OR (s.N + 1) (Dm L (setLoc loc s.N u)) (setLoc loc s.N u) w' u o) ∧ K ((s.add o).put d (.own s.N))
theorem CallN.eff {f : FuncId} {xs : List AV} {K : ASt → Prop} {vals : Act → List Value} (h : CallN P s f xs o.dst K) (hd : ∀ t, o.dst = some t → t < s.n)
    (hrun : ∀ L loc a w, Rel All L s loc a w → Ent P f → (execOp a.eval o).run P w = .ok (.enter f (vals a).toArray) w ∧ ARs s.N (Dm L loc) loc w xs (vals a)) : OpEffG P o s K := fun L loc a w hr => by
  obtain ⟨ob, hent, hc, hK⟩ := h
  obtain ⟨hx, ha⟩ := hrun L loc a w hr hent
  unfold Oper.wp
  rw [hx]
  refine (hc L loc w (vals a) hr.hp ha).mono fun e w' ⟨u, he, hb, hu, h1, hor⟩ => ?_
  subst he
  refine ⟨_, setLoc loc s.N u, hK, (hr.add hb u ob hu hor).put' hd (.own s.N _ (Nat.lt_succ_self _) h1 fun z hz => ?_), .add hb _ _ hu⟩
  rw [setLoc_same] at hz; cases hz; rfl
def CallX (P : Program) (s : ASt) (f : FuncId) (xs : List AV) (d : Option Nat) (K : ASt → Prop) : Prop := CallM P s f xs d K ∨ CallN P s f xs d K
theorem CallX.mono {f : FuncId} {xs : List AV} {d : Option Nat} {K K' : ASt → Prop} (h : ∀ s, K s → K' s) (k : CallX P s f xs d K) : CallX P s f xs d K' :=
  k.imp (CallM.mono h) fun ⟨o, h1, h2, h3⟩ => ⟨o, h1, h2, h _ h3⟩
theorem CallX.eff {f : FuncId} {xs : List AV} {K : ASt → Prop} {vals : Act → List Value} (h : CallX P s f xs o.dst K) (hd : ∀ t, o.dst = some t → t < s.n)
    (hrun : ∀ L loc a w, Rel All L s loc a w → Ent P f → (execOp a.eval o).run P w = .ok (.enter f (vals a).toArray) w ∧ ARs s.N (Dm L loc) loc w xs (vals a)) : OpEffG P o s K := h.elim (fun h => h.eff hd hrun) (fun h => h.eff hd hrun)
theorem op_callM (f : FuncId) (args : Array Operand) (tys : Array TypeId) {K : ASt → Prop} (h : o.op = .call { callee := .value (.func f), args := args, argTypes := tys }) (hc : CallX P s f (args.toList.map s.ev) o.dst K) (hd : ∀ t, o.dst = some t → t < s.n) : OpEffG P o s K :=
  hc.eff (vals := fun a => args.toList.map a.eval) hd fun L loc a w hr he => ⟨by
    have := he (args.map a.eval) w
    have e : (args.toList.map a.eval).toArray = args.map a.eval := by apply Array.ext'; simp
    rw [e]
    simp [execOp, h, resolve, Act.eval, Deferred.ofValue, invoke, this], by simp, fun j x v hx hv => by
    simp only [List.getElem?_map, Option.map_eq_some_iff] at hx hv
    obtain ⟨y, hy, rfl⟩ := hx
    obtain ⟨y', hy', rfl⟩ := hv
    rw [hy] at hy'
    cases hy'
    exact hr.ev y (fun _ _ => trivial)⟩
theorem op_callMF (t : Tmp) (f : FuncId) (caps : List AV) (args : Array Operand) (tys : Array TypeId) {K : ASt → Prop} (h : o.op = .call { callee := .value (.tmp t), args := args, argTypes := tys }) (hf : s.get t = .fn (.func f) caps) (hc : CallX P s f (args.toList.map s.ev ++ caps) o.dst K) (hd : ∀ t, o.dst = some t → t < s.n) : OpEffG P o s K := by
  refine hc.eff (vals := fun a => args.toList.map a.eval ++ (match a.eval (.tmp t) with | .func _ _ vs => vs.toList | _ => [])) hd fun L loc a w hr he => ?_
  have h0 := hr.ev (.tmp t) (fun _ _ => trivial)
  simp only [ASt.ev, hf] at h0
  generalize hu : a.eval (.tmp t) = u at h0
  cases h0 with
  | fn _ _ vs hvl hva =>
  refine ⟨?_, by simp [hvl], fun j x v hx hv => ?_⟩
  · have := he (args.map a.eval ++ vs) w
    have e : (args.toList.map a.eval ++ vs.toList).toArray = args.map a.eval ++ vs := by simp
    simp only [e]
    simp [execOp, h, resolve, hu, Deferred.ofValue, invoke, this]
  · rw [List.getElem?_append] at hx hv
    simp only [List.length_map] at hx hv
    split at hx
    · rename_i hlt
      rw [if_pos hlt] at hv
      simp only [List.getElem?_map, Option.map_eq_some_iff] at hx hv
      obtain ⟨y, hy, rfl⟩ := hx
      obtain ⟨y', hy', rfl⟩ := hv
      rw [hy] at hy'
      cases hy'
      exact hr.ev y (fun _ _ => trivial)
    · rename_i hlt
      rw [if_neg hlt] at hv
      have h5 := hva _ x hx
      have h6 : vs[j - args.toList.length]? = some v := by simpa using hv
      rw [Array.getD_eq_getD_getElem?, h6] at h5
      exact h5
end

/-! ### A function that writes -/
def startM (xs : List AV) (hp : Hp) (n N : Nat) : ASt := ⟨frOf 0 xs, hp, n, N⟩
/-- What stands behind its body. -/
def FinM (P : Program) (fn : Func) (N : Nat) (Q : Hp → AV → Prop) (e : Exit) (s : ASt) : Prop := (e = .normal ∨ e = .ret) ∧ ∃ s', Weak s s' ∧ s'.N = N ∧ ∃ r, ares P s' fn.results.toList = some r ∧ Q s'.hp r
theorem MemC.of {P : Program} {f : FuncId} {fn : Func} {c : Code} {xs : List AV} {N : Nat} {hp : Hp} {Q : Hp → AV → Prop} (hf : P.funcs[f]? = some fn) (hb : fn.body = some c) (n : Nat) (hn : xs.length + (fn.ntmps - xs.length) = n) (h3 : fn.results.size ≤ 3) (h : T Fence.wide P c (FinM P fn N Q) (startM xs hp n N)) : MemC P f N hp xs Q := fun L loc w vs hh hvs => by
  have hst : Rel All ⟨L, []⟩ (startM xs hp n N) loc { tmps := vs.toArray ++ Array.replicate (fn.ntmps - vs.toArray.size) undef, defers := [] } w := by
    refine ⟨rfl, by simp [startM, hvs.1]; omega, fun t _ => ?_, hh⟩
    unfold ASt.get startM
    rw [frOf_lookup, if_pos (Nat.zero_le _), Nat.sub_zero]
    cases hx : xs[t]? with
    | none => exact .junk _
    | some x =>
      have hlt := (List.getElem?_eq_some_iff.1 hx).1
      have hv : vs[t]? = some (vs[t]'(by rw [hvs.1]; exact hlt)) := List.getElem?_eq_getElem _
      have h1 := hvs.2 t x _ hx hv
      have e : slot { tmps := vs.toArray ++ Array.replicate (fn.ntmps - vs.toArray.size) undef, defers := [] } t = vs[t]'(by rw [hvs.1]; exact hlt) := by
        unfold slot
        rw [Array.getD_eq_getD_getElem?, Array.getElem?_append, if_pos (by simp [hvs.1, hlt])]
        simp [hv]
      rw [e]
      exact h1
  refine callsIn_wide.1 (callsIn_of_wp_marks (n := 0) hf hb trivial (wpIn_mono (h ⟨L, []⟩ loc _ w hst) fun e a' w' ⟨s', loc', ⟨he, s2, hw, hN, r, hares, hQ⟩, ⟨L1, hrel, hlx⟩, hx⟩ => ?_))
  obtain ⟨new, e1, hnd, hnew⟩ := hlx.ds
  rw [List.append_nil] at e1
  obtain ⟨l2, hrel2, hx2⟩ := hw L1 loc' a' w' hrel
  have hrel3 := hrel2.shut new fun D hD => (hnew D hD).2.1
  obtain ⟨v, hrun, hav⟩ := run_ares hrel3 fn hares h3
  have hx3 := hx.trans hx2
  have k1 : Kp (Dm (fun _ => False) loc) w (shutM new w') := by
    have k0 : Kp (fun k => Dm (fun _ => False) loc k ∨ k ∈ new) w (shutM new w') := (hx3.kp.wide fun k h => .inl h).trans ((shutM_kp new w').wide fun k h => .inr h) fun x hx' => .inl hx'
    exact ⟨k0.os, k0.tape, k0.output, k0.size, fun k hk hn => k0.block k hk fun hd => hd.elim hn (fun hd => by have := (hnew k hd).1; omega), k0.drawn⟩
  have dm : ∀ k, Dm L l2 k → Dm L1 l2 k := fun k h => h.imp (hlx.sub k) id
  have hhp : HRel L N s2.hp l2 (shutM new w') := by
    rw [← hN]
    exact ⟨fun t o ho => let ⟨g1, u, g2, g3⟩ := hrel3.hp.at' t o ho; ⟨g1, u, g2, g3.mono (Nat.le_refl _) (Kp.refl _ _) (fun k _ h => dm k h) (fun _ _ _ h => h) (fun _ _ => rfl)⟩, hrel3.hp.dead, hrel3.hp.apart, fun b hb => hrel3.hp.inL b (hlx.sub b hb), fun t u b g1 g2 g3 => hrel3.hp.notL t u b g1 g2 (hlx.sub b g3)⟩
  have hleave : LeavesInM Fence.wide 0 P fn a'.tmps (fun e w' => ∃ v loc' hp' r, e = .returned v ∧ Q hp' r ∧ HRel L N hp' loc' w' ∧ AR N (Dm L loc') loc' w' r v ∧ Ext loc w loc' w') a'.defers .returning w' := by
    rw [hrel.defers, e1]
    exact leaves_marks new w' hnd (fun D hD => (hnew D hD).2.2) ⟨v, hrun, v, l2, s2.hp, r, rfl, hQ, hhp, by rw [← hN]; exact hav.mono (Nat.le_refl _) (Kp.refl _ _) (fun k _ h => dm k h) (fun _ _ _ h => h), ⟨k1, hx3.fresh⟩⟩
  rcases he with rfl | rfl
  · exact hleave
  · exact hleave
end Go.Proofs.Ytbhkcejjehgfcaa
