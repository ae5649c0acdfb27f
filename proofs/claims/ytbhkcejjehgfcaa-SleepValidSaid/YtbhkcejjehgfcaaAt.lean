/- Less is known: prefixes, tags, places, data; yield and ranges over functions. -/
import Derived.Test.YtbhkcejjehgfcaaAp
import Derived.Test.YtbhkcejjehgfcaaAq
namespace Go.Proofs.Ytbhkcejjehgfcaa
open Go.RowKit Go.Sort
set_option linter.unusedSimpArgs false
set_option linter.unusedVariables false

/-! ### A slice cut short -/
def AV.cut (t m : Nat) : AV → AV
  | .own t' => if t' = t then .junk else .own t'
  | .pre t' m' => if t' = t ∧ m' = m then .own t' else .pre t' m'
  | .fn f cs => .fn f (cs.attach.map fun ⟨c, _⟩ => AV.cut t m c)
  | .agg cs => .agg (cs.attach.map fun ⟨c, _⟩ => AV.cut t m c)
  | .tup cs => .tup (cs.attach.map fun ⟨c, _⟩ => AV.cut t m c)
  | x => x
theorem AV.cut_own (t m k : Nat) : AV.cut t m (.own k) = if k = t then .junk else .own k := by simp [AV.cut]
theorem AV.cut_pre (t m k j : Nat) : AV.cut t m (.pre k j) = if k = t ∧ j = m then .own k else .pre k j := by simp [AV.cut]
theorem AV.cut_ptr (t m k j : Nat) : AV.cut t m (.ptr k j) = .ptr k j := by simp [AV.cut]
theorem AV.cut_rptr (t m k j i l : Nat) : AV.cut t m (.rptr k j i l) = .rptr k j i l := by simp [AV.cut]
theorem AV.cut_p (t m : Nat) (x : PV) : AV.cut t m (.p x) = .p x := by simp [AV.cut]
theorem AV.cut_elt (t m : Nat) (r : List PV) (k : Nat) : AV.cut t m (.elt r k) = .elt r k := by simp [AV.cut]
theorem AV.cut_junk (t m : Nat) : AV.cut t m .junk = .junk := by simp [AV.cut]
theorem AV.cut_cap0 (t m : Nat) : AV.cut t m .cap0 = .cap0 := by simp [AV.cut]
theorem AV.cut_fn (t m : Nat) (f : Fn) (cs : List AV) : AV.cut t m (.fn f cs) = .fn f (cs.map (AV.cut t m)) := by simp [AV.cut]
theorem AV.cut_agg (t m : Nat) (cs : List AV) : AV.cut t m (.agg cs) = .agg (cs.map (AV.cut t m)) := by simp [AV.cut]
theorem AV.cut_tup (t m : Nat) (cs : List AV) : AV.cut t m (.tup cs) = .tup (cs.map (AV.cut t m)) := by simp [AV.cut]
theorem AR.cut {N : Nat} {D : Nat → Prop} {loc loc' : Nat → Option Value} {w : World} {t m b l c : Nat} {x : AV} {v : Value} (h : AR N D loc w x v) {D' : Nat → Prop} (hD : ∀ k, D' k → D k) (h0 : loc t = some (.slice (some ⟨b, 0, none⟩) l c)) (h1 : loc' t = some (.slice (some ⟨b, 0, none⟩) m c)) (h2 : ∀ k, k ≠ t → loc' k = loc k) : AR N D' loc' w (AV.cut t m x) v := by
  induction h with
  | p x v h => rw [AV.cut_p]; exact .p x v (h.mono (Kp.refl _ _) fun k _ h => hD k h)
  | elt row off b o f hb hnD hc hr => rw [AV.cut_elt]; exact .elt row off b o f hb (fun h => hnD (hD _ h)) hc fun j x h => (hr j x h).mono (Kp.refl _ _) fun k _ h => hD k h
  | ptr k off v ht g h =>
    rw [AV.cut_ptr]
    refine .ptr k off v ht g fun b' hb => ?_
    by_cases e : k = t
    · subst e; rw [h1] at hb; cases hb
    · exact h b' ((h2 k e) ▸ hb)
  | rptr k n i off v ht g h =>
    rw [AV.cut_rptr]
    refine .rptr k n i off v ht g fun b' l' c' hb => ?_
    by_cases e : k = t
    · subst e; rw [h1] at hb; cases hb; exact h _ _ _ h0
    · exact h b' l' c' ((h2 k e) ▸ hb)
  | own k v ht g h =>
    rw [AV.cut_own]
    split
    · exact .junk _
    · rename_i e; exact .own k v ht g fun u hu => h u ((h2 k e) ▸ hu)
  | pre k j v ht g h =>
    rw [AV.cut_pre]
    split
    · rename_i e
      obtain ⟨rfl, rfl⟩ := e
      refine .own k v ht g fun u hu => ?_
      rw [h1] at hu; cases hu; exact h _ _ _ h0
    · refine .pre k j v ht g fun b' l' c' hb => ?_
      by_cases e : k = t
      · subst e; rw [h1] at hb; cases hb; exact h _ _ _ h0
      · exact h b' l' c' ((h2 k e) ▸ hb)
  | fn f caps vs hlen _ ih =>
    rw [AV.cut_fn]
    refine .fn f _ vs (by simpa using hlen) fun j x hx => ?_
    simp only [List.getElem?_map, Option.map_eq_some_iff] at hx
    obtain ⟨c, hc, rfl⟩ := hx
    exact ih j c hc
  | agg cs vs hlen _ h1 ih =>
    rw [AV.cut_agg]
    refine .agg _ vs (by simpa using hlen) (fun j x hx => ?_) h1
    simp only [List.getElem?_map, Option.map_eq_some_iff] at hx
    obtain ⟨c, hc, rfl⟩ := hx
    exact ih j c hc
  | tup cs vs hlen _ ih =>
    rw [AV.cut_tup]
    refine .tup _ vs (by simpa using hlen) fun j x hx => ?_
    simp only [List.getElem?_map, Option.map_eq_some_iff] at hx
    obtain ⟨c, hc, rfl⟩ := hx
    exact ih j c hc
  | cap0 a h => rw [AV.cut_cap0]; exact .cap0 a fun x hx => ⟨(h x hx).1, fun hd => (h x hx).2.1 (hD _ hd), (h x hx).2.2⟩
  | junk v => rw [AV.cut_junk]; exact .junk v
def AO.cut (t m : Nat) : AO → AO
  | .boxP pin ty cs => .boxP pin ty (cs.map (AV.cut t m))
  | .row e n rows => .row e n rows
  | .map pin P k n f => .map pin P k n f
  | .raw u ob => .raw u ob
  | .lrec l sp fr => .lrec l sp (fr.map fun p => (p.1, AV.cut t m p.2))
def ASt.cut (s : ASt) (t m : Nat) : ASt := match s.hp.lookup t with
  | some (.row e n rows) => if m ≤ rows.length ∧ 0 < rows.length then { s with fr := s.fr.map fun p => (p.1, p.2.cut t m), hp := setHp (s.hp.map fun p => (p.1, p.2.cut t m)) t (.row e n (rows.take m)) } else s
  | _ => s
theorem Weak.cut (s : ASt) (t m : Nat) : Weak s (s.cut t m) := by
  unfold ASt.cut
  split
  · rename_i e n rows hlk
    split
    · rename_i hc
      obtain ⟨hm, h0⟩ := hc
      intro L loc a w hr
      obtain ⟨htN, u, hu, flat, hown, hrn, hfl, hone⟩ := hr.hp.at' t _ hlk
      rcases hown.2 with ⟨_, h⟩ | ⟨g, cap, cur, rfl, g1, g2, g3, g4, g5, g6⟩
      · omega
      · let loc' : Nat → Option Value := setLoc loc t (.slice (some ⟨g, 0, none⟩) m cap)
        have l0 : loc' t = some (.slice (some ⟨g, 0, none⟩) m cap) := setLoc_same _ _ _
        have l1 : ∀ k, k ≠ t → loc' k = loc k := fun k hk => setLoc_other _ _ hk
        have blk : ∀ k z, loc' k = some z → ∃ z', loc k = some z' ∧ blkOf z' = blkOf z := fun k z hz => by
          by_cases ek : k = t
          · subst ek; rw [l0] at hz; cases hz; exact ⟨_, hu, rfl⟩
          · exact ⟨z, (l1 k ek) ▸ hz, rfl⟩
        have hD : ∀ M : Nat → Prop, ∀ k, Dm M loc' k → Dm M loc k := fun M k h => h.imp id fun ⟨k', z, h1, h2⟩ => let ⟨z', h3, h4⟩ := blk k' z h1; ⟨k', z', h3, h4.trans h2⟩
        have hcut : ∀ {x : AV} {v : Value}, AR s.N (Dm L loc) loc w x v → AR s.N (Dm L loc') loc' w (x.cut t m) v := fun h => h.cut (hD L) hu l0 l1
        refine ⟨loc', ⟨hr.defers, hr.size, fun k _ => ?_, ⟨fun k o ho => ?_, fun k ho => ?_, fun k k' z z' b h1 h2 h3 h4 => ?_, hr.hp.inL, fun k z b h1 h2 => ?_⟩⟩, ⟨Kp.refl _ _, fun b h => .inl (hD _ b h)⟩⟩
        · show AR _ _ _ _ (((List.lookup k (s.fr.map _))).getD .junk) _
          rw [lookup_map]
          have h1 := hr.fr k trivial
          unfold ASt.get at h1
          cases hk : s.fr.lookup k with
          | none => exact .junk _
          | some x => rw [hk] at h1; exact hcut h1
        · change (setHp _ _ _).lookup k = some o at ho
          rw [setHp_lookup, lookup_map, lookup_map] at ho
          by_cases ek : k = t
          · subst ek
            rw [if_pos rfl, hlk] at ho
            cases ho
            have hl : (flat.take (m * n)).length = m * n := by
              rw [List.length_take, hown.1]; exact Nat.min_eq_left (Nat.mul_le_mul_right n hm)
            refine ⟨htN, _, l0, flat.take (m * n), ⟨by rw [hl, List.length_take, Nat.min_eq_left hm], .inr ⟨g, cap, cur, by rw [List.length_take, Nat.min_eq_left hm], g1, g2, by rw [List.length_take, Nat.min_eq_left hm]; omega, g4, g5, ?_⟩⟩, fun r hr' => hrn r (List.mem_of_mem_take hr'), fun i r j x h1 h2 => ?_, fun v hv => hone v (List.mem_of_mem_take hv)⟩
            · rw [List.length_take, Nat.min_eq_left hm, ← g6, List.take_take, Nat.min_eq_left (Nat.mul_le_mul_right n hm)]
            · rw [List.getElem?_take] at h1
              split at h1
              · rename_i hi
                obtain ⟨v, h3, h4⟩ := hfl i r j x h1 h2
                refine ⟨v, ?_, h4.mono (Kp.refl _ _) fun k _ h => hD L k h⟩
                have hj := (List.getElem?_eq_some_iff.1 h2).1
                rw [hrn r (List.mem_of_getElem? h1)] at hj
                have : (i + 1) * n ≤ m * n := Nat.mul_le_mul_right n hi
                rw [Nat.add_mul] at this
                rw [List.getElem?_take, if_pos (by omega)]
                exact h3
              · cases h1
          · rw [if_neg ek] at ho
            obtain ⟨o', h1, rfl⟩ := Option.map_eq_some_iff.1 ho
            obtain ⟨h2, z, h3, h4⟩ := hr.hp.at' k o' h1
            refine ⟨h2, z, (l1 k ek).trans h3, ?_⟩
            cases o' with
            | boxP pin ty cs =>
              obtain ⟨b, arr, rfl, q1, q2, q3, q4⟩ := h4
              refine ⟨b, arr, rfl, q1, by simpa [AO.cut] using q2, fun j x hx => ?_, q4⟩
              simp only [List.getElem?_map, Option.map_eq_some_iff] at hx
              obtain ⟨c, hc, rfl⟩ := hx
              exact hcut (q3 j c hc)
            | row e' n' rows' =>
              obtain ⟨fl, q1, q2, q3, q4⟩ := h4
              exact ⟨fl, q1, q2, fun i r j x h1 h2 => let ⟨v, h5, h6⟩ := q3 i r j x h1 h2; ⟨v, h5, h6.mono (Kp.refl _ _) fun k _ h => hD L k h⟩, q4⟩
            | map pin P k n f => exact h4
            | raw u ob => exact h4
            | lrec l sp fr =>
              obtain ⟨rfl, tmps, q1, q2, q3⟩ := h4
              refine ⟨rfl, tmps, q1, q2, fun i => ?_⟩
              rw [lookup_map]
              have h5 := q3 i
              cases hf : fr.lookup i with
              | none => exact .junk _
              | some x => rw [hf] at h5; exact hcut h5
        · change (setHp _ _ _).lookup k = none at ho
          rw [setHp_lookup, lookup_map, lookup_map] at ho
          by_cases ek : k = t
          · subst ek; rw [if_pos rfl, hlk] at ho; cases ho
          · rw [if_neg ek] at ho
            rw [l1 k ek]
            exact hr.hp.dead k (by simpa using ho)
        · obtain ⟨y, f1, f2⟩ := blk k z h1
          obtain ⟨y', f3, f4⟩ := blk k' z' h2
          exact hr.hp.apart k k' y y' b f1 f3 (f2.trans h3) (f4.trans h4)
        · obtain ⟨y, f1, f2⟩ := blk k z h1
          exact hr.hp.notL k y b f1 (f2.trans h2)
    · exact Weak.refl s
  · exact Weak.refl s

/-! ### A tag gets another number -/
def AV.ren (t t' : Nat) : AV → AV
  | .own k => if k = t then .own t' else if k = t' then .junk else .own k
  | .ptr k j => if k = t then .ptr t' j else if k = t' then .junk else .ptr k j
  | .rptr k n i j => if k = t then .rptr t' n i j else if k = t' then .junk else .rptr k n i j
  | .pre k j => if k = t then .pre t' j else if k = t' then .junk else .pre k j
  | .fn f cs => .fn f (cs.attach.map fun ⟨c, _⟩ => AV.ren t t' c)
  | .agg cs => .agg (cs.attach.map fun ⟨c, _⟩ => AV.ren t t' c)
  | .tup cs => .tup (cs.attach.map fun ⟨c, _⟩ => AV.ren t t' c)
  | x => x
theorem AV.ren_own (t t' k : Nat) : AV.ren t t' (.own k) = if k = t then .own t' else if k = t' then .junk else .own k := by simp [AV.ren]
theorem AV.ren_ptr (t t' k j : Nat) : AV.ren t t' (.ptr k j) = if k = t then .ptr t' j else if k = t' then .junk else .ptr k j := by simp [AV.ren]
theorem AV.ren_rptr (t t' k n i j : Nat) : AV.ren t t' (.rptr k n i j) = if k = t then .rptr t' n i j else if k = t' then .junk else .rptr k n i j := by simp [AV.ren]
theorem AV.ren_pre (t t' k j : Nat) : AV.ren t t' (.pre k j) = if k = t then .pre t' j else if k = t' then .junk else .pre k j := by simp [AV.ren]
theorem AV.ren_p (t t' : Nat) (x : PV) : AV.ren t t' (.p x) = .p x := by simp [AV.ren]
theorem AV.ren_elt (t t' : Nat) (r : List PV) (k : Nat) : AV.ren t t' (.elt r k) = .elt r k := by simp [AV.ren]
theorem AV.ren_junk (t t' : Nat) : AV.ren t t' .junk = .junk := by simp [AV.ren]
theorem AV.ren_cap0 (t t' : Nat) : AV.ren t t' .cap0 = .cap0 := by simp [AV.ren]
theorem AV.ren_fn (t t' : Nat) (f : Fn) (cs : List AV) : AV.ren t t' (.fn f cs) = .fn f (cs.map (AV.ren t t')) := by simp [AV.ren]
theorem AV.ren_agg (t t' : Nat) (cs : List AV) : AV.ren t t' (.agg cs) = .agg (cs.map (AV.ren t t')) := by simp [AV.ren]
theorem AV.ren_tup (t t' : Nat) (cs : List AV) : AV.ren t t' (.tup cs) = .tup (cs.map (AV.ren t t')) := by simp [AV.ren]
theorem AR.ren {N : Nat} {D : Nat → Prop} {loc loc' : Nat → Option Value} {w : World} {t t' : Nat} {x : AV} {v : Value} (h : AR N D loc w x v) {D' : Nat → Prop} (hD : ∀ k, D' k → D k) (ht' : t' < N) (h0 : loc' t' = loc t) (h1 : ∀ k u, k ≠ t → k ≠ t' → loc' k = some u → loc k = some u) : AR N D' loc' w (AV.ren t t' x) v := by
  induction h with
  | p x v h => rw [AV.ren_p]; exact .p x v (h.mono (Kp.refl _ _) fun k _ h => hD k h)
  | elt row off b o f hb hnD hc hr => rw [AV.ren_elt]; exact .elt row off b o f hb (fun h => hnD (hD _ h)) hc fun j x h => (hr j x h).mono (Kp.refl _ _) fun k _ h => hD k h
  | ptr k off v ht g h =>
    rw [AV.ren_ptr]
    split
    · rename_i e; subst e; exact .ptr t' off v ht' g fun b hb => h b (h0 ▸ hb)
    · rename_i e; split
      · exact .junk _
      · rename_i e'; exact .ptr k off v ht g fun b hb => h b (h1 k _ e e' hb)
  | rptr k n i off v ht g h =>
    rw [AV.ren_rptr]
    split
    · rename_i e; subst e; exact .rptr t' n i off v ht' g fun b l c hb => h b l c (h0 ▸ hb)
    · rename_i e; split
      · exact .junk _
      · rename_i e'; exact .rptr k n i off v ht g fun b l c hb => h b l c (h1 k _ e e' hb)
  | own k v ht g h =>
    rw [AV.ren_own]
    split
    · rename_i e; subst e; exact .own t' v ht' g fun u hu => h u (h0 ▸ hu)
    · rename_i e; split
      · exact .junk _
      · rename_i e'; exact .own k v ht g fun u hu => h u (h1 k _ e e' hu)
  | pre k j v ht g h =>
    rw [AV.ren_pre]
    split
    · rename_i e; subst e; exact .pre t' j v ht' g fun b l c hb => h b l c (h0 ▸ hb)
    · rename_i e; split
      · exact .junk _
      · rename_i e'; exact .pre k j v ht g fun b l c hb => h b l c (h1 k _ e e' hb)
  | fn f caps vs hlen _ ih =>
    rw [AV.ren_fn]
    refine .fn f _ vs (by simpa using hlen) fun j x hx => ?_
    simp only [List.getElem?_map, Option.map_eq_some_iff] at hx
    obtain ⟨c, hc, rfl⟩ := hx
    exact ih j c hc
  | agg cs vs hlen _ h1 ih =>
    rw [AV.ren_agg]
    refine .agg _ vs (by simpa using hlen) (fun j x hx => ?_) h1
    simp only [List.getElem?_map, Option.map_eq_some_iff] at hx
    obtain ⟨c, hc, rfl⟩ := hx
    exact ih j c hc
  | tup cs vs hlen _ ih =>
    rw [AV.ren_tup]
    refine .tup _ vs (by simpa using hlen) fun j x hx => ?_
    simp only [List.getElem?_map, Option.map_eq_some_iff] at hx
    obtain ⟨c, hc, rfl⟩ := hx
    exact ih j c hc
  | cap0 a h => rw [AV.ren_cap0]; exact .cap0 a fun x hx => ⟨(h x hx).1, fun hd => (h x hx).2.1 (hD _ hd), (h x hx).2.2⟩
  | junk v => rw [AV.ren_junk]; exact .junk v
def AO.ren (t t' : Nat) : AO → AO
  | .boxP pin ty cs => .boxP pin ty (cs.map (AV.ren t t'))
  | .row e n rows => .row e n rows
  | .map pin P k n f => .map pin P k n f
  | .raw u ob => .raw u ob
  | .lrec l sp fr => .lrec l sp (fr.map fun p => (p.1, AV.ren t t' p.2))
/-- t is called t' from here on; what t' was before is forgotten. -/
def ASt.ren (s : ASt) (t t' : Nat) : ASt := match s.hp.lookup t with
  | some o => if t' < s.N ∧ t ≠ t' then { s with fr := s.fr.map fun p => (p.1, p.2.ren t t'), hp := (t', o.ren t t') :: (s.hp.filter fun p => p.1 != t && p.1 != t').map fun p => (p.1, p.2.ren t t') } else s
  | none => s
theorem lookup_filter2 {α : Type} (l : List (Nat × α)) (t t' k : Nat) : (l.filter fun p => p.1 != t && p.1 != t').lookup k = if k = t ∨ k = t' then none else l.lookup k := by
  induction l with
  | nil => simp
  | cons p r ih =>
    obtain ⟨j, x⟩ := p
    by_cases ek : k = j
    · subst ek
      by_cases h : k = t ∨ k = t'
      · rw [if_pos h, List.filter_cons, if_neg (by simp; intro h1; exact h.resolve_left h1), ih, if_pos h]
      · rw [if_neg h, List.filter_cons, if_pos (by simp; exact ⟨fun e => h (.inl e), fun e => h (.inr e)⟩), lookup_cons_eq, lookup_cons_eq]
    · rw [lookup_cons_ne ek, ← ih, List.filter_cons]
      split
      · rw [lookup_cons_ne ek]
      · rfl
theorem Weak.ren (s : ASt) (t t' : Nat) : Weak s (s.ren t t') := by
  unfold ASt.ren
  split
  · rename_i o hlk
    split
    · rename_i hc
      obtain ⟨ht', hne⟩ := hc
      intro L loc a w hr
      let loc' : Nat → Option Value := fun k => if k = t' then loc t else if k = t then none else loc k
      have l0 : loc' t' = loc t := by simp [loc']
      have l1 : ∀ k u, loc' k = some u → (k = t' ∧ loc t = some u) ∨ (k ≠ t ∧ k ≠ t' ∧ loc k = some u) := fun k u h => by
        simp only [loc'] at h
        split at h
        · rename_i e; exact .inl ⟨e, h⟩
        · rename_i e; split at h
          · cases h
          · rename_i e2; exact .inr ⟨e2, e, h⟩
      have hD : ∀ M : Nat → Prop, ∀ k, Dm M loc' k → Dm M loc k := fun M k h => h.imp id fun ⟨k', z, h1, h2⟩ => by
        rcases l1 k' z h1 with ⟨_, h3⟩ | ⟨_, _, h3⟩
        · exact ⟨t, z, h3, h2⟩
        · exact ⟨k', z, h3, h2⟩
      have har : ∀ {x : AV} {v : Value}, AR s.N (Dm L loc) loc w x v → AR s.N (Dm L loc') loc' w (x.ren t t') v := fun h => h.ren (hD L) ht' l0 fun k u e1 e2 hu => by
        rcases l1 k u hu with ⟨e, _⟩ | ⟨_, _, h⟩
        · exact absurd e e2
        · exact h
      have hor : ∀ {u : Value} {o : AO}, OR s.N (Dm L loc) loc w u o → OR s.N (Dm L loc') loc' w u (o.ren t t') := fun {u o} h4 => by
        cases o with
        | boxP pin ty cs =>
          obtain ⟨b, arr, rfl, q1, q2, q3, q4⟩ := h4
          refine ⟨b, arr, rfl, q1, by simpa [AO.ren] using q2, fun j x hx => ?_, q4⟩
          simp only [List.getElem?_map, Option.map_eq_some_iff] at hx
          obtain ⟨c, hc, rfl⟩ := hx
          exact har (q3 j c hc)
        | row e' n' rows' =>
          obtain ⟨fl, q1, q2, q3, q4⟩ := h4
          exact ⟨fl, q1, q2, fun i r j x h1 h2 => let ⟨v, h5, h6⟩ := q3 i r j x h1 h2; ⟨v, h5, h6.mono (Kp.refl _ _) fun k _ h => hD L k h⟩, q4⟩
        | map pin P k n f => exact h4
        | raw u ob => exact h4
        | lrec l sp fr =>
          obtain ⟨rfl, tmps, q1, q2, q3⟩ := h4
          refine ⟨rfl, tmps, q1, q2, fun i => ?_⟩
          rw [lookup_map]
          have h5 := q3 i
          cases hf : fr.lookup i with
          | none => exact .junk _
          | some x => rw [hf] at h5; exact har h5
      refine ⟨loc', ⟨hr.defers, hr.size, fun k _ => ?_, ⟨fun k ob ho => ?_, fun k ho => ?_, fun k k' z z' b h1 h2 h3 h4 => ?_, hr.hp.inL, fun k z b h1 h2 => ?_⟩⟩, ⟨Kp.refl _ _, fun b h => .inl (hD _ b h)⟩⟩
      · show AR _ _ _ _ (((List.lookup k (s.fr.map _))).getD .junk) _
        rw [lookup_map]
        have h1 := hr.fr k trivial
        unfold ASt.get at h1
        cases hk : s.fr.lookup k with
        | none => exact .junk _
        | some x => rw [hk] at h1; exact har h1
      · by_cases ek : k = t'
        · subst ek
          rw [lookup_cons_eq] at ho
          cases ho
          obtain ⟨_, u, h1, h2⟩ := hr.hp.at' t o hlk
          exact ⟨ht', u, l0.trans h1, hor h2⟩
        · rw [lookup_cons_ne ek, lookup_map, lookup_filter2] at ho
          split at ho
          · cases ho
          · rename_i e2
            obtain ⟨o', h1, rfl⟩ := Option.map_eq_some_iff.1 ho
            obtain ⟨h2, u, h3, h4⟩ := hr.hp.at' k o' h1
            refine ⟨h2, u, ?_, hor h4⟩
            simp only [loc']
            rw [if_neg ek, if_neg (fun e => e2 (.inl e))]
            exact h3
      · by_cases ek : k = t'
        · subst ek; rw [lookup_cons_eq] at ho; cases ho
        · rw [lookup_cons_ne ek, lookup_map, lookup_filter2] at ho
          simp only [loc']
          rw [if_neg ek]
          split
          · rfl
          · rename_i e2
            rw [if_neg (fun e => e.elim e2 ek)] at ho
            exact hr.hp.dead k (by simpa using ho)
      · have f : ∀ {k z}, loc' k = some z → ∃ k2, loc k2 = some z ∧ ((k = t' ∧ k2 = t) ∨ (k2 = k ∧ k ≠ t ∧ k ≠ t')) := fun {k z} h => by
          rcases l1 k z h with ⟨e, h⟩ | ⟨e1, e2, h⟩
          · exact ⟨t, h, .inl ⟨e, rfl⟩⟩
          · exact ⟨k, h, .inr ⟨rfl, e1, e2⟩⟩
        obtain ⟨x, f1, f2⟩ := f h1
        obtain ⟨y, f3, f4⟩ := f h2
        have := hr.hp.apart x y z z' b f1 f3 h3 h4
        rcases f2 with ⟨g1, g2⟩ | ⟨g1, g2, g3⟩ <;> rcases f4 with ⟨g4, g5⟩ | ⟨g4, g5, g6⟩
        · rw [g1, g4]
        · exact absurd (g4.symm.trans (this.symm.trans g2)) g5
        · exact absurd (g1.symm.trans (this.trans g5)) g2
        · rw [← g1, ← g4, this]
      · rcases l1 k z h1 with ⟨_, h3⟩ | ⟨_, _, h3⟩
        · exact hr.hp.notL t z b h3 h2
        · exact hr.hp.notL k z b h3 h2
    · exact Weak.refl s
  · exact Weak.refl s

/-! ### Places get names -/
def AO.pin (b : Nat) : AO → AO
  | .boxP _ ty cs => .boxP (some b) ty cs
  | .map _ P k n f => .map (some b) P k n f
  | o => o
theorem T.pin {F : Fence} {P : Program} {c : Code} {Q : Exit → ASt → Prop} {s : ASt} (t : Nat) (o : AO) (hlk : s.hp.lookup t = some o) (h : ∀ b, T F P c Q { s with hp := setHp s.hp t (o.pin b) }) : T F P c Q s := fun L loc a w hr => by
  obtain ⟨htN, u, hu, hor⟩ := hr.hp.at' t o hlk
  have key : ∃ b, OR s.N (Dm L loc) loc w u (o.pin b) := by
    cases o with
    | boxP pin ty cs =>
      obtain ⟨b, arr, rfl, h1, h2, h3, h4, h5⟩ := hor
      exact ⟨b, b, arr, rfl, h1, h2, h3, h4, fun p e => by cases e; rfl⟩
    | map pin P k n f =>
      obtain ⟨b, D, rfl, h1, h2, h3⟩ := hor
      exact ⟨b, b, D, rfl, h1, h2, fun p e => by cases e; rfl⟩
    | row e n rows => exact ⟨0, hor⟩
    | raw u ob => exact ⟨0, hor⟩
    | lrec l sp fr => exact ⟨0, hor⟩
  obtain ⟨b, hb⟩ := key
  have hset : HRel L s.N (setHp s.hp t (o.pin b)) loc w := ⟨fun k ob ho => by
    rw [setHp_lookup] at ho
    by_cases e : k = t
    · subst e
      rw [if_pos rfl, hlk] at ho
      cases ho
      exact ⟨htN, u, hu, hb⟩
    · rw [if_neg e] at ho; exact hr.hp.at' k ob ho, fun k ho => by
    rw [setHp_lookup] at ho
    by_cases e : k = t
    · subst e; rw [if_pos rfl, hlk] at ho; cases ho
    · rw [if_neg e] at ho; exact hr.hp.dead k ho, hr.hp.apart, hr.hp.inL, hr.hp.notL⟩
  exact h b L loc a w ⟨hr.defers, hr.size, hr.fr, hset⟩

/-- A nil slice within a variable is the beginning of one that grows. -/
theorem Weak.newrowB (s : ASt) (t j e n : Nat) (pin : Option Nat) (ty : TypeId) (cs : List AV) (hlk : s.hp.lookup t = some (.boxP pin ty cs)) (hj : cs[j]? = some (.p (.val (.slice none 0 0)))) : Weak s { s with hp := (s.N, .row e n []) :: setHp s.hp t (.boxP pin ty (cs.set j (.own s.N))), N := s.N + 1 } := fun L loc a w hr => by
  have hb := Blw.refl w.heap.size w
  have htN := (hr.hp.at' t _ hlk).1
  have h1 := hr.add hb (.slice none 0 0) (.row e n []) (fun b e => by cases e) ⟨[], World.ownsRow_nil _ _ _ _, fun r hr => (by cases hr), fun k r j x h => (by simp at h), fun v hv => (by cases hv)⟩
  refine ⟨setLoc loc s.N (.slice none 0 0), ?_, .add hb _ _ (fun b e => by cases e)⟩
  have hlk2 : (s.add (.row e n [])).hp.lookup t = some (.boxP pin ty cs) := by
    show List.lookup t ((s.N, _) :: s.hp) = _
    rw [lookup_cons_ne (by omega)]; exact hlk
  obtain ⟨_, u, hu, b, arr, rfl, q1, q2, q3, q4, q5⟩ := h1.hp.at' t _ hlk2
  have h2 := h1.turn (o' := .boxP pin ty (cs.set j (.own s.N))) hlk2 hu rfl (Kp.refl _ _) ⟨b, arr, rfl, q1, by simpa using q2, fun i x hx => ?_, q4, q5⟩
  · have e2 : setHp (s.add (.row e n [])).hp t (.boxP pin ty (cs.set j (.own s.N))) = (s.N, .row e n []) :: setHp s.hp t (.boxP pin ty (cs.set j (.own s.N))) := by
      show setHp ((s.N, _) :: s.hp) t _ = _
      simp only [setHp, List.map_cons]
      rw [if_neg (by omega)]
    rw [← e2]
    exact h2
  · rw [List.getElem?_set] at hx
    split at hx
    · rename_i e1
      subst e1
      split at hx
      · cases hx
        have h5 := (q3 j _ hj).val
        rw [h5]
        exact .own s.N _ (Nat.lt_succ_self _) rfl fun z hz => by rw [setLoc_same] at hz; cases hz; rfl
      · cases hx
    · exact q3 i x hx
/-- A variable that is data from here on: its pointers are pointers to data. -/
def AV.dat (t : Nat) (row : List PV) : AV → AV
  | .ptr t' k => if t' = t then .elt row k else .ptr t' k
  | .own t' => if t' = t then .junk else .own t'
  | .rptr t' n i j => if t' = t then .junk else .rptr t' n i j
  | .pre t' m => if t' = t then .junk else .pre t' m
  | .fn f cs => .fn f (cs.attach.map fun ⟨c, _⟩ => AV.dat t row c)
  | .agg cs => .agg (cs.attach.map fun ⟨c, _⟩ => AV.dat t row c)
  | .tup cs => .tup (cs.attach.map fun ⟨c, _⟩ => AV.dat t row c)
  | x => x
theorem AV.dat_ptr (t : Nat) (row : List PV) (k j : Nat) : AV.dat t row (.ptr k j) = if k = t then .elt row j else .ptr k j := by simp [AV.dat]
theorem AV.dat_own (t : Nat) (row : List PV) (k : Nat) : AV.dat t row (.own k) = if k = t then .junk else .own k := by simp [AV.dat]
theorem AV.dat_rptr (t : Nat) (row : List PV) (k n i j : Nat) : AV.dat t row (.rptr k n i j) = if k = t then .junk else .rptr k n i j := by simp [AV.dat]
theorem AV.dat_pre (t : Nat) (row : List PV) (k j : Nat) : AV.dat t row (.pre k j) = if k = t then .junk else .pre k j := by simp [AV.dat]
theorem AV.dat_p (t : Nat) (row : List PV) (x : PV) : AV.dat t row (.p x) = .p x := by simp [AV.dat]
theorem AV.dat_elt (t : Nat) (row : List PV) (r : List PV) (k : Nat) : AV.dat t row (.elt r k) = .elt r k := by simp [AV.dat]
theorem AV.dat_junk (t : Nat) (row : List PV) : AV.dat t row .junk = .junk := by simp [AV.dat]
theorem AV.dat_cap0 (t : Nat) (row : List PV) : AV.dat t row .cap0 = .cap0 := by simp [AV.dat]
theorem AV.dat_fn (t : Nat) (row : List PV) (f : Fn) (cs : List AV) : AV.dat t row (.fn f cs) = .fn f (cs.map (AV.dat t row)) := by simp [AV.dat]
theorem AV.dat_agg (t : Nat) (row : List PV) (cs : List AV) : AV.dat t row (.agg cs) = .agg (cs.map (AV.dat t row)) := by simp [AV.dat]
theorem AV.dat_tup (t : Nat) (row : List PV) (cs : List AV) : AV.dat t row (.tup cs) = .tup (cs.map (AV.dat t row)) := by simp [AV.dat]
theorem AR.dat {N : Nat} {D : Nat → Prop} {loc loc' : Nat → Option Value} {w : World} {t b : Nat} {row : List PV} {x : AV} {v : Value} (h : AR N D loc w x v) {D' : Nat → Prop} (hD : ∀ k, D' k → D k) (h0 : loc t = some (.pointer (some ⟨b, 0, none⟩))) (h1 : ∀ k u, loc' k = some u → k ≠ t ∧ loc k = some u)
    (hrow : ∀ j, AR N D' loc' w (.elt row j) (.pointer (some ⟨b, j, none⟩))) : AR N D' loc' w (AV.dat t row x) v := by
  induction h with
  | p x v h => rw [AV.dat_p]; exact .p x v (h.mono (Kp.refl _ _) fun k _ h => hD k h)
  | elt r off b o f hb hnD hc hr => rw [AV.dat_elt]; exact .elt r off b o f hb (fun h => hnD (hD _ h)) hc fun j x h => (hr j x h).mono (Kp.refl _ _) fun k _ h => hD k h
  | ptr k off v ht g h =>
    rw [AV.dat_ptr]
    split
    · rename_i e; subst e; rw [h b h0]; exact hrow off
    · exact .ptr k off v ht g fun b' hb => h b' (h1 k _ hb).2
  | rptr k n i off v ht g h =>
    rw [AV.dat_rptr]
    split
    · exact .junk _
    · exact .rptr k n i off v ht g fun b' l c hb => h b' l c (h1 k _ hb).2
  | own k v ht g h =>
    rw [AV.dat_own]
    split
    · exact .junk _
    · exact .own k v ht g fun u hu => h u (h1 k _ hu).2
  | pre k j v ht g h =>
    rw [AV.dat_pre]
    split
    · exact .junk _
    · exact .pre k j v ht g fun b' l c hb => h b' l c (h1 k _ hb).2
  | fn f caps vs hlen _ ih =>
    rw [AV.dat_fn]
    refine .fn f _ vs (by simpa using hlen) fun j x hx => ?_
    simp only [List.getElem?_map, Option.map_eq_some_iff] at hx
    obtain ⟨c, hc, rfl⟩ := hx
    exact ih j c hc
  | agg cs vs hlen _ g1 ih =>
    rw [AV.dat_agg]
    refine .agg _ vs (by simpa using hlen) (fun j x hx => ?_) g1
    simp only [List.getElem?_map, Option.map_eq_some_iff] at hx
    obtain ⟨c, hc, rfl⟩ := hx
    exact ih j c hc
  | tup cs vs hlen _ ih =>
    rw [AV.dat_tup]
    refine .tup _ vs (by simpa using hlen) fun j x hx => ?_
    simp only [List.getElem?_map, Option.map_eq_some_iff] at hx
    obtain ⟨c, hc, rfl⟩ := hx
    exact ih j c hc
  | cap0 a h => rw [AV.dat_cap0]; exact .cap0 a fun x hx => ⟨(h x hx).1, fun hd => (h x hx).2.1 (hD _ hd), (h x hx).2.2⟩
  | junk v => rw [AV.dat_junk]; exact .junk v
def AO.dat (t : Nat) (row : List PV) : AO → AO
  | .boxP pin ty cs => .boxP pin ty (cs.map (AV.dat t row))
  | .row e n rows => .row e n rows
  | .map pin P k n f => .map pin P k n f
  | .raw u ob => .raw u ob
  | .lrec l sp fr => .lrec l sp (fr.map fun p => (p.1, AV.dat t row p.2))
theorem Weak.dat (s : ASt) (t : Nat) (pin : Option Nat) (ty : TypeId) (row : List PV) (hlk : s.hp.lookup t = some (.boxP pin ty (row.map .p))) : Weak s { s with fr := s.fr.map fun p => (p.1, p.2.dat t row), hp := (s.hp.filter fun p => p.1 != t).map fun p => (p.1, p.2.dat t row) } := fun L loc a w hr => by
  obtain ⟨htN, u, hu, b, arr, rfl, q1, q2, q3, q4, q5⟩ := hr.hp.at' t _ hlk
  let loc' : Nat → Option Value := fun k => if k = t then none else loc k
  have l1 : ∀ k u, loc' k = some u → k ≠ t ∧ loc k = some u := fun k u h => by
    simp only [loc'] at h
    split at h
    · cases h
    · rename_i e; exact ⟨e, h⟩
  have hD : ∀ M : Nat → Prop, ∀ k, Dm M loc' k → Dm M loc k := fun M k h => h.imp id fun ⟨k', z, h1, h2⟩ => ⟨k', z, (l1 k' z h1).2, h2⟩
  have hnb : ¬ Dm L loc' b := fun h => by
    rcases h with h | ⟨k, z, h1, h2⟩
    · exact hr.hp.notL t _ b hu rfl h
    · exact (l1 k z h1).1 (hr.hp.apart k t z _ b (l1 k z h1).2 hu h2 rfl)
  have hrow : ∀ j, AR s.N (Dm L loc') loc' w (.elt row j) (.pointer (some ⟨b, j, none⟩)) := fun j => by
    have := AR.elt (N := s.N) (D := Dm L loc') (loc := loc') (w := w) row j b 0 (fun i => arr.getD i undef) (Array.getElem?_eq_some_iff.1 q1).1 hnb (fun i x hx => by
      have hlt := (List.getElem?_eq_some_iff.1 hx).1
      have hsz : i < arr.size := by rw [q2]; simpa using hlt
      rw [row_cells q1, Array.getD_eq_getD_getElem?, Nat.zero_add, Array.getElem?_eq_getElem hsz]; rfl) (fun i x hx => by
      have h5 := q3 i (.p x) (by simp [hx])
      cases h5 with
      | p _ _ h6 => exact h6.mono (Kp.refl _ _) fun k _ h => hD L k h)
    rwa [Nat.zero_add] at this
  have har : ∀ {x : AV} {v : Value}, AR s.N (Dm L loc) loc w x v → AR s.N (Dm L loc') loc' w (x.dat t row) v := fun h => h.dat (hD L) hu l1 hrow
  refine ⟨loc', ⟨hr.defers, hr.size, fun k _ => ?_, ⟨fun k ob ho => ?_, fun k ho => ?_, fun k k' z z' b h1 h2 => hr.hp.apart k k' z z' b (l1 k z h1).2 (l1 k' z' h2).2, hr.hp.inL, fun k z b h1 => hr.hp.notL k z b (l1 k z h1).2⟩⟩, ⟨Kp.refl _ _, fun b h => .inl (hD _ b h)⟩⟩
  · show AR _ _ _ _ (((List.lookup k (s.fr.map _))).getD .junk) _
    rw [lookup_map]
    have h1 := hr.fr k trivial
    unfold ASt.get at h1
    cases hk : s.fr.lookup k with
    | none => exact .junk _
    | some x => rw [hk] at h1; exact har h1
  · change List.lookup k ((s.hp.filter _).map _) = some ob at ho
    rw [lookup_map, lookup_filter] at ho
    split at ho
    · cases ho
    · rename_i ek
      obtain ⟨o', h1, rfl⟩ := Option.map_eq_some_iff.1 ho
      obtain ⟨h2, z, h3, h4⟩ := hr.hp.at' k o' h1
      refine ⟨h2, z, by simp [loc', ek, h3], ?_⟩
      cases o' with
      | boxP pin ty cs =>
        obtain ⟨b, arr, rfl, q1, q2, q3, q4⟩ := h4
        refine ⟨b, arr, rfl, q1, by simpa [AO.dat] using q2, fun j x hx => ?_, q4⟩
        simp only [List.getElem?_map, Option.map_eq_some_iff] at hx
        obtain ⟨c, hc, rfl⟩ := hx
        exact har (q3 j c hc)
      | row e' n' rows' =>
        obtain ⟨fl, q1, q2, q3, q4⟩ := h4
        exact ⟨fl, q1, q2, fun i r j x h1 h2 => let ⟨v, h5, h6⟩ := q3 i r j x h1 h2; ⟨v, h5, h6.mono (Kp.refl _ _) fun k _ h => hD L k h⟩, q4⟩
      | map pin P k n f => exact h4
      | raw u ob => exact h4
      | lrec l sp fr =>
        obtain ⟨rfl, tmps, q1, q2, q3⟩ := h4
        refine ⟨rfl, tmps, q1, q2, fun i => ?_⟩
        rw [lookup_map]
        have h5 := q3 i
        cases hf : fr.lookup i with
        | none => exact .junk _
        | some x => rw [hf] at h5; exact har h5
  · change List.lookup k ((s.hp.filter _).map _) = none at ho
    rw [lookup_map, lookup_filter] at ho
    simp only [loc']
    split
    · rfl
    · rename_i ek
      rw [if_neg ek] at ho
      exact hr.hp.dead k (by simpa using ho)
end Go.Proofs.Ytbhkcejjehgfcaa
