/- Texts At, Au, Ax, Ty, Da, Db, Dv, Mb, Mc. -/
import Derived.RangeFuncOwn
import Derived.Test.YtbhkcejjehgfcaaZ03
namespace Go.Proofs.Ytbhkcejjehgfcaa
open Go.RowKit Go.Sort
set_option linter.unusedSimpArgs false
set_option linter.unusedVariables false
def AV.cut (t m : Nat) : AV → AV
  | .own t' => if t' = t then .junk else .own t'
  | .pre t' m' => if t' = t ∧ m' = m then .own t' else .pre t' m'
  | .fn f cs => .fn f (cs.attach.map fun ⟨c, _⟩ => AV.cut t m c)
  | .agg cs => .agg (cs.attach.map fun ⟨c, _⟩ => AV.cut t m c)
  | .tup cs => .tup (cs.attach.map fun ⟨c, _⟩ => AV.cut t m c)
  | x => x
theorem AV.cut_own (t m k : Nat) : AV.cut t m (.own k) = if k = t then .junk else .own k := by simp [AV.cut]
theorem AV.cut_pre (t m k j : Nat) : AV.cut t m (.pre k j) = if k = t ∧ j = m then .own k else .pre k j := by simp [AV.cut]
theorem AV.cut_ptr (t m k j : Nat) : AV.cut t m (.ptr k j) = .ptr k j := by simp [AV.cut]
theorem AV.cut_rptr (t m k j i l : Nat) : AV.cut t m (.rptr k j i l) = .rptr k j i l := by simp [AV.cut]
theorem AV.cut_p (t m : Nat) (x : PV) : AV.cut t m (.p x) = .p x := by simp [AV.cut]
theorem AV.cut_elt (t m : Nat) (r : List PV) (k : Nat) : AV.cut t m (.elt r k) = .elt r k := by simp [AV.cut]
theorem AV.cut_junk (t m : Nat) : AV.cut t m .junk = .junk := by simp [AV.cut]
theorem AV.cut_cap0 (t m : Nat) : AV.cut t m .cap0 = .cap0 := by simp [AV.cut]
theorem AV.cut_fn (t m : Nat) (f : Fn) (cs : List AV) : AV.cut t m (.fn f cs) = .fn f (cs.map (AV.cut t m)) := by simp [AV.cut]
theorem AV.cut_agg (t m : Nat) (cs : List AV) : AV.cut t m (.agg cs) = .agg (cs.map (AV.cut t m)) := by simp [AV.cut]
theorem AV.cut_tup (t m : Nat) (cs : List AV) : AV.cut t m (.tup cs) = .tup (cs.map (AV.cut t m)) := by simp [AV.cut]
theorem AR.cut {N : Nat} {D : Nat → Prop} {loc loc' : Nat → Option Value} {w : World} {t m b l c : Nat} {x : AV} {v : Value} (h : AR N D loc w x v) {D' : Nat → Prop} (hD : ∀ k, D' k → D k) (h0 : loc t = some (.slice (some ⟨b, 0, none⟩) l c)) (h1 : loc' t = some (.slice (some ⟨b, 0, none⟩) m c)) (h2 : ∀ k, k ≠ t → loc' k = loc k) : AR N D' loc' w (AV.cut t m x) v := by
  induction h with
  | p x v h => rw [AV.cut_p]; exact .p x v (h.mono (Kp.refl _ _) fun k _ h => hD k h)
  | elt row off b o f hb hnD hc hr => rw [AV.cut_elt]; exact .elt row off b o f hb (fun h => hnD (hD _ h)) hc fun j x h => (hr j x h).mono (Kp.refl _ _) fun k _ h => hD k h
  | ptr k off v ht g h =>
    rw [AV.cut_ptr]
    refine .ptr k off v ht g fun b' hb => ?_
    by_cases e : k = t
    · subst e; rw [h1] at hb; cases hb
    · exact h b' ((h2 k e) ▸ hb)
  | rptr k n i off v ht g h =>
    rw [AV.cut_rptr]
    refine .rptr k n i off v ht g fun b' l' c' hb => ?_
    by_cases e : k = t
    · subst e; rw [h1] at hb; cases hb; exact h _ _ _ h0
    · exact h b' l' c' ((h2 k e) ▸ hb)
  | own k v ht g h =>
    rw [AV.cut_own]
    split
    · exact .junk _
    · rename_i e; exact .own k v ht g fun u hu => h u ((h2 k e) ▸ hu)
  | pre k j v ht g h =>
    rw [AV.cut_pre]
    split
    · rename_i e
      obtain ⟨rfl, rfl⟩ := e
      refine .own k v ht g fun u hu => ?_
      rw [h1] at hu; cases hu; exact h _ _ _ h0
    · refine .pre k j v ht g fun b' l' c' hb => ?_
      by_cases e : k = t
      · subst e; rw [h1] at hb; cases hb; exact h _ _ _ h0
      · exact h b' l' c' ((h2 k e) ▸ hb)
  | fn f caps vs hlen _ ih =>
    rw [AV.cut_fn]
    refine .fn f _ vs (by simpa using hlen) fun j x hx => ?_
    simp only [List.getElem?_map, Option.map_eq_some_iff] at hx
    obtain ⟨c, hc, rfl⟩ := hx
    exact ih j c hc
  | agg cs vs hlen _ h1 ih =>
    rw [AV.cut_agg]
    refine .agg _ vs (by simpa using hlen) (fun j x hx => ?_) h1
    simp only [List.getElem?_map, Option.map_eq_some_iff] at hx
    obtain ⟨c, hc, rfl⟩ := hx
    exact ih j c hc
  | tup cs vs hlen _ ih =>
    rw [AV.cut_tup]
    refine .tup _ vs (by simpa using hlen) fun j x hx => ?_
    simp only [List.getElem?_map, Option.map_eq_some_iff] at hx
    obtain ⟨c, hc, rfl⟩ := hx
    exact ih j c hc
  | cap0 a h => rw [AV.cut_cap0]; exact .cap0 a fun x hx => ⟨(h x hx).1, fun hd => (h x hx).2.1 (hD _ hd), (h x hx).2.2⟩
  | junk v => rw [AV.cut_junk]; exact .junk v
def AO.cut (t m : Nat) : AO → AO
  | .boxP pin ty cs => .boxP pin ty (cs.map (AV.cut t m))
  | .row e n rows => .row e n rows
  | .map pin P k n f => .map pin P k n f
  | .raw u ob => .raw u ob
  | .lrec l sp fr => .lrec l sp (fr.map fun p => (p.1, AV.cut t m p.2))
  | .amap P k n f => .amap P k n fun l => (f l).map (AV.cut t m)
def ASt.cut (s : ASt) (t m : Nat) : ASt := match s.hp.lookup t with
  | some (.row e n rows) => if m ≤ rows.length ∧ 0 < rows.length then { s with fr := s.fr.map fun p => (p.1, p.2.cut t m), hp := setHp (s.hp.map fun p => (p.1, p.2.cut t m)) t (.row e n (rows.take m)) } else s
  | _ => s
theorem Weak.cut (s : ASt) (t m : Nat) : Weak s (s.cut t m) := by
  unfold ASt.cut
  split
  · rename_i e n rows hlk
    split
    · rename_i hc
      obtain ⟨hm, h0⟩ := hc
      intro L loc a w hr
      obtain ⟨htN, u, hu, flat, hown, hrn, hfl, hone⟩ := hr.hp.at' t _ hlk
      rcases hown.2 with ⟨_, h⟩ | ⟨g, cap, cur, rfl, g1, g2, g3, g4, g5, g6⟩
      · omega
      · let loc' : Nat → Option Value := setLoc loc t (.slice (some ⟨g, 0, none⟩) m cap)
        have l0 : loc' t = some (.slice (some ⟨g, 0, none⟩) m cap) := setLoc_same _ _ _
        have l1 : ∀ k, k ≠ t → loc' k = loc k := fun k hk => setLoc_other _ _ hk
        have blk : ∀ k z, loc' k = some z → ∃ z', loc k = some z' ∧ blkOf z' = blkOf z := fun k z hz => by
          by_cases ek : k = t
          · subst ek; rw [l0] at hz; cases hz; exact ⟨_, hu, rfl⟩
          · exact ⟨z, (l1 k ek) ▸ hz, rfl⟩
        have hD : ∀ M : Nat → Prop, ∀ k, Dm M loc' k → Dm M loc k := fun M k h => h.imp id fun ⟨k', z, h1, h2⟩ => let ⟨z', h3, h4⟩ := blk k' z h1; ⟨k', z', h3, h4.trans h2⟩
        have hcut : ∀ {x : AV} {v : Value}, AR s.N (Dm L loc) loc w x v → AR s.N (Dm L loc') loc' w (x.cut t m) v := fun h => h.cut (hD L) hu l0 l1
        refine ⟨loc', ⟨hr.defers, hr.size, fun k _ => ?_, ⟨fun k o ho => ?_, fun k ho => ?_, fun k k' z z' b h1 h2 h3 h4 => ?_, hr.hp.inL, fun k z b h1 h2 => ?_⟩⟩, ⟨Kp.refl _ _, fun b h => .inl (hD _ b h)⟩⟩
        · show AR _ _ _ _ (((List.lookup k (s.fr.map _))).getD .junk) _
          rw [lookup_map]
          have h1 := hr.fr k trivial
          unfold ASt.get at h1
          cases hk : s.fr.lookup k with
          | none => exact .junk _
          | some x => rw [hk] at h1; exact hcut h1
        · change (setHp _ _ _).lookup k = some o at ho
          rw [setHp_lookup, lookup_map, lookup_map] at ho
          by_cases ek : k = t
          · subst ek
            rw [if_pos rfl, hlk] at ho
            cases ho
            have hl : (flat.take (m * n)).length = m * n := by
              rw [List.length_take, hown.1]; exact Nat.min_eq_left (Nat.mul_le_mul_right n hm)
            refine ⟨htN, _, l0, flat.take (m * n), ⟨by rw [hl, List.length_take, Nat.min_eq_left hm], .inr ⟨g, cap, cur, by rw [List.length_take, Nat.min_eq_left hm], g1, g2, by rw [List.length_take, Nat.min_eq_left hm]; omega, g4, g5, ?_⟩⟩, fun r hr' => hrn r (List.mem_of_mem_take hr'), fun i r j x h1 h2 => ?_, fun v hv => hone v (List.mem_of_mem_take hv)⟩
            · rw [List.length_take, Nat.min_eq_left hm, ← g6, List.take_take, Nat.min_eq_left (Nat.mul_le_mul_right n hm)]
            · rw [List.getElem?_take] at h1
              split at h1
              · rename_i hi
                obtain ⟨v, h3, h4⟩ := hfl i r j x h1 h2
                refine ⟨v, ?_, h4.mono (Kp.refl _ _) fun k _ h => hD L k h⟩
                have hj := (List.getElem?_eq_some_iff.1 h2).1
                rw [hrn r (List.mem_of_getElem? h1)] at hj
                have : (i + 1) * n ≤ m * n := Nat.mul_le_mul_right n hi
                rw [Nat.add_mul] at this
                rw [List.getElem?_take, if_pos (by omega)]
                exact h3
              · cases h1
          · rw [if_neg ek] at ho
            obtain ⟨o', h1, rfl⟩ := Option.map_eq_some_iff.1 ho
            obtain ⟨h2, z, h3, h4⟩ := hr.hp.at' k o' h1
            refine ⟨h2, z, (l1 k ek).trans h3, ?_⟩
            cases o' with
            | boxP pin ty cs =>
              obtain ⟨b, arr, rfl, q1, q2, q3, q4⟩ := h4
              refine ⟨b, arr, rfl, q1, by simpa [AO.cut] using q2, fun j x hx => ?_, q4⟩
              simp only [List.getElem?_map, Option.map_eq_some_iff] at hx
              obtain ⟨c, hc, rfl⟩ := hx
              exact hcut (q3 j c hc)
            | row e' n' rows' =>
              obtain ⟨fl, q1, q2, q3, q4⟩ := h4
              exact ⟨fl, q1, q2, fun i r j x h1 h2 => let ⟨v, h5, h6⟩ := q3 i r j x h1 h2; ⟨v, h5, h6.mono (Kp.refl _ _) fun k _ h => hD L k h⟩, q4⟩
            | map pin P k n f => exact h4
            | raw u ob => exact h4
            | amap P k n f =>
              obtain ⟨b, DD, g, rfl, q1, q2, q3⟩ := h4
              refine ⟨b, DD, g, rfl, q1, q2, fun kl => ⟨fun x hx => ?_, fun hx => (q3 kl).2 (by simpa using hx)⟩⟩
              obtain ⟨x', hx', rfl⟩ := Option.map_eq_some_iff.1 hx
              obtain ⟨v, k1, k2⟩ := (q3 kl).1 x' hx'
              exact ⟨v, k1, hcut k2⟩
            | lrec l sp fr =>
              obtain ⟨rfl, tmps, q1, q2, q3⟩ := h4
              refine ⟨rfl, tmps, q1, q2, fun i => ?_⟩
              rw [lookup_map]
              have h5 := q3 i
              cases hf : fr.lookup i with
              | none => exact .junk _
              | some x => rw [hf] at h5; exact hcut h5
        · change (setHp _ _ _).lookup k = none at ho
          rw [setHp_lookup, lookup_map, lookup_map] at ho
          by_cases ek : k = t
          · subst ek; rw [if_pos rfl, hlk] at ho; cases ho
          · rw [if_neg ek] at ho
            rw [l1 k ek]
            exact hr.hp.dead k (by simpa using ho)
        · obtain ⟨y, f1, f2⟩ := blk k z h1
          obtain ⟨y', f3, f4⟩ := blk k' z' h2
          exact hr.hp.apart k k' y y' b f1 f3 (f2.trans h3) (f4.trans h4)
        · obtain ⟨y, f1, f2⟩ := blk k z h1
          exact hr.hp.notL k y b f1 (f2.trans h2)
    · exact Weak.refl s
  · exact Weak.refl s
def AV.ren (t t' : Nat) : AV → AV
  | .own k => if k = t then .own t' else if k = t' then .junk else .own k
  | .ptr k j => if k = t then .ptr t' j else if k = t' then .junk else .ptr k j
  | .rptr k n i j => if k = t then .rptr t' n i j else if k = t' then .junk else .rptr k n i j
  | .pre k j => if k = t then .pre t' j else if k = t' then .junk else .pre k j
  | .fn f cs => .fn f (cs.attach.map fun ⟨c, _⟩ => AV.ren t t' c)
  | .agg cs => .agg (cs.attach.map fun ⟨c, _⟩ => AV.ren t t' c)
  | .tup cs => .tup (cs.attach.map fun ⟨c, _⟩ => AV.ren t t' c)
  | x => x
theorem AV.ren_own (t t' k : Nat) : AV.ren t t' (.own k) = if k = t then .own t' else if k = t' then .junk else .own k := by simp [AV.ren]
theorem AV.ren_ptr (t t' k j : Nat) : AV.ren t t' (.ptr k j) = if k = t then .ptr t' j else if k = t' then .junk else .ptr k j := by simp [AV.ren]
theorem AV.ren_rptr (t t' k n i j : Nat) : AV.ren t t' (.rptr k n i j) = if k = t then .rptr t' n i j else if k = t' then .junk else .rptr k n i j := by simp [AV.ren]
theorem AV.ren_pre (t t' k j : Nat) : AV.ren t t' (.pre k j) = if k = t then .pre t' j else if k = t' then .junk else .pre k j := by simp [AV.ren]
theorem AV.ren_p (t t' : Nat) (x : PV) : AV.ren t t' (.p x) = .p x := by simp [AV.ren]
theorem AV.ren_elt (t t' : Nat) (r : List PV) (k : Nat) : AV.ren t t' (.elt r k) = .elt r k := by simp [AV.ren]
theorem AV.ren_junk (t t' : Nat) : AV.ren t t' .junk = .junk := by simp [AV.ren]
theorem AV.ren_cap0 (t t' : Nat) : AV.ren t t' .cap0 = .cap0 := by simp [AV.ren]
theorem AV.ren_fn (t t' : Nat) (f : Fn) (cs : List AV) : AV.ren t t' (.fn f cs) = .fn f (cs.map (AV.ren t t')) := by simp [AV.ren]
theorem AV.ren_agg (t t' : Nat) (cs : List AV) : AV.ren t t' (.agg cs) = .agg (cs.map (AV.ren t t')) := by simp [AV.ren]
theorem AV.ren_tup (t t' : Nat) (cs : List AV) : AV.ren t t' (.tup cs) = .tup (cs.map (AV.ren t t')) := by simp [AV.ren]
theorem AR.ren {N : Nat} {D : Nat → Prop} {loc loc' : Nat → Option Value} {w : World} {t t' : Nat} {x : AV} {v : Value} (h : AR N D loc w x v) {D' : Nat → Prop} (hD : ∀ k, D' k → D k) (ht' : t' < N) (h0 : loc' t' = loc t) (h1 : ∀ k u, k ≠ t → k ≠ t' → loc' k = some u → loc k = some u) : AR N D' loc' w (AV.ren t t' x) v := by
  induction h with
  | p x v h => rw [AV.ren_p]; exact .p x v (h.mono (Kp.refl _ _) fun k _ h => hD k h)
  | elt row off b o f hb hnD hc hr => rw [AV.ren_elt]; exact .elt row off b o f hb (fun h => hnD (hD _ h)) hc fun j x h => (hr j x h).mono (Kp.refl _ _) fun k _ h => hD k h
  | ptr k off v ht g h =>
    rw [AV.ren_ptr]
    split
    · rename_i e; subst e; exact .ptr t' off v ht' g fun b hb => h b (h0 ▸ hb)
    · rename_i e; split
      · exact .junk _
      · rename_i e'; exact .ptr k off v ht g fun b hb => h b (h1 k _ e e' hb)
  | rptr k n i off v ht g h =>
    rw [AV.ren_rptr]
    split
    · rename_i e; subst e; exact .rptr t' n i off v ht' g fun b l c hb => h b l c (h0 ▸ hb)
    · rename_i e; split
      · exact .junk _
      · rename_i e'; exact .rptr k n i off v ht g fun b l c hb => h b l c (h1 k _ e e' hb)
  | own k v ht g h =>
    rw [AV.ren_own]
    split
    · rename_i e; subst e; exact .own t' v ht' g fun u hu => h u (h0 ▸ hu)
    · rename_i e; split
      · exact .junk _
      · rename_i e'; exact .own k v ht g fun u hu => h u (h1 k _ e e' hu)
  | pre k j v ht g h =>
    rw [AV.ren_pre]
    split
    · rename_i e; subst e; exact .pre t' j v ht' g fun b l c hb => h b l c (h0 ▸ hb)
    · rename_i e; split
      · exact .junk _
      · rename_i e'; exact .pre k j v ht g fun b l c hb => h b l c (h1 k _ e e' hb)
  | fn f caps vs hlen _ ih =>
    rw [AV.ren_fn]
    refine .fn f _ vs (by simpa using hlen) fun j x hx => ?_
    simp only [List.getElem?_map, Option.map_eq_some_iff] at hx
    obtain ⟨c, hc, rfl⟩ := hx
    exact ih j c hc
  | agg cs vs hlen _ h1 ih =>
    rw [AV.ren_agg]
    refine .agg _ vs (by simpa using hlen) (fun j x hx => ?_) h1
    simp only [List.getElem?_map, Option.map_eq_some_iff] at hx
    obtain ⟨c, hc, rfl⟩ := hx
    exact ih j c hc
  | tup cs vs hlen _ ih =>
    rw [AV.ren_tup]
    refine .tup _ vs (by simpa using hlen) fun j x hx => ?_
    simp only [List.getElem?_map, Option.map_eq_some_iff] at hx
    obtain ⟨c, hc, rfl⟩ := hx
    exact ih j c hc
  | cap0 a h => rw [AV.ren_cap0]; exact .cap0 a fun x hx => ⟨(h x hx).1, fun hd => (h x hx).2.1 (hD _ hd), (h x hx).2.2⟩
  | junk v => rw [AV.ren_junk]; exact .junk v
def AO.ren (t t' : Nat) : AO → AO
  | .boxP pin ty cs => .boxP pin ty (cs.map (AV.ren t t'))
  | .row e n rows => .row e n rows
  | .map pin P k n f => .map pin P k n f
  | .raw u ob => .raw u ob
  | .lrec l sp fr => .lrec l sp (fr.map fun p => (p.1, AV.ren t t' p.2))
  | .amap P k n f => .amap P k n fun l => (f l).map (AV.ren t t')
def ASt.ren (s : ASt) (t t' : Nat) : ASt := match s.hp.lookup t with
  | some o => if t' < s.N ∧ t ≠ t' then { s with fr := s.fr.map fun p => (p.1, p.2.ren t t'), hp := (t', o.ren t t') :: (s.hp.filter fun p => p.1 != t && p.1 != t').map fun p => (p.1, p.2.ren t t') } else s
  | none => s
theorem lookup_filter2 {α : Type} (l : List (Nat × α)) (t t' k : Nat) : (l.filter fun p => p.1 != t && p.1 != t').lookup k = if k = t ∨ k = t' then none else l.lookup k := by
  induction l with
  | nil => simp
  | cons p r ih =>
    obtain ⟨j, x⟩ := p
    by_cases ek : k = j
    · subst ek
      by_cases h : k = t ∨ k = t'
      · rw [if_pos h, List.filter_cons, if_neg (by simp; intro h1; exact h.resolve_left h1), ih, if_pos h]
      · rw [if_neg h, List.filter_cons, if_pos (by simp; exact ⟨fun e => h (.inl e), fun e => h (.inr e)⟩), lookup_cons_eq, lookup_cons_eq]
    · rw [lookup_cons_ne ek, ← ih, List.filter_cons]
      split
      · rw [lookup_cons_ne ek]
      · rfl
theorem Weak.ren (s : ASt) (t t' : Nat) : Weak s (s.ren t t') := by
  unfold ASt.ren
  split
  · rename_i o hlk
    split
    · rename_i hc
      obtain ⟨ht', hne⟩ := hc
      intro L loc a w hr
      let loc' : Nat → Option Value := fun k => if k = t' then loc t else if k = t then none else loc k
      have l0 : loc' t' = loc t := by simp [loc']
      have l1 : ∀ k u, loc' k = some u → (k = t' ∧ loc t = some u) ∨ (k ≠ t ∧ k ≠ t' ∧ loc k = some u) := fun k u h => by
        simp only [loc'] at h
        split at h
        · rename_i e; exact .inl ⟨e, h⟩
        · rename_i e; split at h
          · cases h
          · rename_i e2; exact .inr ⟨e2, e, h⟩
      have hD : ∀ M : Nat → Prop, ∀ k, Dm M loc' k → Dm M loc k := fun M k h => h.imp id fun ⟨k', z, h1, h2⟩ => by
        rcases l1 k' z h1 with ⟨_, h3⟩ | ⟨_, _, h3⟩
        · exact ⟨t, z, h3, h2⟩
        · exact ⟨k', z, h3, h2⟩
      have har : ∀ {x : AV} {v : Value}, AR s.N (Dm L loc) loc w x v → AR s.N (Dm L loc') loc' w (x.ren t t') v := fun h => h.ren (hD L) ht' l0 fun k u e1 e2 hu => by
        rcases l1 k u hu with ⟨e, _⟩ | ⟨_, _, h⟩
        · exact absurd e e2
        · exact h
      have hor : ∀ {u : Value} {o : AO}, OR s.N (Dm L loc) loc w u o → OR s.N (Dm L loc') loc' w u (o.ren t t') := fun {u o} h4 => by
        cases o with
        | boxP pin ty cs =>
          obtain ⟨b, arr, rfl, q1, q2, q3, q4⟩ := h4
          refine ⟨b, arr, rfl, q1, by simpa [AO.ren] using q2, fun j x hx => ?_, q4⟩
          simp only [List.getElem?_map, Option.map_eq_some_iff] at hx
          obtain ⟨c, hc, rfl⟩ := hx
          exact har (q3 j c hc)
        | row e' n' rows' =>
          obtain ⟨fl, q1, q2, q3, q4⟩ := h4
          exact ⟨fl, q1, q2, fun i r j x h1 h2 => let ⟨v, h5, h6⟩ := q3 i r j x h1 h2; ⟨v, h5, h6.mono (Kp.refl _ _) fun k _ h => hD L k h⟩, q4⟩
        | map pin P k n f => exact h4
        | raw u ob => exact h4
        | amap P k n f =>
          obtain ⟨b, DD, g, rfl, q1, q2, q3⟩ := h4
          refine ⟨b, DD, g, rfl, q1, q2, fun kl => ⟨fun x hx => ?_, fun hx => (q3 kl).2 (by simpa using hx)⟩⟩
          obtain ⟨x', hx', rfl⟩ := Option.map_eq_some_iff.1 hx
          obtain ⟨v, k1, k2⟩ := (q3 kl).1 x' hx'
          exact ⟨v, k1, har k2⟩
        | lrec l sp fr =>
          obtain ⟨rfl, tmps, q1, q2, q3⟩ := h4
          refine ⟨rfl, tmps, q1, q2, fun i => ?_⟩
          rw [lookup_map]
          have h5 := q3 i
          cases hf : fr.lookup i with
          | none => exact .junk _
          | some x => rw [hf] at h5; exact har h5
      refine ⟨loc', ⟨hr.defers, hr.size, fun k _ => ?_, ⟨fun k ob ho => ?_, fun k ho => ?_, fun k k' z z' b h1 h2 h3 h4 => ?_, hr.hp.inL, fun k z b h1 h2 => ?_⟩⟩, ⟨Kp.refl _ _, fun b h => .inl (hD _ b h)⟩⟩
      · show AR _ _ _ _ (((List.lookup k (s.fr.map _))).getD .junk) _
        rw [lookup_map]
        have h1 := hr.fr k trivial
        unfold ASt.get at h1
        cases hk : s.fr.lookup k with
        | none => exact .junk _
        | some x => rw [hk] at h1; exact har h1
      · by_cases ek : k = t'
        · subst ek
          rw [lookup_cons_eq] at ho
          cases ho
          obtain ⟨_, u, h1, h2⟩ := hr.hp.at' t o hlk
          exact ⟨ht', u, l0.trans h1, hor h2⟩
        · rw [lookup_cons_ne ek, lookup_map, lookup_filter2] at ho
          split at ho
          · cases ho
          · rename_i e2
            obtain ⟨o', h1, rfl⟩ := Option.map_eq_some_iff.1 ho
            obtain ⟨h2, u, h3, h4⟩ := hr.hp.at' k o' h1
            refine ⟨h2, u, ?_, hor h4⟩
            simp only [loc']
            rw [if_neg ek, if_neg (fun e => e2 (.inl e))]
            exact h3
      · by_cases ek : k = t'
        · subst ek; rw [lookup_cons_eq] at ho; cases ho
        · rw [lookup_cons_ne ek, lookup_map, lookup_filter2] at ho
          simp only [loc']
          rw [if_neg ek]
          split
          · rfl
          · rename_i e2
            rw [if_neg (fun e => e.elim e2 ek)] at ho
            exact hr.hp.dead k (by simpa using ho)
      · have f : ∀ {k z}, loc' k = some z → ∃ k2, loc k2 = some z ∧ ((k = t' ∧ k2 = t) ∨ (k2 = k ∧ k ≠ t ∧ k ≠ t')) := fun {k z} h => by
          rcases l1 k z h with ⟨e, h⟩ | ⟨e1, e2, h⟩
          · exact ⟨t, h, .inl ⟨e, rfl⟩⟩
          · exact ⟨k, h, .inr ⟨rfl, e1, e2⟩⟩
        obtain ⟨x, f1, f2⟩ := f h1
        obtain ⟨y, f3, f4⟩ := f h2
        have := hr.hp.apart x y z z' b f1 f3 h3 h4
        rcases f2 with ⟨g1, g2⟩ | ⟨g1, g2, g3⟩ <;> rcases f4 with ⟨g4, g5⟩ | ⟨g4, g5, g6⟩
        · rw [g1, g4]
        · exact absurd (g4.symm.trans (this.symm.trans g2)) g5
        · exact absurd (g1.symm.trans (this.trans g5)) g2
        · rw [← g1, ← g4, this]
      · rcases l1 k z h1 with ⟨_, h3⟩ | ⟨_, _, h3⟩
        · exact hr.hp.notL t z b h3 h2
        · exact hr.hp.notL k z b h3 h2
    · exact Weak.refl s
  · exact Weak.refl s
def AO.pin (b : Nat) : AO → AO
  | .boxP _ ty cs => .boxP (some b) ty cs
  | .map _ P k n f => .map (some b) P k n f
  | o => o
theorem T.pin {F : Fence} {P : Program} {c : Code} {Q : Exit → ASt → Prop} {s : ASt} (t : Nat) (o : AO) (hlk : s.hp.lookup t = some o) (h : ∀ b, T F P c Q { s with hp := setHp s.hp t (o.pin b) }) : T F P c Q s := fun L loc a w hr => by
  obtain ⟨htN, u, hu, hor⟩ := hr.hp.at' t o hlk
  have key : ∃ b, OR s.N (Dm L loc) loc w u (o.pin b) := by
    cases o with
    | boxP pin ty cs =>
      obtain ⟨b, arr, rfl, h1, h2, h3, h4, h5⟩ := hor
      exact ⟨b, b, arr, rfl, h1, h2, h3, h4, fun p e => by cases e; rfl⟩
    | map pin P k n f =>
      obtain ⟨b, D, rfl, h1, h2, h3⟩ := hor
      exact ⟨b, b, D, rfl, h1, h2, fun p e => by cases e; rfl⟩
    | row e n rows => exact ⟨0, hor⟩
    | raw u ob => exact ⟨0, hor⟩
    | amap P k n f => exact ⟨0, hor⟩
    | lrec l sp fr => exact ⟨0, hor⟩
  obtain ⟨b, hb⟩ := key
  have hset : HRel L s.N (setHp s.hp t (o.pin b)) loc w := ⟨fun k ob ho => by
    rw [setHp_lookup] at ho
    by_cases e : k = t
    · subst e
      rw [if_pos rfl, hlk] at ho
      cases ho
      exact ⟨htN, u, hu, hb⟩
    · rw [if_neg e] at ho; exact hr.hp.at' k ob ho, fun k ho => by
    rw [setHp_lookup] at ho
    by_cases e : k = t
    · subst e; rw [if_pos rfl, hlk] at ho; cases ho
    · rw [if_neg e] at ho; exact hr.hp.dead k ho, hr.hp.apart, hr.hp.inL, hr.hp.notL⟩
  exact h b L loc a w ⟨hr.defers, hr.size, hr.fr, hset⟩
theorem Weak.newrowB (s : ASt) (t j e n : Nat) (pin : Option Nat) (ty : TypeId) (cs : List AV) (hlk : s.hp.lookup t = some (.boxP pin ty cs)) (hj : cs[j]? = some (.p (.val (.slice none 0 0)))) : Weak s { s with hp := (s.N, .row e n []) :: setHp s.hp t (.boxP pin ty (cs.set j (.own s.N))), N := s.N + 1 } := fun L loc a w hr => by
  have hb := Blw.refl w.heap.size w
  have htN := (hr.hp.at' t _ hlk).1
  have h1 := hr.add hb (.slice none 0 0) (.row e n []) (fun b e => by cases e) ⟨[], World.ownsRow_nil _ _ _ _, fun r hr => (by cases hr), fun k r j x h => (by simp at h), fun v hv => (by cases hv)⟩
  refine ⟨setLoc loc s.N (.slice none 0 0), ?_, .add hb _ _ (fun b e => by cases e)⟩
  have hlk2 : (s.add (.row e n [])).hp.lookup t = some (.boxP pin ty cs) := by
    show List.lookup t ((s.N, _) :: s.hp) = _
    rw [lookup_cons_ne (by omega)]; exact hlk
  obtain ⟨_, u, hu, b, arr, rfl, q1, q2, q3, q4, q5⟩ := h1.hp.at' t _ hlk2
  have h2 := h1.turn (o' := .boxP pin ty (cs.set j (.own s.N))) hlk2 hu rfl (Kp.refl _ _) ⟨b, arr, rfl, q1, by simpa using q2, fun i x hx => ?_, q4, q5⟩
  · have e2 : setHp (s.add (.row e n [])).hp t (.boxP pin ty (cs.set j (.own s.N))) = (s.N, .row e n []) :: setHp s.hp t (.boxP pin ty (cs.set j (.own s.N))) := by
      show setHp ((s.N, _) :: s.hp) t _ = _
      simp only [setHp, List.map_cons]
      rw [if_neg (by omega)]
    rw [← e2]
    exact h2
  · rw [List.getElem?_set] at hx
    split at hx
    · rename_i e1
      subst e1
      split at hx
      · cases hx
        have h5 := (q3 j _ hj).val
        rw [h5]
        exact .own s.N _ (Nat.lt_succ_self _) rfl fun z hz => by rw [setLoc_same] at hz; cases hz; rfl
      · cases hx
    · exact q3 i x hx
def AV.dat (t : Nat) (row : List PV) : AV → AV
  | .ptr t' k => if t' = t then .elt row k else .ptr t' k
  | .own t' => if t' = t then .junk else .own t'
  | .rptr t' n i j => if t' = t then .junk else .rptr t' n i j
  | .pre t' m => if t' = t then .junk else .pre t' m
  | .fn f cs => .fn f (cs.attach.map fun ⟨c, _⟩ => AV.dat t row c)
  | .agg cs => .agg (cs.attach.map fun ⟨c, _⟩ => AV.dat t row c)
  | .tup cs => .tup (cs.attach.map fun ⟨c, _⟩ => AV.dat t row c)
  | x => x
theorem AV.dat_ptr (t : Nat) (row : List PV) (k j : Nat) : AV.dat t row (.ptr k j) = if k = t then .elt row j else .ptr k j := by simp [AV.dat]
theorem AV.dat_own (t : Nat) (row : List PV) (k : Nat) : AV.dat t row (.own k) = if k = t then .junk else .own k := by simp [AV.dat]
theorem AV.dat_rptr (t : Nat) (row : List PV) (k n i j : Nat) : AV.dat t row (.rptr k n i j) = if k = t then .junk else .rptr k n i j := by simp [AV.dat]
theorem AV.dat_pre (t : Nat) (row : List PV) (k j : Nat) : AV.dat t row (.pre k j) = if k = t then .junk else .pre k j := by simp [AV.dat]
theorem AV.dat_p (t : Nat) (row : List PV) (x : PV) : AV.dat t row (.p x) = .p x := by simp [AV.dat]
theorem AV.dat_elt (t : Nat) (row : List PV) (r : List PV) (k : Nat) : AV.dat t row (.elt r k) = .elt r k := by simp [AV.dat]
theorem AV.dat_junk (t : Nat) (row : List PV) : AV.dat t row .junk = .junk := by simp [AV.dat]
theorem AV.dat_cap0 (t : Nat) (row : List PV) : AV.dat t row .cap0 = .cap0 := by simp [AV.dat]
theorem AV.dat_fn (t : Nat) (row : List PV) (f : Fn) (cs : List AV) : AV.dat t row (.fn f cs) = .fn f (cs.map (AV.dat t row)) := by simp [AV.dat]
theorem AV.dat_agg (t : Nat) (row : List PV) (cs : List AV) : AV.dat t row (.agg cs) = .agg (cs.map (AV.dat t row)) := by simp [AV.dat]
theorem AV.dat_tup (t : Nat) (row : List PV) (cs : List AV) : AV.dat t row (.tup cs) = .tup (cs.map (AV.dat t row)) := by simp [AV.dat]
theorem AR.dat {N : Nat} {D : Nat → Prop} {loc loc' : Nat → Option Value} {w : World} {t b : Nat} {row : List PV} {x : AV} {v : Value} (h : AR N D loc w x v) {D' : Nat → Prop} (hD : ∀ k, D' k → D k) (h0 : loc t = some (.pointer (some ⟨b, 0, none⟩))) (h1 : ∀ k u, loc' k = some u → k ≠ t ∧ loc k = some u)
    (hrow : ∀ j, AR N D' loc' w (.elt row j) (.pointer (some ⟨b, j, none⟩))) : AR N D' loc' w (AV.dat t row x) v := by
  induction h with
  | p x v h => rw [AV.dat_p]; exact .p x v (h.mono (Kp.refl _ _) fun k _ h => hD k h)
  | elt r off b o f hb hnD hc hr => rw [AV.dat_elt]; exact .elt r off b o f hb (fun h => hnD (hD _ h)) hc fun j x h => (hr j x h).mono (Kp.refl _ _) fun k _ h => hD k h
  | ptr k off v ht g h =>
    rw [AV.dat_ptr]
    split
    · rename_i e; subst e; rw [h b h0]; exact hrow off
    · exact .ptr k off v ht g fun b' hb => h b' (h1 k _ hb).2
  | rptr k n i off v ht g h =>
    rw [AV.dat_rptr]
    split
    · exact .junk _
    · exact .rptr k n i off v ht g fun b' l c hb => h b' l c (h1 k _ hb).2
  | own k v ht g h =>
    rw [AV.dat_own]
    split
    · exact .junk _
    · exact .own k v ht g fun u hu => h u (h1 k _ hu).2
  | pre k j v ht g h =>
    rw [AV.dat_pre]
    split
    · exact .junk _
    · exact .pre k j v ht g fun b' l c hb => h b' l c (h1 k _ hb).2
  | fn f caps vs hlen _ ih =>
    rw [AV.dat_fn]
    refine .fn f _ vs (by simpa using hlen) fun j x hx => ?_
    simp only [List.getElem?_map, Option.map_eq_some_iff] at hx
    obtain ⟨c, hc, rfl⟩ := hx
    exact ih j c hc
  | agg cs vs hlen _ g1 ih =>
    rw [AV.dat_agg]
    refine .agg _ vs (by simpa using hlen) (fun j x hx => ?_) g1
    simp only [List.getElem?_map, Option.map_eq_some_iff] at hx
    obtain ⟨c, hc, rfl⟩ := hx
    exact ih j c hc
  | tup cs vs hlen _ ih =>
    rw [AV.dat_tup]
    refine .tup _ vs (by simpa using hlen) fun j x hx => ?_
    simp only [List.getElem?_map, Option.map_eq_some_iff] at hx
    obtain ⟨c, hc, rfl⟩ := hx
    exact ih j c hc
  | cap0 a h => rw [AV.dat_cap0]; exact .cap0 a fun x hx => ⟨(h x hx).1, fun hd => (h x hx).2.1 (hD _ hd), (h x hx).2.2⟩
  | junk v => rw [AV.dat_junk]; exact .junk v
def AO.dat (t : Nat) (row : List PV) : AO → AO
  | .boxP pin ty cs => .boxP pin ty (cs.map (AV.dat t row))
  | .row e n rows => .row e n rows
  | .map pin P k n f => .map pin P k n f
  | .raw u ob => .raw u ob
  | .lrec l sp fr => .lrec l sp (fr.map fun p => (p.1, AV.dat t row p.2))
  | .amap P k n f => .amap P k n fun l => (f l).map (AV.dat t row)
theorem Weak.dat (s : ASt) (t : Nat) (pin : Option Nat) (ty : TypeId) (row : List PV) (hlk : s.hp.lookup t = some (.boxP pin ty (row.map .p))) : Weak s { s with fr := s.fr.map fun p => (p.1, p.2.dat t row), hp := (s.hp.filter fun p => p.1 != t).map fun p => (p.1, p.2.dat t row) } := fun L loc a w hr => by
  obtain ⟨htN, u, hu, b, arr, rfl, q1, q2, q3, q4, q5⟩ := hr.hp.at' t _ hlk
  let loc' : Nat → Option Value := fun k => if k = t then none else loc k
  have l1 : ∀ k u, loc' k = some u → k ≠ t ∧ loc k = some u := fun k u h => by
    simp only [loc'] at h
    split at h
    · cases h
    · rename_i e; exact ⟨e, h⟩
  have hD : ∀ M : Nat → Prop, ∀ k, Dm M loc' k → Dm M loc k := fun M k h => h.imp id fun ⟨k', z, h1, h2⟩ => ⟨k', z, (l1 k' z h1).2, h2⟩
  have hnb : ¬ Dm L loc' b := fun h => by
    rcases h with h | ⟨k, z, h1, h2⟩
    · exact hr.hp.notL t _ b hu rfl h
    · exact (l1 k z h1).1 (hr.hp.apart k t z _ b (l1 k z h1).2 hu h2 rfl)
  have hrow : ∀ j, AR s.N (Dm L loc') loc' w (.elt row j) (.pointer (some ⟨b, j, none⟩)) := fun j => by
    have := AR.elt (N := s.N) (D := Dm L loc') (loc := loc') (w := w) row j b 0 (fun i => arr.getD i undef) (Array.getElem?_eq_some_iff.1 q1).1 hnb (fun i x hx => by
      have hlt := (List.getElem?_eq_some_iff.1 hx).1
      have hsz : i < arr.size := by rw [q2]; simpa using hlt
      rw [row_cells q1, Array.getD_eq_getD_getElem?, Nat.zero_add, Array.getElem?_eq_getElem hsz]; rfl) (fun i x hx => by
      have h5 := q3 i (.p x) (by simp [hx])
      cases h5 with
      | p _ _ h6 => exact h6.mono (Kp.refl _ _) fun k _ h => hD L k h)
    rwa [Nat.zero_add] at this
  have har : ∀ {x : AV} {v : Value}, AR s.N (Dm L loc) loc w x v → AR s.N (Dm L loc') loc' w (x.dat t row) v := fun h => h.dat (hD L) hu l1 hrow
  refine ⟨loc', ⟨hr.defers, hr.size, fun k _ => ?_, ⟨fun k ob ho => ?_, fun k ho => ?_, fun k k' z z' b h1 h2 => hr.hp.apart k k' z z' b (l1 k z h1).2 (l1 k' z' h2).2, hr.hp.inL, fun k z b h1 => hr.hp.notL k z b (l1 k z h1).2⟩⟩, ⟨Kp.refl _ _, fun b h => .inl (hD _ b h)⟩⟩
  · show AR _ _ _ _ (((List.lookup k (s.fr.map _))).getD .junk) _
    rw [lookup_map]
    have h1 := hr.fr k trivial
    unfold ASt.get at h1
    cases hk : s.fr.lookup k with
    | none => exact .junk _
    | some x => rw [hk] at h1; exact har h1
  · change List.lookup k ((s.hp.filter _).map _) = some ob at ho
    rw [lookup_map, lookup_filter] at ho
    split at ho
    · cases ho
    · rename_i ek
      obtain ⟨o', h1, rfl⟩ := Option.map_eq_some_iff.1 ho
      obtain ⟨h2, z, h3, h4⟩ := hr.hp.at' k o' h1
      refine ⟨h2, z, by simp [loc', ek, h3], ?_⟩
      cases o' with
      | boxP pin ty cs =>
        obtain ⟨b, arr, rfl, q1, q2, q3, q4⟩ := h4
        refine ⟨b, arr, rfl, q1, by simpa [AO.dat] using q2, fun j x hx => ?_, q4⟩
        simp only [List.getElem?_map, Option.map_eq_some_iff] at hx
        obtain ⟨c, hc, rfl⟩ := hx
        exact har (q3 j c hc)
      | row e' n' rows' =>
        obtain ⟨fl, q1, q2, q3, q4⟩ := h4
        exact ⟨fl, q1, q2, fun i r j x h1 h2 => let ⟨v, h5, h6⟩ := q3 i r j x h1 h2; ⟨v, h5, h6.mono (Kp.refl _ _) fun k _ h => hD L k h⟩, q4⟩
      | map pin P k n f => exact h4
      | raw u ob => exact h4
      | amap P k n f =>
        obtain ⟨b, DD, g, rfl, q1, q2, q3⟩ := h4
        refine ⟨b, DD, g, rfl, q1, q2, fun kl => ⟨fun x hx => ?_, fun hx => (q3 kl).2 (by simpa using hx)⟩⟩
        obtain ⟨x', hx', rfl⟩ := Option.map_eq_some_iff.1 hx
        obtain ⟨v, k1, k2⟩ := (q3 kl).1 x' hx'
        exact ⟨v, k1, har k2⟩
      | lrec l sp fr =>
        obtain ⟨rfl, tmps, q1, q2, q3⟩ := h4
        refine ⟨rfl, tmps, q1, q2, fun i => ?_⟩
        rw [lookup_map]
        have h5 := q3 i
        cases hf : fr.lookup i with
        | none => exact .junk _
        | some x => rw [hf] at h5; exact har h5
  · change List.lookup k ((s.hp.filter _).map _) = none at ho
    rw [lookup_map, lookup_filter] at ho
    simp only [loc']
    split
    · rfl
    · rename_i ek
      rw [if_neg ek] at ho
      exact hr.hp.dead k (by simpa using ho)
end Go.Proofs.Ytbhkcejjehgfcaa
namespace Go.Proofs.Ytbhkcejjehgfcaa
open Go.RowKit Go.Sort
set_option linter.unusedSimpArgs false
set_option linter.unusedVariables false
def YldC (P : Program) (l : Nat) (n : Nat) (hp : Hp) (xs : List AV) (Q : Hp → AV → Prop) : Prop := ∀ L loc w vs, HRel L n hp loc w → ARs n (Dm L loc) loc w xs vs →
  ∃ f tmps assign body, (Instr.yield l vs.toArray).run P w = .ok (.round l f tmps assign body) w ∧ RoundIn Fence.wide 0 P l f tmps assign body w fun e w' => ∃ v loc' hp' r, e = .returned v ∧ Q hp' r ∧ HRel L n hp' loc' w' ∧ AR n (Dm L loc') loc' w' r v ∧ Ext loc w loc' w'
def CallY (P : Program) (s : ASt) (y : Nat) (xs : List AV) (d : Option Nat) (K : ASt → Prop) : Prop := ∃ n hp Q ks l sp fr, YldC P l n hp xs Q ∧ s.hp.lookup y = some (.lrec l sp fr) ∧ Passes s n hp ∧ (xs.all (·.okB n)) = true ∧ ∀ hp' r, Q hp' r → (∀ t ∈ ks, t < n → Kept hp hp' t) ∧ K ((s.callM n ks hp').put d r)
def OpEffI (F : Fence) (P : Program) (o : Oper) (s : ASt) (K : ASt → Prop) : Prop := ∀ L loc a w, Rel All L s loc a w → o.wpIn F 0 P a w (fun a' w' => ∃ s' loc', K s' ∧ Rel All L s' loc' a' w' ∧ Ext loc w loc' w') (fun _ _ _ => False)
theorem FOk.round {F : Fence} [k : FOk F] {n : Nat} {P : Program} {l : Nat} {f : FuncId} {tmps : Array Value} {assign body : Code} {w : World} {R : Ending → World → Prop} (h : RoundIn Fence.wide n P l f tmps assign body w R) : RoundIn F n P l f tmps assign body w R := by
  rcases k.h with rfl | ⟨l, rfl⟩
  · exact h
  · exact h
theorem op_yield {F : Fence} [FOk F] {P : Program} {o : Oper} {s : ASt} (t : Tmp) (y : Nat) (args : Array Operand) (tys : Array TypeId) {K : ASt → Prop} (h : o.op = .call { callee := .value (.tmp t), args := args, argTypes := tys }) (hy : s.get t = .own y) (hc : CallY P s y (args.toList.map s.ev) o.dst K) (hd : ∀ t, o.dst = some t → t < s.n) : OpEffI F P o s K := fun L loc a w hr => by
  obtain ⟨n, hp, Q, ks, l, sp, fr, hyc, hlk, hps, hok, hq⟩ := hc
  obtain ⟨_, u, hu, hax, hor⟩ := look_map hr (x := .tmp t) (fun _ _ => trivial) hy hlk
  obtain ⟨rfl, _⟩ := hor
  obtain ⟨LC, locC, h1, h2, h3⟩ := mem_call hr hps ks
  obtain ⟨f, tmps, assign, body, hrun, hround⟩ := hyc LC locC w (args.toList.map a.eval) h1 ⟨by simp, fun j x v hx hv => by
    simp only [List.getElem?_map, Option.map_eq_some_iff] at hx hv
    obtain ⟨z, hz, rfl⟩ := hx
    obtain ⟨z', hz', rfl⟩ := hv
    rw [hz] at hz'
    cases hz'
    exact h2 _ _ (List.all_eq_true.1 hok _ (List.mem_map_of_mem (List.mem_of_getElem? hz))) (hr.ev z (fun _ _ => trivial))⟩
  refine ⟨fun _ _ => FOk.fn _, ?_⟩
  rw [Oper.semAt_eq F.round a.eval o (fun c e => by rw [h] at e; cases e)]
  have e : (args.toList.map a.eval).toArray = args.map a.eval := by apply Array.ext'; simp
  rw [e] at hrun
  have hx : (execOp a.eval o).run P w = .ok (.round l f tmps assign body) w := by
    simp [execOp, h, resolve, hax, Deferred.ofValue, invoke, hrun]
  rw [hx]
  refine ⟨(by rw [FOk.depth (F := F)]; intro h; cases h), FOk.round (hround.mono fun e w' ⟨v, loc', hp', r, he, hQ, g1, g2, g3⟩ => ?_)⟩
  subst he
  obtain ⟨q1, q2⟩ := hq hp' r hQ
  obtain ⟨loc2, g4, g5, g6⟩ := h3 w' loc' hp' g1 g3 q1
  exact ⟨_, loc2, q2, Rel.put' g4 (s := s.callM n ks hp') hd (g6 r v g2), g5⟩
theorem operIn_mono {F : Fence} {n : Nat} {P : Program} {o : Oper} {a : Act} {w : World} {K K' : Act → World → Prop} {Q Q' : Exit → Act → World → Prop} (hK : ∀ a w, K a w → K' a w) (h : ∀ e a w, e ≠ .normal → Q e a w → Q' e a w) (hh : o.wpIn F n P a w K Q) : o.wpIn F n P a w K' Q' := by
  refine ⟨hh.1, ?_⟩
  have h2 := hh.2
  generalize (o.semAt F.round a.eval).run P w = r at *
  have lo : LetsOut Q → LetsOut Q' := fun ⟨a, w, k⟩ => ⟨a, w, h _ _ _ (by simp) k⟩
  cases r with
  | ok x w' =>
    cases x <;> simp only [Oper.uponIn] at h2 ⊢ <;>
      first
        | exact hK _ _ h2
        | exact ⟨h2.1, h2.2.mono fun e w'' he => by cases e <;> first | exact hK _ _ he | exact h _ _ _ (by simp) he | exact lo he⟩
        | exact ⟨h2.1, h2.2.mono fun _ _ he => hK _ _ he⟩
        | exact h2
  | halt x w' => cases x <;> simp only [Oper.uponIn] at h2 ⊢ <;> first | exact h _ _ _ (by simp) h2 | exact h2
def TLI (F : Fence) (P : Program) (ops : Array Oper) (Q : Exit → ASt → Prop) (l : List Oper) (s : ASt) : Prop := ∀ L loc a w, Rel All L s loc a w → wpListIn F 0 P ops (TPost L loc w Q) l a w
def WY (P : Program) (o : Oper) (s : ASt) (K : ASt → Prop) : Prop := match o.op with
  | .call { callee := .value (.tmp t), args := args, .. } => match s.get t with
    | .own y => CallY P s y (args.toList.map s.ev) o.dst K
    | _ => False
  | _ => False
def WSY (P : Program) (ds : List (Option Nat)) (o : Oper) (s : ASt) (K : ASt → Prop) : Prop := dstOk o s ∧ match o.guard with
  | none => WY P o s K
  | some (g, want) => match ds[g]? with
    | some (some t) => s.get t = .p (.val (.bool want)) ∧ WY P o s K
    | _ => False
def WLI (P : Program) (ds : List (Option Nat)) (Q : ASt → Prop) : List Oper → ASt → Prop
  | [], s => Q s
  | o :: rest, s => ∃ s', Weak s s' ∧ (WS P ds o s' (WLI P ds Q rest) ∨ WSY P ds o s' (WLI P ds Q rest))
theorem WLI.sound {F : Fence} [FOk F] {P : Program} {ops : Array Oper} {Q : Exit → ASt → Prop} : ∀ {l : List Oper} {s : ASt}, (∀ o ∈ l, noDef1 o = true) → WLI P (ops.toList.map (·.dst)) (Q .normal) l s → TLI F P ops (NQ Q) l s
  | [], s, _, h => fun L loc a w hr => .of (show NQ Q .normal s from ⟨rfl, h⟩) hr (Ext.refl _ _)
  | o :: rest, s, hd, h => by
    have ih : ∀ {s : ASt}, WLI P (ops.toList.map (·.dst)) (Q .normal) rest s → TLI F P ops (NQ Q) rest s := fun k => WLI.sound (fun x hx => hd x (List.mem_cons.2 (.inr hx))) k
    obtain ⟨s0, hw0, h⟩ := h
    suffices main : TLI F P ops (NQ Q) (o :: rest) s0 from fun L loc a w hr => let ⟨loc', h1, h2⟩ := hw0 L loc a w hr; listIn_mono (fun _ _ _ k => k.ext h2) _ a w (main L loc' a w h1)
    intro L loc a w hr
    rcases h with h | h
    · have h1 : TL P ops (NQ fun _ s => WLI P (ops.toList.map (·.dst)) (Q .normal) rest s) [o] s0 := WL.sound (by rw [show NQ (fun _ s => WLI P (ops.toList.map (·.dst)) (Q .normal) rest s) .normal = fun s => WLI P (ops.toList.map (·.dst)) (Q .normal) rest s from funext fun s => by simp [NQ]]; exact h)
      have h2 := list_in (F := F) NQ.out [o] a w (fun x hx => hd x (List.mem_cons.2 (.inl (List.mem_singleton.1 hx)))) (h1 L loc a w hr)
      have go : ∀ a' w', TPost L loc w (NQ fun _ s => WLI P (ops.toList.map (·.dst)) (Q .normal) rest s) .normal a' w' → wpListIn F 0 P ops (TPost L loc w (NQ Q)) rest a' w' := fun a' w' ⟨s', loc', hq, ⟨L1, h3, h4⟩, h5⟩ =>
        listIn_mono (fun _ _ _ k => k.go h3 h4 h5) rest a' w' (ih hq.2 L1 loc' a' w' h3)
      unfold wpListIn at h2 ⊢
      split
      · rename_i hw
        rw [if_pos hw] at h2
        exact operIn_mono go (fun e a w he ⟨s', loc', hq, _⟩ => absurd hq.1 he) h2
      · rename_i hw
        rw [if_neg hw] at h2
        exact ⟨h2.1, go _ _ h2.2⟩
    · obtain ⟨hdo, h⟩ := h
      have main : ∀ {K : ASt → Prop}, WY P o s0 K → OpEffI F P o s0 K := fun {K} hy => by
        obtain ⟨dst, op, ty, pos, aft, gd⟩ := o
        unfold WY at hy
        simp only at hy
        split at hy
        · rename_i t args tys
          split at hy
          · rename_i y hg
            exact op_yield t y args tys rfl hg hy hdo.h
          · exact hy.elim
        · exact hy.elim
      have fin : OpEffI F P o s0 (WLI P (ops.toList.map (·.dst)) (Q .normal) rest) → Region.wanted o (yielded ops a.tmps) = true → wpListIn F 0 P ops (TPost L loc w (NQ Q)) (o :: rest) a w := fun hy hw => by
        unfold wpListIn
        rw [if_pos hw]
        refine operIn_mono (fun a' w' ⟨s', loc', h1, h2, h3⟩ => ?_) (fun _ _ _ _ h => h.elim) (hy L loc a w hr)
        exact listIn_mono (fun _ _ _ k => k.go h2 (.refl _ _ _) h3) rest a' w' (ih h1 L loc' a' w' h2)
      split at h
      · rename_i hg
        exact fin (main h) (by simp [Region.wanted, hg])
      · rename_i g want hg
        split at h
        · rename_i t ht
          have ht' : (ops[g]?).bind (·.dst) = some t := by
            simp only [List.getElem?_map, Option.map_eq_some_iff, Array.getElem?_toList] at ht
            obtain ⟨o', h1, h2⟩ := ht
            rw [h1]; exact h2
          refine fin (main h.2) ?_
          have h5 := guard_slot hr (t := t) trivial h.1
          simp [Region.wanted, hg, yielded, ht', h5]
        · exact h.elim
where
  listIn_mono {F : Fence} {P : Program} {ops : Array Oper} {Q Q' : Exit → Act → World → Prop} (h : ∀ e a w, Q e a w → Q' e a w) : ∀ (l : List Oper) (a : Act) (w : World), wpListIn F 0 P ops Q l a w → wpListIn F 0 P ops Q' l a w
    | [], a, w, k => h _ _ _ k
    | o :: l, a, w, k => by
      unfold wpListIn at k ⊢
      split
      · rename_i hw
        rw [if_pos hw] at k
        exact operIn_mono (listIn_mono h l) (fun e a w _ k => h e a w k) k
      · rename_i hw
        rw [if_neg hw] at k
        exact ⟨k.1, listIn_mono h l _ _ k.2⟩
theorem T.regI {F : Fence} [FOk F] {P : Program} {Q : Exit → ASt → Prop} {s : ASt} {id : Nat} {l : List Oper} (hd : noDefB l = true) (h : ∀ K : ASt → Prop, (∀ s, Q .normal s → K s) → WLI P (l.map (·.dst)) K l s) : T F P (.region id l.toArray false) Q s := fun L loc a w hr =>
  wpIn_mono (wpIn_region_lit (WLI.sound (ops := l.toArray) (noDefB_spec hd) (by simpa using h _ fun _ h => h) L loc a w hr)) fun _ _ _ k => NQ.post k
theorem WLI.stepP {P : Program} {ds : List (Option Nat)} {Q : ASt → Prop} {o : Oper} {rest : List Oper} {s : ASt} (h : ∀ K : ASt → Prop, (∀ s, WLI P ds Q rest s → K s) → WS P ds o s K) : WLI P ds Q (o :: rest) s := ⟨s, Weak.refl s, .inl (h _ fun _ h => h)⟩
theorem WLI.stepY {P : Program} {ds : List (Option Nat)} {Q : ASt → Prop} {o : Oper} {rest : List Oper} {s : ASt} (h : ∀ K : ASt → Prop, (∀ s, WLI P ds Q rest s → K s) → WSY P ds o s K) : WLI P ds Q (o :: rest) s := ⟨s, Weak.refl s, .inr (h _ fun _ h => h)⟩
theorem WLI.weak {P : Program} {ds : List (Option Nat)} {Q : ASt → Prop} {o : Oper} {rest : List Oper} {s s' : ASt} (hw : Weak s s') (h : WLI P ds Q (o :: rest) s') : WLI P ds Q (o :: rest) s := let ⟨s2, h1, h2⟩ := h; ⟨s2, hw.trans h1, h2⟩
theorem WLI.fin {P : Program} {ds : List (Option Nat)} {Q : ASt → Prop} {s : ASt} (h : Q s) : WLI P ds Q [] s := h
def frPut : List Nat → List AV → List (Nat × AV) → List (Nat × AV)
  | p :: ps, x :: xs, fr => frPut ps xs ((p, x) :: fr)
  | _, _, fr => fr
def putsV : List Nat → List Value → Array Value → Array Value
  | p :: ps, v :: vs, t => putsV ps vs (t.setIfInBounds p v)
  | _, _, t => t
theorem putsV_size : ∀ (ps : List Nat) (vs : List Value) (t : Array Value), (putsV ps vs t).size = t.size
  | [], _, _ => rfl
  | _ :: _, [], _ => rfl
  | p :: ps, v :: vs, t => by rw [putsV, putsV_size ps vs]; simp
theorem foldl_putsV : ∀ (ps : List Nat) (vs : List Value) (t : Array Value), (ps.zip vs).foldl (fun t (p : Nat × Value) => t.setIfInBounds p.1 p.2) t = putsV ps vs t
  | [], _, _ => rfl
  | _ :: _, [], _ => rfl
  | p :: ps, v :: vs, t => by rw [List.zip_cons_cons, List.foldl_cons, foldl_putsV ps vs, putsV]
theorem frPut_ok {N : Nat} {D : Nat → Prop} {loc : Nat → Option Value} {w : World} : ∀ (ps : List Nat) (xs : List AV) (vs : List Value) (fr : List (Nat × AV)) (t : Array Value), (∀ p ∈ ps, p < t.size) → vs.length = xs.length → (∀ (j : Nat) x v, xs[j]? = some x → vs[j]? = some v → AR N D loc w x v) →
    (∀ k, AR N D loc w ((fr.lookup k).getD .junk) (t.getD k undef)) → ∀ k, AR N D loc w (((frPut ps xs fr).lookup k).getD .junk) ((putsV ps vs t).getD k undef)
  | [], xs, vs, fr, t, _, _, _, h => by cases vs <;> exact h
  | p :: ps, [], vs, fr, t, _, hl, _, h => by
    have : vs = [] := List.eq_nil_of_length_eq_zero (by simpa using hl)
    subst this; exact h
  | p :: ps, x :: xs, vs, fr, t, hp, hl, ha, h => by
    cases vs with
    | nil => cases hl
    | cons v vs =>
      refine frPut_ok ps xs vs _ _ (fun q hq => by simpa using hp q (List.mem_cons.2 (.inr hq))) (by simpa using hl) (fun j y u hy hu => ha (j + 1) y u (by simpa using hy) (by simpa using hu)) fun k => ?_
      have hps := hp p (List.mem_cons.2 (.inl rfl))
      by_cases e : k = p
      · subst e
        rw [lookup_cons_eq]
        have := ha 0 x v rfl rfl
        simpa [hps] using this
      · rw [lookup_cons_ne e]
        have := h k
        rw [Array.getD_eq_getD_getElem?, Array.getElem?_setIfInBounds_ne (Ne.symm e), ← Array.getD_eq_getD_getElem?]
        exact this
def FinR (n y : Nat) (Q : Hp → Prop) (e : Exit) (s : ASt) : Prop := e = .normal ∧ ∃ s', Weak s s' ∧ s'.N = n ∧ s'.hp.lookup y = none ∧ Q s'.hp
theorem Rel.thin {X : Nat → Prop} {L L' : Lim} {s : ASt} {loc : Nat → Option Value} {a : Act} {w : World} (h : Rel X L s loc a w) (hb : ∀ b, L' b → L b) (hd : a.defers = L'.ds) : Rel X L' s loc a w :=
  have hD : ∀ k, Dm L' loc k → Dm L loc k := fun k h => h.imp (hb k) id
  ⟨hd, h.size, fun t ht => (h.fr t ht).mono (Nat.le_refl _) (Kp.refl _ _) (fun k _ h => hD k h) (fun _ _ _ h => h),
    ⟨fun t o ho => let ⟨g1, u, g2, g3⟩ := h.hp.at' t o ho; ⟨g1, u, g2, g3.mono (Nat.le_refl _) (Kp.refl _ _) (fun k _ h => hD k h) (fun _ _ _ h => h) (fun _ _ => rfl)⟩, h.hp.dead, h.hp.apart, fun b hb' => h.hp.inL b (hb b hb'), fun t u b g1 g2 g3 => h.hp.notL t u b g1 g2 (hb b g3)⟩⟩
theorem YldC.of {P : Program} {l : Nat} {n : Nat} {hp : Hp} {xs : List AV} {Q : Hp → AV → Prop} {sp : LSpec} {fr : List (Nat × AV)} (y : Nat) (ks : List Nat) (Qb : Hp → Prop) (hy : hp.lookup y = some (.lrec l sp fr)) (hps : sp.ps.size = xs.length) (hpb : ∀ p ∈ sp.ps.toList, p < sp.n)
    (hfr : ∀ p ∈ fr, p.2.keep n ks = p.2)
    (hT : T (Fence.wide.inRound l) P sp.assign (ThenA (fun s1 => T (Fence.wide.inRound l) P sp.body (FinR n y Qb) s1) (fun _ _ => False)) ⟨frPut sp.ps.toList xs fr, hp.filter fun p => p.1 != y, sp.n, n⟩)
    (hQ : ∀ hp3, Qb hp3 → (∀ t ∈ ks, Kept hp hp3 t) ∧ (∀ p ∈ hp3, p.2.sub y .junk = p.2) ∧ Q ((y, .lrec l sp fr) :: hp3) (.p (.val (.bool true)))) (hxs : (xs.all (·.okB n)) = true) : YldC P l n hp xs Q := fun L loc w vs hh hvs => by
  obtain ⟨hyn, u, hu, rfl, tmps, hl, htn, htf⟩ := hh.at' y _ hy
  have hll := (Array.getElem?_eq_some_iff.1 hl).1
  have hsz : vs.toArray.size = sp.ps.size := by simp [hvs.1, hps]
  have hrun := run_yield (P := P) (args := vs.toArray) hl hsz
  refine ⟨_, _, _, _, hrun, roundIn_of_wpIn trivial ?_⟩
  have hfold : (sp.ps.zip vs.toArray).foldl (fun tmps (t, a) => tmps.setIfInBounds t a) tmps = putsV sp.ps.toList vs tmps := by
    rw [← foldl_putsV, ← Array.foldl_toList, Array.toList_zip]
  simp only [hfold]
  -- the memory of the round
  let loc1 : Nat → Option Value := fun t => if t = y then none else loc t
  let L1 : Nat → Prop := fun b => L b ∨ b = l
  have l1 : ∀ t u, loc1 t = some u → t ≠ y ∧ loc t = some u := fun t u h => by
    simp only [loc1] at h
    split at h
    · cases h
    · exact ⟨by assumption, h⟩
  have d1 : ∀ k, Dm L1 loc1 k → Dm L loc k := fun k h => by
    rcases h with (h | h) | ⟨t, u, h1, h2⟩
    · exact .inl h
    · subst h; exact .inr ⟨y, _, hu, rfl⟩
    · exact .inr ⟨t, u, (l1 t u h1).2, h2⟩
  have hh1 : HRel L1 n (hp.filter fun p => p.1 != y) loc1 w := ⟨fun t o ho => by
    rw [lookup_filter] at ho
    split at ho
    · cases ho
    · rename_i e
      obtain ⟨g1, u, g2, g3⟩ := hh.at' t o ho
      exact ⟨g1, u, by simp [loc1, e, g2], g3.mono (Nat.le_refl _) (Kp.refl _ _) (fun k _ h => d1 k h) (fun t u _ h => (l1 t u h).2) (fun _ _ => rfl)⟩, fun t ho => by
    rw [lookup_filter] at ho
    simp only [loc1]
    split
    · rfl
    · rename_i e; rw [if_neg e] at ho; exact hh.dead t ho, fun t t' u u' b h1 h2 => hh.apart t t' u u' b (l1 t u h1).2 (l1 t' u' h2).2, fun b hb => hh.dm_lt (d1 b (.inl hb)), fun t u b h1 h2 h3 => by
    rcases h3 with h3 | h3
    · exact hh.notL t u b (l1 t u h1).2 h2 h3
    · subst h3; exact (l1 t u h1).1 (hh.apart t y u _ b (l1 t u h1).2 hu h2 rfl)⟩
  have hrel : Rel All ⟨L1, []⟩ ⟨frPut sp.ps.toList xs fr, hp.filter fun p => p.1 != y, sp.n, n⟩ loc1 { tmps := putsV sp.ps.toList vs tmps, defers := [] } w := by
    refine ⟨rfl, by show (putsV _ _ _).size = sp.n; rw [putsV_size, htn], fun t _ => ?_, hh1⟩
    have := frPut_ok (N := n) (D := Dm L1 loc1) (loc := loc1) (w := w) sp.ps.toList xs vs fr tmps (fun p hp' => by rw [htn]; exact hpb p hp') hvs.1 (fun j x v hx hv => (hvs.2 j x v hx hv).mono (Nat.le_refl _) (Kp.refl _ _) (fun k _ h => d1 k h) (fun t u _ h => (l1 t u h).2)) (fun k => (htf k).mono (Nat.le_refl _) (Kp.refl _ _) (fun k _ h => d1 k h) (fun t u _ h => (l1 t u h).2)) t
    exact this
  refine wpIn_mono (hT ⟨L1, []⟩ loc1 _ w hrel) fun e a1 w1 ⟨s1, loc2, hq, ⟨L2, hr2, hlx2⟩, hx2⟩ => ?_
  cases e with
  | normal =>
    have hlL2 : L2 l := hlx2.sub l (.inr rfl)
    have nown : ∀ {M : Lim} {s : ASt} {lc : Nat → Option Value} {a : Act} {W : World}, Rel All M s lc a W → M l → ¬ Dm (fun _ => False) lc l := fun hr hM h => by
      rcases h with h | ⟨t, u, h1, h2⟩
      · exact h
      · exact hr.hp.notL t u l h1 h2 hM
    have hl2 := (hx2.kp.block l hll (nown hrel (.inr rfl))).trans hl
    have hl2l := (Array.getElem?_eq_some_iff.1 hl2).1
    refine ⟨_, run_beginRound hl2 rfl, ?_⟩
    obtain ⟨ob, hob⟩ : ∃ ob, ob = Obj.loop { state := .busy, pending := none, fn := sp.fn, tmps := tmps, params := sp.ps, assign := sp.assign, body := sp.body, defers := sp.D } := ⟨_, rfl⟩
    rw [← hob]
    have hr3 : Rel All L2 s1 loc2 a1 (w1.putObj l ob) := hr2.shut1 hlL2 (kp_putObj _ _)
    refine wpIn_mono (hq L2 loc2 a1 _ hr3) fun e a4 w4 ⟨s4, loc4, ⟨he, s5, hwk, hN, hy5, hqb⟩, ⟨L4, hr4, hlx4⟩, hx4⟩ => ?_
    subst he
    obtain ⟨loc5, hr5, hx5⟩ := hwk L4 loc4 a4 w4 hr4
    have hl3 : (w1.putObj l ob).heap[l]? = some ob := World.putObj_heap_same hl2l
    have hl4 : w4.heap[l]? = some ob := (hx4.kp.block l (Array.getElem?_eq_some_iff.1 hl3).1 (nown hr3 hlL2)).trans hl3
    rw [hob] at hl4
    have hlL4 : L4 l := hlx4.sub l hlL2
    have hl4l := (Array.getElem?_eq_some_iff.1 hl4).1
    obtain ⟨ob2, hob2⟩ : ∃ ob2, ob2 = Obj.loop { state := .ready, pending := none, fn := sp.fn, tmps := tmps, params := sp.ps, assign := sp.assign, body := sp.body, defers := sp.D } := ⟨_, rfl⟩
    have hr6 : Rel All L4 s5 loc5 a4 (w4.putObj l ob2) := hr5.shut1 hlL4 (kp_putObj _ _)
    obtain ⟨W, hW⟩ : ∃ W, W = w4.putObj l ob2 := ⟨_, rfl⟩
    have hend : (Instr.endRound l none).run P w4 = .ok (.bool true) W := by rw [hW, hob2]; exact run_endRound none hl4
    refine ⟨_, _, hend, ?_⟩
    have hWl : W.heap[l]? = some ob2 := by rw [hW]; exact World.putObj_heap_same hl4l
    rw [← hW] at hr6
    have fr2 : ∀ b, Dm (fun _ => False) loc2 b → Dm (fun _ => False) loc1 b ∨ w.heap.size ≤ b := hx2.fresh
    have fr5 : ∀ b, Dm (fun _ => False) loc5 b → Dm (fun _ => False) loc1 b ∨ w.heap.size ≤ b := fun b h => by
      rcases hx5.fresh b h with h | h
      · rcases hx4.fresh b h with h | h
        · exact fr2 b h
        · have := hx2.kp.size; simp at h; exact .inr (by omega)
      · have := hx2.kp.size; have := hx4.kp.size; simp at this; exact .inr (by omega)
    have k1 : Kp (fun k => Dm (fun _ => False) loc1 k ∨ k = l) w (w1.putObj l ob) := (hx2.kp.wide fun k h => .inl h).trans ((kp_putObj w1 ob).wide (D' := fun k => k = l) fun k h => h) fun x hx => .inl (.inr hx)
    have k2 : Kp (fun k => Dm (fun _ => False) loc1 k ∨ k = l) w w4 := k1.trans hx4.kp fun x hx => (fr2 x hx).imp (fun h => .inl h) id
    have kW : Kp (fun k => Dm (fun _ => False) loc1 k ∨ k = l) w W := by
      rw [hW]
      exact k2.trans ((kp_putObj w4 ob2).wide (D' := fun k => k = l) fun k h => h) fun x hx => .inl (.inr hx)
    have kF : Kp (Dm (fun _ => False) loc) w W := kW.wide fun k h => by
      rcases h with (h | ⟨t, u, h1, h2⟩) | h
      · exact h.elim
      · exact .inr ⟨t, u, (l1 t u h1).2, h2⟩
      · exact .inr ⟨y, _, hu, by rw [h]; rfl⟩
    have kL : Kp (Dm L loc) w W := kF.wide fun k h => h.imp (fun h => h.elim) id
    have sub4 : ∀ b, L b → L4 b := fun b h => hlx4.sub b (hlx2.sub b (.inl h))
    let loc' : Nat → Option Value := fun t => if t = y then some (.func (.yield l) #[] #[]) else loc5 t
    have ly : loc' y = some (.func (.yield l) #[] #[]) := by simp [loc']
    have lo : ∀ t, t ≠ y → loc' t = loc5 t := fun t h => by simp [loc', h]
    have dm5 : ∀ k, k < W.heap.size → Dm L loc' k → Dm L4 loc5 k := fun k _ h => by
      rcases h with h | ⟨t, u, h1, h2⟩
      · exact .inl (sub4 k h)
      · by_cases e : t = y
        · subst e; rw [ly] at h1; cases h1; cases h2; exact .inl hlL4
        · exact .inr ⟨t, u, (lo t e) ▸ h1, h2⟩
    have dmF : ∀ b, Dm (fun _ => False) loc' b → Dm (fun _ => False) loc b ∨ w.heap.size ≤ b := fun b h => by
      rcases h with h | ⟨t, u, h1, h2⟩
      · exact h.elim
      · by_cases e : t = y
        · subst e; rw [ly] at h1; cases h1; exact .inl (.inr ⟨_, _, hu, h2⟩)
        · rcases fr5 b (.inr ⟨t, u, (lo t e) ▸ h1, h2⟩) with (h | ⟨t, u, h3, h4⟩) | h
          · exact h.elim
          · exact .inl (.inr ⟨t, u, (l1 t u h3).2, h4⟩)
          · exact .inr h
    have hDw : ∀ k, k < w.heap.size → Dm L loc' k → Dm L loc k := fun k hk h => by
      rcases h with h | h
      · exact .inl h
      · rcases dmF k (.inr h) with h | h
        · exact h.imp (fun h => h.elim) id
        · omega
    obtain ⟨hks, hsub, hQQ⟩ := hQ s5.hp hqb
    have keepx : ∀ k, AR n (Dm L loc') loc' W ((fr.lookup k).getD .junk) (tmps.getD k undef) := fun k => by
      have h1 := (htf k).keep (n := n) (ks := ks) (N' := n) (loc' := loc') (Nat.le_refl _) kL hDw fun t u ht hc h => by
        rcases hc with hc | hc
        · omega
        · obtain ⟨o, o', v, g1, g2, g3, g4⟩ := (hks t hc).spec
          obtain ⟨_, u1, g5, g6⟩ := hh.at' t o g1
          by_cases e : t = y
          · subst e; rw [hy5] at g2; cases g2
          · obtain ⟨_, u2, g7, g8⟩ := hr6.hp.at' t o' g2
            rw [lo t e, g7] at h; cases h
            rw [g5, g6.handle g3, g8.handle g4]
      cases hf : fr.lookup k with
      | none => exact .junk _
      | some x =>
        rw [hf] at h1
        have := hfr _ (mem_of_look hf)
        simp only at this
        simp only [Option.getD_some] at h1 ⊢
        rw [this] at h1; exact h1
    refine ⟨.bool true, loc', (y, .lrec l sp fr) :: s5.hp, _, rfl, hQQ, ⟨fun t o ho => ?_, fun t ho => ?_, fun t t' u u' b h1 h2 h3 h4 => ?_, fun b hb => hr6.hp.inL b (sub4 b hb), fun t u b h1 h2 h3 => ?_⟩, .of_val _ rfl, ⟨kF, dmF⟩⟩
    · by_cases e : t = y
      · subst e
        rw [lookup_cons_eq] at ho
        cases ho
        exact ⟨hyn, _, ly, rfl, tmps, by rw [hWl, hob2], htn, keepx⟩
      · rw [lookup_cons_ne e] at ho
        obtain ⟨g1, u, g2, g3⟩ := hr6.hp.at' t o ho
        rw [hN] at g1 g3
        refine ⟨g1, u, (lo t e).trans g2, ?_⟩
        have := g3.sub (t := y) (y := .junk) (N' := n) (D' := Dm L loc') (loc' := loc') (w' := W) (Nat.le_refl _) (Kp.refl _ _) dm5 (fun k z _ hk hz => (lo k hk) ▸ hz) (fun v _ _ => .junk v) (fun _ _ => rfl)
        rwa [hsub _ (mem_of_look ho)] at this
    · by_cases e : t = y
      · subst e; rw [lookup_cons_eq] at ho; cases ho
      · rw [lookup_cons_ne e] at ho
        rw [lo t e]; exact hr6.hp.dead t ho
    · by_cases e : t = y
      · by_cases e' : t' = y
        · rw [e, e']
        · subst e
          rw [ly] at h1; cases h1; cases h3
          rw [lo t' e'] at h2
          exact (hr6.hp.notL t' u' _ h2 h4 hlL4).elim
      · by_cases e' : t' = y
        · subst e'
          rw [ly] at h2; cases h2; cases h4
          rw [lo t e] at h1
          exact (hr6.hp.notL t u _ h1 h3 hlL4).elim
        · rw [lo t e] at h1
          rw [lo t' e'] at h2
          exact hr6.hp.apart t t' u u' b h1 h2 h3 h4
    · by_cases e : t = y
      · subst e
        rw [ly] at h1; cases h1
        exact hh.notL _ _ b hu h2 h3
      · rw [lo t e] at h1
        exact hr6.hp.notL t u b h1 h2 (sub4 b h3)
  | _ => exact hq.elim
theorem T.rangeF {P : Program} {Q : Exit → ASt → Prop} {s : ASt} {g : Operand} {ps : Array Tmp} {assign body : Code} (gf : FuncId) (caps : List AV) (fr : List (Nat × AV)) (hg : s.ev g = .fn (.func gf) caps) (he : Ent P gf) (hfr : ∀ p ∈ fr, s.get p.1 = p.2)
    (hc : ∀ l fn D, ∃ n hp I ks, MemC P gf n hp (.own s.N :: caps) I ∧ Passes (s.add (.lrec l ⟨s.n, fn, ps, assign, body, D⟩ fr)) n hp ∧ ((AV.own s.N :: caps).all (·.okB n)) = true ∧ ∀ hp' r, I hp' r → (∀ t ∈ ks, t < n → Kept hp hp' t) ∧ (∃ fr', hp'.lookup s.N = some (.lrec l ⟨s.n, fn, ps, assign, body, D⟩ fr')) ∧
      ∀ ob, Q .normal { (s.add (.lrec l ⟨s.n, fn, ps, assign, body, D⟩ fr)).callM n ks hp' with hp := setHp ((s.add (.lrec l ⟨s.n, fn, ps, assign, body, D⟩ fr)).callM n ks hp').hp s.N (.raw (.func (.yield l) #[] #[]) ob) }) : T Fence.wide P (.rangeFunc g ps assign body) Q s := fun L loc a w hr => by
  have h0 := hr.ev g (fun _ _ => trivial)
  rw [hg] at h0
  generalize hu : a.eval g = u at h0
  cases h0 with
  | fn _ _ lb hlb hla =>
  refine wpIn_rangeFunc fun fn _ => ?_
  obtain ⟨D, hD⟩ : ∃ D, D = w.heap.size := ⟨_, rfl⟩
  obtain ⟨W0, hW0⟩ : ∃ W0, W0 = w.alloc (.deferred (some [])) := ⟨_, rfl⟩
  have hs0 : W0.heap.size = D + 1 := by rw [hW0, hD]; simp
  obtain ⟨l, hl⟩ : ∃ l, l = W0.heap.size := ⟨_, rfl⟩
  obtain ⟨rec, hrec⟩ : ∃ rec, rec = Obj.loop { state := .ready, pending := none, fn, tmps := a.tmps, params := ps, assign, body, defers := D } := ⟨_, rfl⟩
  obtain ⟨W1, hW1⟩ : ∃ W1, W1 = W0.alloc rec := ⟨_, rfl⟩
  have b0 : Blw w.heap.size w W0 := by rw [hW0]; exact (Blw.refl _ _).alloc (Nat.le_refl _) _
  have b1 : Blw W0.heap.size W0 W1 := by rw [hW1]; exact (Blw.refl _ _).alloc (Nat.le_refl _) _
  have hD0 : W0.heap[D]? = some (.deferred (some [])) := by rw [hW0, hD]; exact World.alloc_heap_new _ _
  obtain ⟨n, hp, I, ks, hm, hps, hok, hI⟩ := hc l fn D
  -- the limits behind the statement's beginning
  let L1 : Lim := ⟨fun b => L b ∨ b = D, mark D :: L.ds⟩
  have dm1 : ∀ k, k < w.heap.size → Dm L1 loc k → Dm L loc k := fun k hk h => by
    rcases h with (h | h) | h
    · exact .inl h
    · omega
    · exact .inr h
  have notD : ∀ t u, loc t = some u → blkOf u ≠ some D := fun t u h e => by
    obtain ⟨o, _, ho⟩ := hr.hp.loc_obj h
    have := ho.blk_lt e
    omega
  have hr0 : Rel All L1 s loc { a with defers := mark D :: a.defers } W0 := ⟨by show mark D :: a.defers = mark D :: L.ds; rw [hr.defers], hr.size, fun t _ => (hr.fr t trivial).mono (Nat.le_refl _) (.of_below b0) dm1 (fun _ _ _ h => h),
    ⟨fun t o ho => let ⟨g1, u, g2, g3⟩ := hr.hp.at' t o ho; ⟨g1, u, g2, g3.mono (Nat.le_refl _) (.of_below b0) dm1 (fun _ _ _ h => h) (fun b hb => b0.block b (g3.blk_lt hb))⟩, hr.hp.dead, hr.hp.apart, fun b hb => by
      rcases hb with hb | hb
      · have := hr.hp.inL b hb; omega
      · omega, fun t u b h1 h2 h3 => by
      rcases h3 with h3 | h3
      · exact hr.hp.notL t u b h1 h2 h3
      · exact notD t u h1 (h3 ▸ h2)⟩⟩
  have hup : ∀ b, blkOf (.func (.yield l) #[] #[]) = some b → W0.heap.size ≤ b := fun b e => by cases e; rw [hl]; exact Nat.le_refl _
  have hWl : W1.heap[l]? = some rec := by rw [hW1, hl]; exact World.alloc_heap_new _ _
  let sp : LSpec := ⟨s.n, fn, ps, assign, body, D⟩
  have hr1 : Rel All L1 (s.add (.lrec l sp fr)) (setLoc loc s.N (.func (.yield l) #[] #[])) { a with defers := mark D :: a.defers } W1 := by
    refine hr0.add b1 (.func (.yield l) #[] #[]) (.lrec l sp fr) hup ⟨rfl, a.tmps, by rw [hWl, hrec], hr.size, fun t => ?_⟩
    cases hf : fr.lookup t with
    | none => exact .junk _
    | some x =>
      have h1 := hr0.fr t trivial
      rw [hfr _ (mem_of_look hf)] at h1
      exact h1.mono (Nat.le_succ _) (.of_below b1) (fun k hk hd => (dm_set hd).resolve_left fun e => by have := hup k e; omega) (fun k v hk hv => by rwa [setLoc_other _ _ (by omega)] at hv)
  have x1 : Ext loc w (setLoc loc s.N (.func (.yield l) #[] #[])) W1 := (Ext.of_below b0).trans (.add b1 _ _ hup)
  obtain ⟨LC, locC, h1, h2, h3⟩ := mem_call hr1 hps ks
  have hcall := hm LC locC W1 (.func (.yield l) #[] #[] :: lb.toList) h1 ⟨by simp [hlb], fun j x v hx hv => by
    refine h2 x v (List.all_eq_true.1 hok x (List.mem_of_getElem? hx)) ?_
    cases j with
    | zero =>
      cases hx; cases hv
      exact .own _ _ (Nat.lt_succ_self _) rfl fun z hz => by rw [setLoc_same] at hz; cases hz; rfl
    | succ j =>
      have h5 := hla j x hx
      have h6 : lb[j]? = some v := by simpa using hv
      rw [Array.getD_eq_getD_getElem?, h6] at h5
      exact (h5.mono (D' := Dm L1 loc) (Nat.le_refl _) (.of_below b0) dm1 (fun _ _ _ h => h)).mono (Nat.le_succ _) (.of_below b1) (fun k hk hd => (dm_set hd).resolve_left fun e => by have := hup k e; omega) (fun k v hk hv => by rwa [setLoc_other _ _ (by omega)] at hv)⟩
  refine ⟨l, [mark D], W1, { target := .fn (.func gf) lb, args := #[.func (.yield l) #[] #[]] }, W1, gf, (.func (.yield l) #[] #[] :: lb.toList).toArray, W1, ?_, ?_, fun _ _ => trivial, ?_, (by intro h; cases h), callsIn_wide.2 (hcall.mono ?_)⟩
  · rw [hW1, hrec, hl, hs0, hD, hW0]
    exact run_enterLoop_outer _ _ _ _ _
  · simp only [resolve, hu]
    simp [go_sem]
  · have e : (Value.func (.yield l) #[] #[] :: lb.toList).toArray = #[.func (.yield l) #[] #[]] ++ lb := by apply Array.ext'; simp
    rw [e]
    have := he (#[.func (.yield l) #[] #[]] ++ lb) W1
    simp [invoke, go_sem, this]
  · rintro e W2 ⟨v, loc', hp', r, rfl, hQ, g1, g2, g3⟩
    obtain ⟨q1, ⟨fr', q2⟩, q3⟩ := hI hp' r hQ
    obtain ⟨loc2, g4, g5, _⟩ := h3 W2 loc' hp' g1 g3 q1
    have hlk : ((s.add (.lrec l sp fr)).callM n ks hp').hp.lookup s.N = some (.lrec l sp fr') := by
      simp only [ASt.callM]
      rw [lookup_apd, q2]; rfl
    obtain ⟨_, u2, hu2, rfl, tmps2, hW2, _⟩ := g4.hp.at' s.N _ hlk
    have hW2l := (Array.getElem?_eq_some_iff.1 hW2).1
    refine ⟨none, _, run_endLoop hW2 (by simp), ?_⟩
    obtain ⟨ob, hob⟩ : ∃ ob, ob = Obj.loop { state := .exhausted, pending := none, fn := sp.fn, tmps := tmps2, params := sp.ps, assign := sp.assign, body := sp.body, defers := sp.D } := ⟨_, rfl⟩
    rw [← hob]
    have hr4 := g4.turn (o' := .raw (.func (.yield l) #[] #[]) ob) hlk hu2 rfl (kp_putObj W2 ob) ⟨l, rfl, rfl, World.putObj_heap_same hW2l⟩
    have x4 : Ext loc2 W2 loc2 (W2.putObj l ob) := .turn hu2 rfl (kp_putObj W2 ob)
    have x5 := (x1.trans g5).trans x4
    have hDl : D ≠ l := by omega
    have hW1D : W1.heap[D]? = some (.deferred (some [])) := (b1.block D (by omega)).trans hD0
    have hW2D : W2.heap[D]? = some (.deferred (some [])) := (g5.kp.block D (Array.getElem?_eq_some_iff.1 hW1D).1 (fun h => by
      rcases h with h | ⟨t, u, h5, h6⟩
      · exact h
      · exact hr1.hp.notL t u D h5 h6 (.inr rfl))).trans hW1D
    exact ⟨_, loc2, q3 ob, ⟨L1, hr4, ⟨⟨[D], rfl, by simp, fun x hx => by
      rw [List.mem_singleton] at hx
      subst hx
      exact ⟨by omega, .inr rfl, by rw [World.putObj_heap_other hDl]; exact hW2D⟩⟩, fun b hb => .inl hb, fun b hb => hb.imp id fun e => by omega⟩⟩, x5⟩
end Go.Proofs.Ytbhkcejjehgfcaa
namespace Go.Proofs.Ytbhkcejjehgfcaa
open Go.RowKit Go.Sort
set_option linter.unusedSimpArgs false
set_option linter.unusedVariables false
def commAtT (ops : Array Oper) (l : List Oper) (fl : Fl) (size i : Nat) (o : Oper) (f : Option (Nat × Nat)) : Bool :=
  (match o.dst with | some d => decide (d < size) | none => f.isNone) &&
  (o.after.all (fun e => !Region.binds .any e || decide (e.on < i)) &&
  ((o.looksAt ops).all (fun t => decide (t < size) && (List.range l.length).all fun j => ((l[j]?).bind (·.dst)) != some t || edgeB ops i j) &&
  ((List.range l.length).all (fun j => i == j || o.dst.isNone || ((l[j]?).bind (·.dst)) != o.dst) &&
  (match f with
    | some (lo, hi) => (decide (lo = 0) || (List.range l.length).any fun k => wrB fl k && (rkf fl k + 1 == lo && edgeB ops i k)) && (decide (rkf fl fl.length ≤ hi) || (List.range l.length).any fun k => wrB fl k && (rkf fl k == hi && edgeB ops k i))
    | none => o.guard.isNone && (decide (rkf fl i = 0) || (List.range l.length).any fun k => wrB fl k && (rkf fl k + 1 == rkf fl i && edge2B ops i k))))))
def commBT (ops : Array Oper) (l : List Oper) (fl : Fl) (size : Nat) : Bool :=
  decide (fl.length = l.length) && ((decide (rkf fl fl.length = 0) || (List.range fl.length).any fun i => wrB fl i && rkf fl i + 1 == rkf fl fl.length) &&
  (List.range l.length).all fun i => match l[i]?, fl[i]? with
    | some o, some f => commAtT ops l fl size i o f
    | _, _ => false)
theorem commBT_at {ops : Array Oper} {l : List Oper} {fl : Fl} {size i : Nat} {o : Oper} (h : commBT ops l fl size = true) (ho : l[i]? = some o) : ∃ f, fl[i]? = some f ∧ commAtT ops l fl size i o f = true := by
  simp only [commBT, Bool.and_eq_true, List.all_eq_true, List.mem_range] at h
  have := h.2.2 i (List.getElem?_eq_some_iff.1 ho).1
  rw [ho] at this
  cases hf : fl[i]? with
  | none => simp [hf] at this
  | some f => simp [hf] at this; exact ⟨f, rfl, this⟩
theorem fitT_of {ops : Array Oper} {l : List Oper} {fl : Fl} (hpre : ∀ (i : Nat) (o : Oper), l[i]? = some o → ops[i]? = some o) {size : Nat} (h : commBT ops l fl size = true) : Fit ops (l.zip fl) := by
  refine ⟨fun i j a b ha hb hij t ht e => ?_, fun i j a b d ha hb hij hd e => ?_, fun a ha hs => ?_⟩
  · obtain ⟨o, f⟩ := a
    obtain ⟨o', f'⟩ := b
    obtain ⟨h1, h2⟩ := zip_at ha
    obtain ⟨h3, h4⟩ := zip_at hb
    obtain ⟨f2, hf2, hc⟩ := commBT_at h h1
    simp only [commAtT, Bool.and_eq_true, List.all_eq_true, List.mem_range] at hc
    have := (hc.2.2.1 t ht).2 j (List.getElem?_eq_some_iff.1 h3).1
    simp only [Bool.or_eq_true, h3] at this
    rcases this with h5 | h5
    · simp at h5; exact h5 e
    · obtain ⟨o2, ed, e1, e2, e3, e4⟩ := edgeB_spec h5
      have e1' := hpre i o h1
      rw [e1] at e1'; cases e1'
      have := Array.all_eq_true_iff_forall_mem.1 hc.2.1 ed e2
      simp only [e3, Bool.not_true, Bool.false_or, decide_eq_true_eq] at this
      omega
  · obtain ⟨o, f⟩ := a
    obtain ⟨o', f'⟩ := b
    obtain ⟨h1, h2⟩ := zip_at ha
    obtain ⟨h3, h4⟩ := zip_at hb
    obtain ⟨f2, hf2, hc⟩ := commBT_at h h1
    simp only [commAtT, Bool.and_eq_true, List.all_eq_true, List.mem_range] at hc
    have := hc.2.2.2.1 j (List.getElem?_eq_some_iff.1 h3).1
    simp only at hd e
    simp [h3, hd, e] at this
    omega
  · obtain ⟨i, hi⟩ := List.mem_iff_getElem?.1 ha
    obtain ⟨o, f⟩ := a
    obtain ⟨h1, h2⟩ := zip_at hi
    obtain ⟨f2, hf2, hc⟩ := commBT_at h h1
    rw [h2] at hf2; cases hf2
    simp only [commAtT, Bool.and_eq_true] at hc
    have h3 := hc.1
    split at h3
    · rename_i d hd; exact ⟨d, hd⟩
    · cases f with
      | none => cases hs
      | some f => cases h3
theorem WS.sound {P : Program} {ops : Array Oper} {Q : Exit → ASt → Prop} {o : Oper} {rest : List Oper} {s : ASt} (h : WS P (ops.toList.map (·.dst)) o s (TL P ops Q rest)) : TL P ops Q (o :: rest) s := by
  obtain ⟨hd, h⟩ := h
  split at h
  · rename_i hg
    exact WO.sound (by simp [Wants, hg]) hd h
  · rename_i g want hg
    split at h
    · rename_i t ht
      have ht' : (ops[g]?).bind (·.dst) = some t := by
        simp only [List.getElem?_map, Option.map_eq_some_iff, Array.getElem?_toList] at ht
        obtain ⟨o', h1, h2⟩ := ht
        rw [h1]; exact h2
      split at h
      · rename_i b hb
        by_cases hbw : b = want
        · have hw := (Sq.same (s := s) (t := t) (x := .bool want) (by rw [hb, hbw])).weak
          exact TL.weak hw (WO.sound (by simp only [Wants, hg, ht', ASt.get_put, if_true]) (by unfold dstOk at hd ⊢; exact hd) (h.1 hbw))
        · have hbn : b = (!want) := by cases b <;> cases want <;> simp_all
          have hw := (Sq.same (s := s) (t := t) (x := .bool (!want)) (by rw [hb, hbn])).weak
          exact TL.weak hw (TL.skip (by simp only [Unwanted, hg, ht', ASt.get_put, if_true]; exact .inl trivial) (h.2 hbn) hd.h)
      · rename_i hb
        exact TL.skip (by simp only [Unwanted, hg, ht']; exact .inr hb) h hd.h
      · exact h.elim
    · exact h.elim
def WLW (P : Program) (ds : List (Option Nat)) (Q : ASt → Prop) : List Oper → ASt → Prop
  | [], s => Q s
  | o :: rest, s => ∃ s', Weak s s' ∧ WS P ds o s' (WLW P ds Q rest)
theorem WLW.sound {P : Program} {ops : Array Oper} {Q : Exit → ASt → Prop} : ∀ {l : List Oper} {s : ASt}, WLW P (ops.toList.map (·.dst)) (Q .normal) l s → TL P ops Q l s
  | [], _, h => TL.nil h
  | _ :: _, _, ⟨_, h1, h2⟩ => TL.weak h1 (WS.sound (WS.mono (fun _ k => WLW.sound k) h2))
theorem WLW.step {P : Program} {ds : List (Option Nat)} {Q : ASt → Prop} {o : Oper} {rest : List Oper} {s : ASt} (h : ∀ K : ASt → Prop, (∀ s, WLW P ds Q rest s → K s) → WS P ds o s K) : WLW P ds Q (o :: rest) s := ⟨s, Weak.refl s, h _ fun _ h => h⟩
theorem WLW.weak {P : Program} {ds : List (Option Nat)} {Q : ASt → Prop} {o : Oper} {rest : List Oper} {s s' : ASt} (hw : Weak s s') (h : WLW P ds Q (o :: rest) s') : WLW P ds Q (o :: rest) s := let ⟨s2, h1, h2⟩ := h; ⟨s2, hw.trans h1, h2⟩
theorem WLW.fin {P : Program} {ds : List (Option Nat)} {Q : ASt → Prop} {s : ASt} (h : Q s) : WLW P ds Q [] s := h
theorem T.regW {F : Fence} [FOk F] {P : Program} {Q : Exit → ASt → Prop} {s : ASt} {id : Nat} {l : List Oper} (hd : noDefB l = true) (h : ∀ K : ASt → Prop, (∀ s, Q .normal s → K s) → WLW P (l.map (·.dst)) K l s) : T F P (.region id l.toArray false) Q s :=
  T.region hd (WLW.sound (ops := l.toArray) (by rw [show NQ Q .normal = Q .normal from funext (NQ.normal Q)]; simpa using h _ fun _ h => h))
def tailB (ops : Array Oper) (n : Nat) : Bool := decide (n ≤ ops.size) && ((List.range n).all (fun i => match ops[i]? with | none => false | some o => o.after.all (fun e => !Region.binds .any e || decide (e.on < i))) &&
  ((decide (n = ops.size) || (Region.sinkB .any ops n && Region.chainB .any ops n)) && Region.seqB .any ops (ops.size - n) n (headDone ops.size n)))
theorem T.commT {F : Fence} [FOk F] {P : Program} {Q : Exit → ASt → Prop} {s : ASt} {id : Nat} {l : List Oper} (n : Nat) (fl : Fl) (hm : P.follows .mixedOrders = true) (hB : (noDefB l && (commBT l.toArray (l.take n) fl s.n && tailB l.toArray n)) = true)
    (h : ∀ K : ASt → Prop, (∀ s, WLW P (l.map (·.dst)) (Q .normal) (l.drop n) s → K s) → WC P (l.map (·.dst)) K ((l.take n).zip fl) [] [] s) : T F P (.region id l.toArray true) Q s := fun L loc a w hr => by
  obtain ⟨hnd, hB⟩ := Bool.and_eq_true_iff.1 hB
  obtain ⟨hB, htB⟩ := Bool.and_eq_true_iff.1 hB
  simp only [tailB, Bool.and_eq_true, decide_eq_true_eq, Bool.or_eq_true] at htB
  obtain ⟨hnle, hdep, htail, hseq⟩ := htB
  obtain ⟨lh, hlh⟩ : ∃ lh, lh = l.take n := ⟨_, rfl⟩
  rw [← hlh] at hB h
  have hlhl : lh.length = n := by rw [hlh, List.length_take]; simp at hnle; omega
  have hpre : ∀ (i : Nat) (o : Oper), lh[i]? = some o → l.toArray[i]? = some o := fun i o hi => by
    rw [List.getElem?_toArray]
    rw [hlh, List.getElem?_take] at hi
    split at hi
    · exact hi
    · cases hi
  have hback : ∀ (i : Nat) (o : Oper), i < n → l.toArray[i]? = some o → lh[i]? = some o := fun i o hi ho => by
    rw [hlh, List.getElem?_take, if_pos hi]; simpa using ho
  refine wpIn_mono (wpIn_region_any hm (any_in NQ.out (noDefB_spec hnd) _ _ _ _ ?_)) fun _ _ _ k => NQ.post k
  change wpAny P .any l.toArray (TPost L loc w (NQ Q)) _ _ a w.drew
  have hfit := fitT_of hpre hB
  have hlen : fl.length = lh.length := by simp only [commBT, Bool.and_eq_true, decide_eq_true_eq] at hB; exact hB.1
  have hsz : l.toArray.size = l.length := by simp
  have hgd : ∀ x ∈ lh.zip fl, x.2 = none → x.1.guard = none := fun x hx hn => by
    obtain ⟨i, hi⟩ := List.mem_iff_getElem?.1 hx
    obtain ⟨o, f⟩ := x
    obtain ⟨h1, h2⟩ := zip_at hi
    obtain ⟨f2, hf2, hc⟩ := commBT_at hB h1
    rw [h2] at hf2; cases hf2
    simp only at hn; subst hn
    simp only [commAtT, Bool.and_eq_true] at hc
    simpa using hc.2.2.2.2.1
  obtain ⟨fin, hps, hq, ho⟩ := WC.out (ops := l.toArray) (lh.zip fl) [] [] s hfit (by simpa using h _ fun _ h => h) (fun p hp => (by cases hp)) hgd
  obtain ⟨tl, hmem, htl⟩ := ho.mem
  simp only [List.nil_append] at hmem
  have hm' : wct (lh.zip fl) = rkf fl fl.length := by
    have := wct_zip (l := lh) (fl := fl) fl.length hlen
    rw [List.take_of_length_le (by simp; omega)] at this
    exact this
  have hpl : hps.length = rkf fl fl.length + 1 := by rw [hmem]; simp [htl, hm']
  have hn : fin.n = s.n := ho.n
  -- what a ready operation knows
  have ready : ∀ {listed : Array Bool} {i k : Nat}, i ∈ Region.ready .any l.toArray listed → edgeB l.toArray i k = true → listed.getD k false = true := by
    intro listed i k hi he
    obtain ⟨o, e, h1, h2, h3, h4⟩ := edgeB_spec he
    obtain ⟨_, o', ho', hall⟩ := mem_ready.1 hi
    rw [h1] at ho'; cases ho'
    rw [← h4]; exact hall e h2 h3
  let I : Array Bool → Act → World → Prop := fun listed a' w' => ∃ (j : Nat) (hj : Hp × Nat) (loc' : Nat → Option Value), HeadInv .any l.toArray n listed ∧ j ≤ rkf fl fl.length ∧
    (∀ i, fl[i]? = some none → (listed.getD i false = true ↔ rkf fl i < j)) ∧ hps[j]? = some hj ∧ Rel All L (midS lh fin listed hj) loc' a' w' ∧ Ext loc w loc' w'
  have looks : ∀ {listed : Array Bool} {i : Nat} {o : Oper} {hj : Hp × Nat}, lh[i]? = some o → i ∈ Region.ready .any l.toArray listed → ∀ t ∈ o.looksAt l.toArray, (midS lh fin listed hj).get t = fin.get t := by
    intro listed i o hj hio hi t ht
    obtain ⟨f, hf, hc⟩ := commBT_at hB hio
    simp only [commAtT, Bool.and_eq_true, List.all_eq_true, List.mem_range] at hc
    obtain ⟨h1, h2⟩ := hc.2.2.1 t ht
    have hk : known lh listed t = true := by
      simp only [known, List.all_eq_true, List.mem_range, Bool.or_eq_true]
      intro k hk
      have := h2 k hk
      simp only [Bool.or_eq_true] at this
      exact this.imp (fun h => h) (fun he => ready hi he)
    rw [midS_get, if_neg (by rw [hk]; simp)]
  have dsts : ∀ {i : Nat} {o : Oper} {d : Nat}, lh[i]? = some o → o.dst = some d → d < s.n := by
    intro i o d hio hd
    obtain ⟨f, hf, hc⟩ := commBT_at hB hio
    simp only [commAtT, Bool.and_eq_true] at hc
    have := hc.1
    rw [hd] at this
    simpa using this
  have hclo : ∀ {listed : Array Bool}, HeadInv .any l.toArray n listed → ∀ i k, listed.getD i false = true → edgeB l.toArray i k = true → listed.getD k false = true := fun hin i k hi he => by
    obtain ⟨o, e, h1, h2, h3, h4⟩ := edgeB_spec he
    rw [← h4]; exact hin.closed i o h1 hi e h2 h3
  -- the frame after an operation
  have frame : ∀ {listed : Array Bool} {i : Nat} {o : Oper} {hj : Hp × Nat} {av : AV}, lh[i]? = some o → i < listed.size → av = dav o fin → ∀ t, (midS lh fin (listed.setIfInBounds i true) hj).get t = .junk ∨ (midS lh fin (listed.setIfInBounds i true) hj).get t = ((midS lh fin listed hj).put o.dst av).get t := by
    intro listed i o hj av hio hi hav t
    rw [midS_get]
    split
    · left; rfl
    · rename_i hk
      right
      have old : o.dst ≠ some t → (midS lh fin listed hj).get t = fin.get t := fun hd => by
        rw [midS_get, if_neg]
        rintro ⟨h1, h2⟩
        refine hk ⟨h1, ?_⟩
        cases h3 : known lh (listed.setIfInBounds i true) t with
        | false => rfl
        | true => rw [known_set hio hi h3 hd] at h2; cases h2
      cases hd : o.dst with
      | none => exact (old (by rw [hd]; intro e; cases e)).symm
      | some d =>
        rw [ASt.get_put]
        split
        · rename_i e; rw [e, hav]; simp [dav, hd]
        · rename_i e
          exact (old (by rw [hd]; intro e'; cases e'; exact e rfl)).symm
  have toMid : ∀ {listed : Array Bool} {i : Nat} {o : Oper} {hj : Hp × Nat} {av : AV} {loc' : Nat → Option Value} {a' : Act} {w' : World}, lh[i]? = some o → i < listed.size → av = dav o fin → Rel All L ((midS lh fin listed hj).put o.dst av) loc' a' w' → Rel All L (midS lh fin (listed.setIfInBounds i true) hj) loc' a' w' := by
    intro listed i o hj av loc' a' w' hio hi hav hrel
    have hput : ∀ (s : ASt) (d : Option Nat) (x : AV), (s.put d x).hp = s.hp ∧ (s.put d x).n = s.n ∧ (s.put d x).N = s.N := fun s d x => by cases d <;> exact ⟨rfl, rfl, rfl⟩
    obtain ⟨p1, p2, p3⟩ := hput (midS lh fin listed hj) o.dst av
    refine ⟨hrel.defers, hrel.size.trans p2, fun t ht => ?_, by have := hrel.hp; rw [p1, p3] at this; exact this⟩
    have h1 := hrel.fr t trivial
    rw [p3] at h1
    rcases frame (hj := hj) hio hi hav t with e | e
    · rw [e]; exact .junk _
    · rw [e]; exact h1
  have hstart : I (Array.replicate l.toArray.size false) a w.drew := by
    refine ⟨0, (s.hp, s.N), loc, ⟨by simp, fun j oj _ hl => (by rw [getD_replicate_false] at hl; cases hl), fun t _ ht => getD_in (by simpa using ht) (getD_replicate_false _ _)⟩, Nat.zero_le _, fun i _ => ⟨fun hi => (by rw [getD_replicate_false] at hi; cases hi), fun hi => absurd hi (Nat.not_lt_zero _)⟩, by rw [hmem]; rfl, ?_, .of_below (Blw.refl _ _).drew⟩
    have hrd := hr.below (Blw.refl _ _).drew
    refine ⟨hrd.defers, hrd.size.trans hn.symm, fun t _ => ?_, hrd.hp⟩
    rw [midS_get]
    split
    · exact .junk _
    · rename_i hk
      rw [ho.out t (fun e he hd => ?_)]
      · exact hrd.fr t trivial
      · obtain ⟨i, hi⟩ := List.mem_iff_getElem?.1 he
        obtain ⟨o, f⟩ := e
        obtain ⟨h1, h2⟩ := zip_at hi
        simp only at hd
        refine hk ⟨by rw [hn]; exact dsts h1 hd, ?_⟩
        cases h3 : known lh (Array.replicate l.toArray.size false) t with
        | false => rfl
        | true =>
          simp only [known, List.all_eq_true, List.mem_range, Bool.or_eq_true] at h3
          rcases h3 i (List.getElem?_eq_some_iff.1 h1).1 with h3 | h3
          · simp [h1, hd] at h3
          · rw [getD_replicate_false] at h3; cases h3
  refine wpAny_head (n := n) (g := l.toArray.size - n) I (fun _ _ _ ⟨_, _, _, hinv, _⟩ => hinv) (fun listed inv h0 => head_waits hnle hdep htail inv h0) ?_ ?_ _ _ _ _ ?_ hstart
  · -- a step
    intro listed a' w' i ⟨j, hj, loc', hinv, hjm, hwr, hhj, hrel, hext⟩ hin hrdy
    have hsl : listed.size = l.length := by rw [hinv.size]; simp
    have hcl := hclo hinv
    obtain ⟨hun, o, hio', hall⟩ := mem_ready.1 hrdy
    have hio : lh[i]? = some o := hback i o hin hio'
    have hil : i < l.length := by have := (Array.getElem?_eq_some_iff.1 hio').1; simpa using this
    have hun' : ¬ listed.getD i false = true := fun e => by
      have hlt : i < listed.size := by omega
      simp [hlt] at e hun; rw [e] at hun; cases hun
    obtain ⟨f, hf, hc⟩ := commBT_at hB hio
    have hzip : (lh.zip fl)[i]? = some (o, f) := by rw [List.getElem?_zip_eq_some]; exact ⟨hio, hf⟩
    simp only [commAtT, Bool.and_eq_true, List.all_eq_true] at hc
    obtain ⟨_, _, _, _, hc5⟩ := hc
    have hlk := looks (hj := hj) hio hrdy
    unfold wpOp
    rw [hio']
    cases f with
    | some lh =>
      obtain ⟨lo, hi⟩ := lh
      simp only [Bool.and_eq_true, Bool.or_eq_true, decide_eq_true_eq, List.any_eq_true, List.mem_range, beq_iff_eq] at hc5
      obtain ⟨c1, c2⟩ := hc5
      have hlo : lo ≤ j := by
        rcases c1 with c1 | ⟨k, _, k1, k2, k3⟩
        · omega
        · have := (hwr k (wrB_spec k1)).1 (ready hrdy k3)
          omega
      have hhi : j ≤ hi := by
        rcases c2 with c2 | ⟨k, _, k1, k2, k3⟩
        · omega
        · refine Nat.le_of_not_lt fun hlt => hun' (hcl k i ((hwr k (wrB_spec k1)).2 (by omega)) k3)
      obtain ⟨d, hd⟩ := hfit.dst _ (List.mem_of_getElem? hzip) rfl
      simp only at hd
      have hgok := ho.val i o lo hi hzip d hd j hj hlo hhi hhj
      have hrl : Rel (Go.Proofs.Ytbhkcejjehgfcaa.looks l.toArray o) L ⟨fin.fr, hj.1, fin.n, hj.2⟩ loc' a' w' := ⟨hrel.defers, hrel.size, fun t ht => by have := hrel.fr t trivial; rw [hlk t ht] at this; exact this, hrel.hp⟩
      have after : ∀ {v : Value} {w2 : World}, Blw w'.heap.size w' w2 → AR hj.2 (Dm L loc') loc' w2 (fin.get d) v → I (listed.setIfInBounds i true) (a'.put o.dst v) w2 := by
        intro v w2 hb hav
        refine ⟨j, hj, loc', hinv.set hrdy hin, hjm, fun k hk => ?_, hhj, ?_, hext.trans (.of_below hb)⟩
        · have hne : i ≠ k := fun e => by subst e; rw [hf] at hk; cases hk
          rw [getD_set_ne false hne]; exact hwr k hk
        · refine toMid (av := fin.get d) hio (by omega) (by simp [dav, hd]) ?_
          exact (hrel.below hb).put' (fun t ht => by show t < fin.n; rw [hn]; exact dsts hio ht) hav
      unfold GOK at hgok
      split at hgok
      · rename_i hg
        have hw : Region.wanted o (yielded l.toArray a'.tmps) = true := by simp [Region.wanted, hg]
        simp only [hw, if_true]
        refine .inl ?_
        unfold Oper.wp
        rcases hgok L loc' a' w' hrl with ⟨v, w2, h1, h2, h3⟩ | ⟨g, args, h1, h2⟩
        · rw [h1]; exact after h2 h3
        · rw [h1]
          refine h2.mono fun e w2 ⟨v, he, hb, hav⟩ => ?_
          subst he
          exact after hb hav
      · rename_i g want hg
        rcases hgok with ⟨t, b, ht, hb, h3, h4⟩ | ⟨t, ht, hb, h4⟩
        rotate_left
        · have htm : t ∈ o.looksAt l.toArray := List.mem_append.2 (.inr (by rw [hg]; simp only [ht]; simp))
          have hw := und_wanted hrl htm hg ht hb
          simp only [hw, Bool.false_eq_true, if_false]
          exact after (Blw.refl _ _) (by rw [h4]; exact .tup [] #[] rfl (fun j x hx => by simp at hx))
        have htm : t ∈ o.looksAt l.toArray := List.mem_append.2 (.inr (by rw [hg]; simp only [ht]; simp))
        have hbt := guard_slot hrl (t := t) (b := b) htm hb
        have hwt : Region.wanted o (yielded l.toArray a'.tmps) = (b == want) := by
          simp only [Region.wanted, hg, yielded, ht, hbt, Option.bind_some]
          cases b <;> cases want <;> rfl
        by_cases e : b = want
        · have hw : Region.wanted o (yielded l.toArray a'.tmps) = true := by rw [hwt]; simpa using e
          simp only [hw, if_true]
          refine .inl ?_
          unfold Oper.wp
          rcases h3 e L loc' a' w' hrl with ⟨v, w2, h1, h2, h3⟩ | ⟨g, args, h1, h2⟩
          · rw [h1]; exact after h2 h3
          · rw [h1]
            refine h2.mono fun e w2 ⟨v, he, hb, hav⟩ => ?_
            subst he
            exact after hb hav
        · have hw : Region.wanted o (yielded l.toArray a'.tmps) = false := by rw [hwt]; simpa using e
          simp only [hw, Bool.false_eq_true, if_false]
          exact after (Blw.refl _ _) (by rw [h4 e]; exact .tup [] #[] rfl (fun j x hx => by simp at hx))
    | none =>
      simp only [Bool.and_eq_true, Bool.or_eq_true, decide_eq_true_eq, List.any_eq_true, List.mem_range, beq_iff_eq] at hc5
      obtain ⟨c1, c2⟩ := hc5
      have hge : ¬ rkf fl i < j := fun e => hun' ((hwr i hf).2 e)
      have hj' : rkf fl i = j := by
        rcases c2 with c2 | ⟨k, _, k1, k2, k3⟩
        · omega
        · have hk3 : listed.getD k false = true := by
            simp only [edge2B, Bool.or_eq_true, List.any_eq_true, Bool.and_eq_true] at k3
            rcases k3 with k3 | ⟨j', _, j1, j2⟩
            · exact ready hrdy k3
            · exact hcl j' k (ready hrdy j1) j2
          have := (hwr k (wrB_spec k1)).1 hk3
          omega
      obtain ⟨h1, h2, e1, e2, hwe⟩ := ho.wr i o hzip
      rw [wct_zip i hlen] at e1 e2
      simp only [List.length_nil, Nat.zero_add, hj'] at e1 e2
      rw [hhj] at e1; cases e1
      have hg : o.guard = none := by simpa using c1
      have hw : Region.wanted o (yielded l.toArray a'.tmps) = true := by simp [Region.wanted, hg]
      simp only [hw, if_true]
      refine .inl ?_
      have := hwe (midS lh fin listed hj) rfl rfl rfl hlk (fun t ht => by show t < fin.n; rw [hn]; exact dsts hio ht) L loc' a' w' hrel
      refine oper_mono (fun a2 w2 ⟨loc2, hr2, hx2⟩ => ?_) (fun _ _ _ h => h.elim) this
      refine ⟨j + 1, h2, loc2, hinv.set hrdy hin, by have := rkf_lt hf; omega, fun k hk => ?_, e2, ?_, hext.trans hx2⟩
      · by_cases e : i = k
        · subst e
          have hlt : i < listed.size := by omega
          simp [hlt]; omega
        · rw [getD_set_ne false e, hwr k hk]
          have : rkf fl k ≠ j := fun e' => e (rkf_inj hf hk (hj'.trans e'.symm))
          omega
      · exact toMid (av := dav o fin) hio (by omega) rfl hr2
  · -- the tail
    intro listed a' w' ⟨j, hj, loc', hinv, hjm, hwr, hhj, hrel, hext⟩ h0 f hf
    have hl := headDone_eq hinv h0
    have all : ∀ i, i < lh.length → listed.getD i false = true := by
      intro i hi
      rw [hl]
      have : i < l.length := by simp at hnle; omega
      simp [headDone, this]; omega
    have hjl : j = rkf fl fl.length := by
      simp only [commBT, Bool.and_eq_true, Bool.or_eq_true, decide_eq_true_eq, List.any_eq_true, List.mem_range, beq_iff_eq] at hB
      rcases hB.2.1 with h0 | ⟨i, h1, h2, h3⟩
      · omega
      · have := (hwr i (wrB_spec h2)).1 (all i (by omega))
        omega
    have hlast : hj = (fin.hp, fin.N) := by
      have h1 := ho.last
      rw [List.getLast?_eq_getElem?, hpl] at h1
      rw [hjl] at hhj
      simp only [Nat.add_sub_cancel] at h1
      rw [h1] at hhj
      exact (Option.some.inj hhj).symm
    subst hlast
    have hrf : Rel All L fin loc' a' w' := ⟨hrel.defers, hrel.size, fun t _ => by
      have hk : known lh listed t = true := by
        simp only [known, List.all_eq_true, List.mem_range, Bool.or_eq_true]
        exact fun i hi => .inr (all i hi)
      have h1 := hrel.fr t trivial
      rw [midS_get, if_neg (by rw [hk]; simp)] at h1
      exact h1, hrel.hp⟩
    have hTL : TL P l.toArray (NQ Q) (l.drop n) fin := WLW.sound (by rw [show NQ Q .normal = Q .normal from funext (NQ.normal Q)]; simpa using hq)
    have hwl := wpList_mono (fun _ _ _ k => k.ext hext) (l.drop n) a' w' (hTL L loc' a' w' hrf)
    have hdl : (l.drop n).length = l.toArray.size - n := by simp
    have := wpAny_of_seq (md := .any) (Q' := TPost L loc w (NQ Q)) (l.drop n) n listed a' w' (fun j => by simp [List.getElem?_drop]) (by rw [hdl, hl]; exact hseq) hwl
    rw [hdl] at this
    have h2 := wpAny_more _ (f - (l.toArray.size - n)) _ _ _ this
    rwa [show l.toArray.size - n + (f - (l.toArray.size - n)) = f by omega] at h2
  · -- the fuel
    have : headLeft (Array.replicate l.toArray.size false) n ≤ n := by
      unfold headLeft
      exact Nat.le_trans (List.length_filter_le _ _) (by simp)
    omega
inductive AVles : List AV → List AV → Prop
  | nil : AVles [] []
  | cons {x y : AV} {xs ys : List AV} (h : AVle x y) (k : AVles xs ys) : AVles (x :: xs) (y :: ys)
theorem AVles.refl : ∀ xs, AVles xs xs
  | [] => .nil
  | x :: xs => .cons (AVle.refl x) (AVles.refl xs)
theorem AVles.at' {xs ys : List AV} (h : AVles xs ys) : ys.length = xs.length ∧ ∀ (j : Nat) y, ys[j]? = some y → ∃ x, xs[j]? = some x ∧ AVle x y := by
  induction h with
  | nil => exact ⟨rfl, fun j y h => by simp at h⟩
  | cons h _ ih =>
    refine ⟨by simp [ih.1], fun j y hy => ?_⟩
    cases j with
    | zero => simp at hy; subst hy; exact ⟨_, rfl, h⟩
    | succ j => obtain ⟨x, h1, h2⟩ := ih.2 j y (by simpa using hy); exact ⟨x, by simpa using h1, h2⟩
theorem PureC.args {P : Program} {f : FuncId} {xs ys : List AV} {r : AV} (h : PureC P f ys r) (k : AVles xs ys) : PureC P f xs r := fun L w vs hL hvs => h L w vs hL ⟨hvs.1.trans k.at'.1.symm, fun j y v hy hv => by
  obtain ⟨x, h1, h2⟩ := k.at'.2 j y hy
  exact h2 _ _ _ _ _ (hvs.2 j x v h1 hv)⟩
theorem PureF.args {P : Program} {f : FuncId} {xs ys : List AV} {r : PV} (h : PureF P f ys r) (k : AVles xs ys) : PureF P f xs r := fun L w vs hL hvs => h L w vs hL ⟨hvs.1.trans k.at'.1.symm, fun j y v hy hv => by
  obtain ⟨x, h1, h2⟩ := k.at'.2 j y hy
  exact h2 _ _ _ _ _ (hvs.2 j x v h1 hv)⟩
theorem ams : (∀ (fr : List (Nat × AV)) (hp : Hp) (n N t : Nat), ASt.get { fr := fr, hp := hp, n := n, N := N } t = Option.getD (List.lookup t fr) AV.junk) ∧
    (∀ (fr : List (Nat × AV)) (hp : Hp) (n N t : Nat) (x : AV), ASt.put { fr := fr, hp := hp, n := n, N := N } (some t) x = { fr := (t, x) :: fr, hp := hp, n := n, N := N }) ∧
    (∀ (s : ASt) (x : AV), ASt.put s none x = s) ∧
    (∀ {α : Type} (t : Nat), List.lookup t ([] : List (Nat × α)) = none) ∧
    (∀ {α : Type} (t k : Nat) (x : α) (l : List (Nat × α)), List.lookup t ((k, x) :: l) = if t = k then some x else List.lookup t l) ∧
    (∀ (k : IntKind) (n : Int), cv (Value.int k n) = AV.p (PV.val (Value.int k n))) ∧
    (∀ (b : Bool), cv (Value.bool b) = AV.p (PV.val (Value.bool b))) ∧
    (∀ (a : Option Addr) (n c : Nat), cv (Value.slice a n c) = AV.p (PV.val (Value.slice a n c))) ∧
    (∀ (s : ByteArray), cv (Value.string s) = AV.p (PV.val (Value.string s))) ∧
    (∀ (a : Option Addr), cv (Value.pointer a) = AV.p (PV.val (Value.pointer a))) ∧
    (∀ {α β : Type} {f : α → β} {a : α} {l : List α}, List.map f (a :: l) = f a :: List.map f l) ∧
    (∀ {α β : Type} {f : α → β}, List.map f ([] : List α) = ([] : List β)) ∧
    (∀ {α : Type} {a : α} {l : List α}, (a :: l)[0]? = some a) ∧
    (∀ {α : Type} {a : α} {i : Nat} {l : List α}, (a :: l)[i + 1]? = l[i]?) ∧
    (∀ {α : Type} {a b : α}, Option.getD (some a) b = a) ∧
    (∀ {α : Type} {a : α}, Option.getD none a = a) ∧
    (∀ {α β : Type} (a : α) (f : α → β), Option.map f (some a) = some (f a)) ∧
    (∀ {α β : Type} (f : α → β), Option.map f none = none) ∧
    (∀ {α : Type} {x : Decidable True} (t e : α), (if True then t else e) = t) ∧
    (∀ {α : Type} {x : Decidable False} (t e : α), (if False then t else e) = e) ∧
    (∀ (p : Prop), (True ∧ p) = p) ∧
    (∀ (p : Prop), (p ∧ True) = p) ∧
    ((!true) = false) ∧
    ((!false) = true) ∧
    ((true = false) = False) ∧
    ((false = true) = False) ∧
    (∀ (p : Prop), (True → p) = p) ∧
    (∀ (p : Prop), (False → p) = True) ∧
    (∀ {α : Type} {a : α} {l1 : List α}, List.length (a :: l1) = List.length l1 + 1) ∧
    (∀ {α : Type}, List.length ([] : List α) = 0) ∧
    (∀ {α : Type} {a : α} {l1 : List α} {i : Nat}, List.take (i + 1) (a :: l1) = a :: List.take i l1) ∧
    (∀ {α : Type} {l : List α}, List.take 0 l = ([] : List α)) ∧
    (∀ {α : Type} {a : α} {l : List α} {i : Nat}, List.drop (i + 1) (a :: l) = List.drop i l) ∧
    (∀ {α : Type} {l : List α}, List.drop 0 l = l) ∧
    (∀ {α : Type} {a : α} {l1 bs : List α}, a :: l1 ++ bs = a :: (l1 ++ bs)) ∧
    (∀ {α : Type} (l1 : List α), [] ++ l1 = l1) ∧
    (∀ {α : Type} {i : Nat}, List.take i ([] : List α) = ([] : List α)) ∧
    (∀ {α : Type} {i : Nat}, List.drop i ([] : List α) = ([] : List α)) ∧
    (∀ (n : Nat), 0 + n = n) ∧
    (∀ (n : Nat), n + 0 = n) ∧
    (∀ (n : Nat), n ≤ n) ∧
    (∀ (n : Nat), 0 ≤ n) ∧
    (∀ {α : Type} (l1 : List α), l1 ++ [] = l1) ∧
    (∀ {α : Type} {x : α} {xs : List α} {d : α}, List.getD (x :: xs) 0 d = x) ∧
    (∀ {α : Type} {x : α} {xs : List α} {n : Nat} {d : α}, List.getD (x :: xs) (n + 1) d = List.getD xs n d) ∧
    (∀ (n : Nat), Int.toNat (n : Int) = n) ∧
    (Int.toNat 0 = 0) ∧
    (∀ {α β : Type} {l1 : List α} (f : α → β), List.length (List.map f l1) = List.length l1) ∧
    (∀ {α β : Type} {f : α → β} {l : List α} {i : Nat}, (List.map f l)[i]? = Option.map f l[i]?) ∧
    (∀ (n : Nat), (0 : Int) ≤ (n : Int)) ∧
    (∀ (t : Nat) (y : AV) (pin : Option Nat) (ty : TypeId) (cs : List AV), AO.sub t y (AO.boxP pin ty cs) = AO.boxP pin ty (List.map (AV.sub t y) cs)) ∧
    (∀ (t : Nat) (y : AV) (e n : Nat) (rows : List (List PV)), AO.sub t y (AO.row e n rows) = AO.row e n rows) ∧
    (∀ (t : Nat) (y : AV) (pin : Option Nat) (P : Program) (k n : Nat) (f : Lit → Option Value), AO.sub t y (AO.map pin P k n f) = AO.map pin P k n f) ∧
    (∀ (t : Nat) (y : AV) (u : Value) (ob : Obj), AO.sub t y (AO.raw u ob) = AO.raw u ob) ∧
    (∀ (t : Nat) (y : AV) (l : Nat) (sp : LSpec) (fr : List (Nat × AV)), AO.sub t y (AO.lrec l sp fr) = AO.lrec l sp (List.map (fun (p : Nat × AV) => (Prod.fst p, AV.sub t y (Prod.snd p))) fr)) ∧
    (∀ (t : Nat) (y : AV) (x : PV), AV.sub t y (AV.p x) = AV.p x) ∧
    (∀ (t : Nat) (y : AV) (r : List PV) (k : Nat), AV.sub t y (AV.elt r k) = AV.elt r k) ∧
    (∀ (t : Nat) (y : AV) (k j : Nat), AV.sub t y (AV.ptr k j) = if k = t then AV.junk else AV.ptr k j) ∧
    (∀ (t : Nat) (y : AV) (k n i j : Nat), AV.sub t y (AV.rptr k n i j) = if k = t then AV.junk else AV.rptr k n i j) ∧
    (∀ (t : Nat) (y : AV) (k : Nat), AV.sub t y (AV.own k) = if k = t then y else AV.own k) ∧
    (∀ (t : Nat) (y : AV), AV.sub t y AV.junk = AV.junk) ∧
    (∀ (t : Nat) (y : AV), AV.sub t y AV.cap0 = AV.cap0) ∧
    (∀ (t : Nat) (y : AV) (cs : List AV), AV.sub t y (AV.agg cs) = AV.agg (List.map (AV.sub t y) cs)) ∧
    (∀ (t : Nat) (y : AV) (f : Fn) (cs : List AV), AV.sub t y (AV.fn f cs) = AV.fn f (List.map (AV.sub t y) cs)) ∧
    (∀ (t : Nat) (y : AV) (cs : List AV), AV.sub t y (AV.tup cs) = AV.tup (List.map (AV.sub t y) cs)) ∧
    (∀ (t : Nat) (y : AV) (k m : Nat), AV.sub t y (AV.pre k m) = if k = t then AV.junk else AV.pre k m) :=
  ⟨@get_mk, @put_some, @put_none, @lk_nil, @lk_cons, @cv_int, @cv_bool, @cv_slice, @cv_string, @cv_ptr, @List.map_cons.{0, 0}, @List.map_nil.{0, 0}, @List.getElem?_cons_zero.{0}, @List.getElem?_cons_succ.{0}, @Option.getD_some.{0}, @Option.getD_none.{0}, @Option.map_some.{0, 0}, @Option.map_none.{0, 0}, @if_true.{1}, @if_false.{1}, @true_and, @and_true, @Bool.not_true, @Bool.not_false, @Bool.true_eq_false, @Bool.false_eq_true, @true_implies, @false_implies, @List.length_cons.{0}, @List.length_nil.{0}, @List.take_succ_cons.{0}, @List.take_zero.{0}, @List.drop_succ_cons.{0}, @List.drop_zero.{0}, @List.cons_append.{0}, @List.nil_append.{0}, @List.take_nil.{0}, @List.drop_nil.{0}, @Nat.zero_add, @Nat.add_zero, @Nat.le_refl, @Nat.zero_le, @List.append_nil.{0}, @List.getD_cons_zero.{0}, @List.getD_cons_succ.{0}, @Int.toNat_natCast, Int.toNat_zero, @List.length_map.{0, 0}, @List.getElem?_map.{0, 0}, @Int.natCast_nonneg, @AO.sub_box, @AO.sub_row, @AO.sub_map, @AO.sub_raw, @AO.sub_lrec, @AV.sub_p, @AV.sub_elt, @AV.sub_ptr, @AV.sub_rptr, @AV.sub_own, @AV.sub_junk, @AV.sub_cap0, @AV.sub_agg, @AV.sub_fn, @AV.sub_tup, @AV.sub_pre⟩
theorem wks : (∀ {α : Type} {b : α} {l : List α} {a : α}, a ∈ b :: l ↔ a = b ∨ a ∈ l) ∧
    (∀ {α : Type} {a : α}, ¬a ∈ ([] : List α)) ∧
    (∀ (p : Prop), (p ∨ False) = p) ∧
    (∀ {α : Type} {a' : α} {P Q : α → Prop}, (∀ (a : α), a = a' ∨ Q a → P a) ↔ P a' ∧ ∀ (a : α), Q a → P a) ∧
    (∀ {α : Type} {p : α → Prop} {a' : α}, (∀ (a : α), a = a' → p a) ↔ p a') ∧
    (∀ (fr : List (Nat × AV)) (hp : Hp) (n N t : Nat), ASt.get { fr := fr, hp := hp, n := n, N := N } t = Option.getD (List.lookup t fr) AV.junk) ∧
    (∀ {α : Type} (t k : Nat) (x : α) (l : List (Nat × α)), List.lookup t ((k, x) :: l) = if t = k then some x else List.lookup t l) ∧
    (∀ {α : Type} (t : Nat), List.lookup t ([] : List (Nat × α)) = none) ∧
    (∀ {α : Type} {a b : α}, Option.getD (some a) b = a) ∧
    (∀ {α : Type} {a : α}, Option.getD none a = a) ∧
    (∀ (x : AV), AVle x x = True) ∧
    (∀ (n : Nat), AVle (AV.p (PV.val (Value.slice none 0 0))) (AV.p (PV.seq n [])) = True) ∧
    (∀ (k : IntKind) (a b : Int), AVle (AV.p (PV.val (Value.int k a))) (AV.p (PV.val (Value.int k b))) = (a = b)) ∧
    (∀ (a b : Bool), AVle (AV.p (PV.val (Value.bool a))) (AV.p (PV.val (Value.bool b))) = (a = b)) ∧
    (∀ (x : AV), AVle x AV.junk = True) ∧
    (∀ (n : Nat) (pin : Option Nat) (ty : TypeId) (cs : List AV), AO.okB n (AO.boxP pin ty cs) = List.all cs (AV.okB n)) ∧
    (∀ (n e m : Nat) (rows : List (List PV)), AO.okB n (AO.row e m rows) = true) ∧
    (∀ (n : Nat) (pin : Option Nat) (P : Program) (k m : Nat) (f : Lit → Option Value), AO.okB n (AO.map pin P k m f) = true) ∧
    (∀ (n : Nat) (u : Value) (ob : Obj), AO.okB n (AO.raw u ob) = true) ∧
    (∀ (n l : Nat) (sp : LSpec) (fr : List (Nat × AV)), AO.okB n (AO.lrec l sp fr) = List.all fr fun (p : Nat × AV) => AV.okB n (Prod.snd p)) ∧
    (∀ (n : Nat) (cs : List AV), AV.okB n (AV.agg cs) = List.all cs (AV.okB n)) ∧
    (∀ (n : Nat) (cs : List AV), AV.okB n (AV.tup cs) = List.all cs (AV.okB n)) ∧
    (∀ (n : Nat) (f : Fn) (cs : List AV), AV.okB n (AV.fn f cs) = List.all cs (AV.okB n)) ∧
    (∀ {α : Type} {a : α} {l : List α} {f : α → Bool}, List.all (a :: l) f = (f a && List.all l f)) ∧
    (∀ {α : Type} {f : α → Bool}, List.all ([] : List α) f = true) ∧
    (∀ (b : Bool), (b && b) = b) ∧
    (∀ (b : Bool), (b && true) = b) ∧
    (∀ (b : Bool), (true && b) = b) ∧
    (∀ (h : Decidable True), @decide True h = true) ∧
    (∀ (p : Prop), (True ∧ p) = p) ∧
    (∀ (p : Prop), (p ∧ True) = p) ∧
    (∀ (p : Prop), (False → p) = True) :=
  ⟨@List.mem_cons.{0}, @List.not_mem_nil.{0}, @or_false, @forall_eq_or_imp.{1}, @forall_eq.{1}, @get_mk, @lk_cons, @lk_nil, @Option.getD_some.{0}, @Option.getD_none.{0}, @AVle_refl, @AVle_nil, @AVle_int, @AVle_bool, @AVle_junk, @AO.okB_box, @AO.okB_row, @AO.okB_map, @AO.okB_raw, @AO.okB_lrec, @AV.okB_agg, @AV.okB_tup, @AV.okB_fn, @List.all_cons.{0}, @List.all_nil.{0}, @Bool.and_self, @Bool.and_true, @Bool.true_and, @decide_true, @true_and, @and_true, @false_implies⟩
end Go.Proofs.Ytbhkcejjehgfcaa
namespace Go.Proofs.Ytbhkcejjehgfcaa
open Go.RowKit Go.Sort
theorem ty_3 : (tySz Try.prog 3 = some 1) ∧ (tyRow Try.prog 3 = some false) ∧ (scTy Try.prog 3 = some 0) ∧ (tyZero Try.prog 3 = some [Value.int IntKind.i64 0]) ∧ (Try.prog.underlying 3 = some (TypeDesc.int IntKind.i64)) := ⟨by kernel_rfl, by kernel_rfl, by kernel_rfl, by kernel_rfl, by kernel_rfl⟩
theorem ty_4 : (tySz Try.prog 4 = some 1) ∧ (tyRow Try.prog 4 = some false) ∧ (scTy Try.prog 4 = some 1) ∧ (tyZero Try.prog 4 = some [Value.bool false]) ∧ (Try.prog.underlying 4 = some TypeDesc.bool) := ⟨by kernel_rfl, by kernel_rfl, by kernel_rfl, by kernel_rfl, by kernel_rfl⟩
theorem ty_5 : (tySz Try.prog 5 = some 1) ∧ (tyRow Try.prog 5 = some false) ∧ (scTy Try.prog 5 = some 0) ∧ (tyZero Try.prog 5 = some [Value.int IntKind.u8 0]) ∧ (Try.prog.underlying 5 = some (TypeDesc.int IntKind.u8)) := ⟨by kernel_rfl, by kernel_rfl, by kernel_rfl, by kernel_rfl, by kernel_rfl⟩
theorem ty_9 : (tySz Try.prog 9 = some 1) ∧ (tyRow Try.prog 9 = some false) ∧ (scTy Try.prog 9 = some 2) ∧ (tyZero Try.prog 9 = some [Value.string ⟨#[]⟩]) ∧ (Try.prog.underlying 9 = some TypeDesc.string) := ⟨by kernel_rfl, by kernel_rfl, by kernel_rfl, by kernel_rfl, by kernel_rfl⟩
theorem ty_22 : (tySz Try.prog 22 = some 1) ∧ (tyRow Try.prog 22 = some false) ∧ (elemSz Try.prog 22 = some 1) ∧ (elemTyB Try.prog 22 = some (30, 1, 24)) ∧ (tyZero Try.prog 22 = some [Value.slice none 0 0]) ∧ (isSl Try.prog 22 = true) ∧ (Try.prog.underlying 22 = some (TypeDesc.slice 30)) := ⟨by kernel_rfl, by kernel_rfl, by kernel_rfl, by kernel_rfl, by kernel_rfl, by kernel_rfl, by kernel_rfl⟩
theorem ty_25 : (tySz Try.prog 25 = some 1) ∧ (tyRow Try.prog 25 = some false) ∧ (elemSz Try.prog 25 = some 1) ∧ (elemTyB Try.prog 25 = some (34, 1, 24)) ∧ (tyZero Try.prog 25 = some [Value.slice none 0 0]) ∧ (isSl Try.prog 25 = true) ∧ (Try.prog.underlying 25 = some (TypeDesc.slice 34)) := ⟨by kernel_rfl, by kernel_rfl, by kernel_rfl, by kernel_rfl, by kernel_rfl, by kernel_rfl, by kernel_rfl⟩
theorem ty_29 : (tySz Try.prog 29 = some 1) ∧ (tyRow Try.prog 29 = some false) ∧ (elemSz Try.prog 29 = some 1) ∧ (elemTyB Try.prog 29 = some (5, 1, 1)) ∧ (tyZero Try.prog 29 = some [Value.slice none 0 0]) ∧ (isSl Try.prog 29 = true) ∧ (Try.prog.underlying 29 = some (TypeDesc.slice 5)) := ⟨by kernel_rfl, by kernel_rfl, by kernel_rfl, by kernel_rfl, by kernel_rfl, by kernel_rfl, by kernel_rfl⟩
theorem ty_30 : (tySz Try.prog 30 = some 1) ∧ (tyRow Try.prog 30 = some false) ∧ (elemSz Try.prog 30 = some 4) ∧ (elemTyB Try.prog 30 = some (48, 4, 64)) ∧ (tyZero Try.prog 30 = some [Value.slice none 0 0]) ∧ (isSl Try.prog 30 = true) ∧ (Try.prog.underlying 30 = some (TypeDesc.slice 48)) := ⟨by kernel_rfl, by kernel_rfl, by kernel_rfl, by kernel_rfl, by kernel_rfl, by kernel_rfl, by kernel_rfl⟩
theorem ty_34 : (tySz Try.prog 34 = some 1) ∧ (tyRow Try.prog 34 = some false) ∧ (elemSz Try.prog 34 = some 2) ∧ (elemTyB Try.prog 34 = some (44, 2, 16)) ∧ (tyZero Try.prog 34 = some [Value.slice none 0 0]) ∧ (isSl Try.prog 34 = true) ∧ (Try.prog.underlying 34 = some (TypeDesc.slice 44)) := ⟨by kernel_rfl, by kernel_rfl, by kernel_rfl, by kernel_rfl, by kernel_rfl, by kernel_rfl, by kernel_rfl⟩
theorem ty_40 : (tySz Try.prog 40 = some 4) ∧ (tyRow Try.prog 40 = some true) ∧ (tyZero Try.prog 40 = some [Value.int IntKind.i64 0, Value.int IntKind.i64 0, Value.int IntKind.i64 0, Value.bool false]) ∧ (tyStruct Try.prog 40 = some ([Value.int IntKind.i64 0, Value.int IntKind.i64 0, Value.int IntKind.i64 0, Value.bool false], [(0, 1), (1, 1), (2, 1), (3, 1)])) ∧ (eqTy Try.prog 40 = some [(0, 0), (1, 0), (2, 0), (3, 1)]) ∧ (fldOff Try.prog 40 0 = some 0) ∧ (fldTy Try.prog 40 0 = some (3, 0)) ∧ (fldOff Try.prog 40 1 = some 1) ∧ (fldTy Try.prog 40 1 = some (3, 1)) ∧ (fldOff Try.prog 40 2 = some 2) ∧ (fldTy Try.prog 40 2 = some (3, 2)) ∧ (fldOff Try.prog 40 3 = some 3) ∧ (fldTy Try.prog 40 3 = some (4, 3)) := ⟨by kernel_rfl, by kernel_rfl, by kernel_rfl, by kernel_rfl, by kernel_rfl, by kernel_rfl, by kernel_rfl, by kernel_rfl, by kernel_rfl, by kernel_rfl, by kernel_rfl, by kernel_rfl, by kernel_rfl⟩
theorem ty_42 : (tySz Try.prog 42 = some 6) ∧ (tyRow Try.prog 42 = some true) ∧ (tyZero Try.prog 42 = some [Value.int IntKind.u8 0, Value.int IntKind.u8 0, Value.int IntKind.i64 0, Value.int IntKind.i64 0, Value.int IntKind.i64 0, Value.bool false]) ∧ (tyStruct Try.prog 42 = some ([Value.int IntKind.u8 0, Value.int IntKind.u8 0, Value.int IntKind.i64 0, Value.int IntKind.i64 0, Value.int IntKind.i64 0, Value.bool false], [(0, 1), (1, 1), (2, 4)])) ∧ (fldOff Try.prog 42 0 = some 0) ∧ (fldTy Try.prog 42 0 = some (5, 0)) ∧ (fldOff Try.prog 42 1 = some 1) ∧ (fldTy Try.prog 42 1 = some (5, 1)) ∧ (fldOff Try.prog 42 2 = some 2) ∧ (fldTy Try.prog 42 2 = some (40, 2)) := ⟨by kernel_rfl, by kernel_rfl, by kernel_rfl, by kernel_rfl, by kernel_rfl, by kernel_rfl, by kernel_rfl, by kernel_rfl, by kernel_rfl, by kernel_rfl⟩
theorem ty_44 : (tySz Try.prog 44 = some 2) ∧ (tyRow Try.prog 44 = some true) ∧ (tyZero Try.prog 44 = some [Value.int IntKind.i64 0, Value.int IntKind.i64 0]) ∧ (tyStruct Try.prog 44 = some ([Value.int IntKind.i64 0, Value.int IntKind.i64 0], [(0, 1), (1, 1)])) ∧ (eqTy Try.prog 44 = some [(0, 0), (1, 0)]) ∧ (fldOff Try.prog 44 0 = some 0) ∧ (fldTy Try.prog 44 0 = some (3, 0)) ∧ (fldOff Try.prog 44 1 = some 1) ∧ (fldTy Try.prog 44 1 = some (3, 1)) := ⟨by kernel_rfl, by kernel_rfl, by kernel_rfl, by kernel_rfl, by kernel_rfl, by kernel_rfl, by kernel_rfl, by kernel_rfl, by kernel_rfl⟩
theorem ty_45 : (tySz Try.prog 45 = some 1) ∧ (tyRow Try.prog 45 = some false) ∧ (elemSz Try.prog 45 = some 1) ∧ (elemTyB Try.prog 45 = some (3, 1, 8)) ∧ (tyZero Try.prog 45 = some [Value.slice none 0 0]) ∧ (isSl Try.prog 45 = true) ∧ (Try.prog.underlying 45 = some (TypeDesc.slice 3)) := ⟨by kernel_rfl, by kernel_rfl, by kernel_rfl, by kernel_rfl, by kernel_rfl, by kernel_rfl, by kernel_rfl⟩
theorem ty_46 : (tySz Try.prog 46 = some 1) ∧ (tyRow Try.prog 46 = some false) ∧ (elemSz Try.prog 46 = some 4) ∧ (elemTyB Try.prog 46 = some (40, 4, 32)) ∧ (tyZero Try.prog 46 = some [Value.slice none 0 0]) ∧ (isSl Try.prog 46 = true) ∧ (Try.prog.underlying 46 = some (TypeDesc.slice 40)) := ⟨by kernel_rfl, by kernel_rfl, by kernel_rfl, by kernel_rfl, by kernel_rfl, by kernel_rfl, by kernel_rfl⟩
theorem ty_48 : (tySz Try.prog 48 = some 4) ∧ (tyRow Try.prog 48 = some true) ∧ (tyZero Try.prog 48 = some [Value.int IntKind.i64 0, Value.int IntKind.i64 0, Value.slice none 0 0, Value.slice none 0 0]) ∧ (tyStruct Try.prog 48 = some ([Value.int IntKind.i64 0, Value.int IntKind.i64 0, Value.slice none 0 0, Value.slice none 0 0], [(0, 2), (2, 1), (3, 1)])) ∧ (fldOff Try.prog 48 0 = some 0) ∧ (fldTy Try.prog 48 0 = some (44, 0)) ∧ (fldOff Try.prog 48 1 = some 2) ∧ (fldTy Try.prog 48 1 = some (45, 2)) ∧ (fldOff Try.prog 48 2 = some 3) ∧ (fldTy Try.prog 48 2 = some (46, 3)) := ⟨by kernel_rfl, by kernel_rfl, by kernel_rfl, by kernel_rfl, by kernel_rfl, by kernel_rfl, by kernel_rfl, by kernel_rfl, by kernel_rfl, by kernel_rfl⟩
theorem ty_52 : (tySz Try.prog 52 = some 1) ∧ (tyRow Try.prog 52 = some false) ∧ (tyZero Try.prog 52 = some [Value.nilFunc]) := ⟨by kernel_rfl, by kernel_rfl, by kernel_rfl⟩
theorem ty_63 : (tySz Try.prog 63 = some 1) ∧ (tyRow Try.prog 63 = some false) ∧ (tyZero Try.prog 63 = some [Value.nilFunc]) := ⟨by kernel_rfl, by kernel_rfl, by kernel_rfl⟩
theorem ty_65 : (tySz Try.prog 65 = some 1) ∧ (tyRow Try.prog 65 = some false) ∧ (tyZero Try.prog 65 = some [Value.pointer none]) := ⟨by kernel_rfl, by kernel_rfl, by kernel_rfl⟩
theorem ty_67 : (tySz Try.prog 67 = some 3) ∧ (tyRow Try.prog 67 = some true) ∧ (tyZero Try.prog 67 = some [Value.slice none 0 0, Value.slice none 0 0, Value.slice none 0 0]) ∧ (tyStruct Try.prog 67 = some ([Value.slice none 0 0, Value.slice none 0 0, Value.slice none 0 0], [(0, 1), (1, 1), (2, 1)])) ∧ (fldOff Try.prog 67 0 = some 0) ∧ (fldTy Try.prog 67 0 = some (22, 0)) ∧ (fldOff Try.prog 67 1 = some 1) ∧ (fldTy Try.prog 67 1 = some (30, 1)) ∧ (fldOff Try.prog 67 2 = some 2) ∧ (fldTy Try.prog 67 2 = some (45, 2)) := ⟨by kernel_rfl, by kernel_rfl, by kernel_rfl, by kernel_rfl, by kernel_rfl, by kernel_rfl, by kernel_rfl, by kernel_rfl, by kernel_rfl, by kernel_rfl⟩
theorem ty_69 : (tySz Try.prog 69 = some 1) ∧ (tyRow Try.prog 69 = some false) ∧ (tyZero Try.prog 69 = some [Value.map none]) ∧ (Try.prog.underlying 69 = some (TypeDesc.map 3 4)) := ⟨by kernel_rfl, by kernel_rfl, by kernel_rfl, by kernel_rfl⟩
theorem ty_74 : (tySz Try.prog 74 = some 1) ∧ (tyRow Try.prog 74 = some false) ∧ (scTy Try.prog 74 = some 0) ∧ (tyZero Try.prog 74 = some [Value.int IntKind.u64 0]) ∧ (Try.prog.underlying 74 = some (TypeDesc.int IntKind.u64)) := ⟨by kernel_rfl, by kernel_rfl, by kernel_rfl, by kernel_rfl, by kernel_rfl⟩
theorem ty_80 : (tySz Try.prog 80 = some 1) ∧ (tyRow Try.prog 80 = some false) ∧ (elemSz Try.prog 80 = some 1) ∧ (elemTyB Try.prog 80 = some (4, 1, 1)) ∧ (tyZero Try.prog 80 = some [Value.slice none 0 0]) ∧ (isSl Try.prog 80 = true) ∧ (Try.prog.underlying 80 = some (TypeDesc.slice 4)) := ⟨by kernel_rfl, by kernel_rfl, by kernel_rfl, by kernel_rfl, by kernel_rfl, by kernel_rfl, by kernel_rfl⟩
theorem ty_82 : (tySz Try.prog 82 = some 1) ∧ (tyRow Try.prog 82 = some false) ∧ (scTy Try.prog 82 = some 0) ∧ (tyZero Try.prog 82 = some [Value.int IntKind.i64 0]) ∧ (Try.prog.underlying 82 = some (TypeDesc.int IntKind.i64)) := ⟨by kernel_rfl, by kernel_rfl, by kernel_rfl, by kernel_rfl, by kernel_rfl⟩
theorem ty_90 : (tySz Try.prog 90 = some 1) ∧ (tyRow Try.prog 90 = some false) ∧ (scTy Try.prog 90 = some 0) ∧ (tyZero Try.prog 90 = some [Value.int IntKind.u32 0]) ∧ (Try.prog.underlying 90 = some (TypeDesc.int IntKind.u32)) := ⟨by kernel_rfl, by kernel_rfl, by kernel_rfl, by kernel_rfl, by kernel_rfl⟩
theorem ty_92 : (tySz Try.prog 92 = some 1) ∧ (tyRow Try.prog 92 = some false) ∧ (scTy Try.prog 92 = some 0) ∧ (tyZero Try.prog 92 = some [Value.int IntKind.u64 0]) ∧ (Try.prog.underlying 92 = some (TypeDesc.int IntKind.u64)) := ⟨by kernel_rfl, by kernel_rfl, by kernel_rfl, by kernel_rfl, by kernel_rfl⟩
theorem ty_96 : (tySz Try.prog 96 = some 1) ∧ (tyRow Try.prog 96 = some false) ∧ (scTy Try.prog 96 = some 0) ∧ (tyZero Try.prog 96 = some [Value.int IntKind.u64 0]) ∧ (Try.prog.underlying 96 = some (TypeDesc.int IntKind.u64)) := ⟨by kernel_rfl, by kernel_rfl, by kernel_rfl, by kernel_rfl, by kernel_rfl⟩
theorem ty_104 : (tySz Try.prog 104 = some 1) ∧ (tyRow Try.prog 104 = some false) ∧ (tyZero Try.prog 104 = some [Value.pointer none]) := ⟨by kernel_rfl, by kernel_rfl, by kernel_rfl⟩
theorem mapTy_69 : mapTy Try.prog 69 = some (3, 4, .bool false) := by kernel_rfl
theorem keyed_3 : Go.Maps.Keyed Try.prog 3 := Go.Maps.int_keyed (q := .i64) (by kernel_rfl)
theorem keyOf_3 {a : Int} (h0 : 0 ≤ a) (h1 : a < 9223372036854775808) : keyOf Try.prog 3 (.int .i64 a) = some (.int .i64 a) := Go.Maps.keyOf_int_mk (q := .i64) (by kernel_rfl) (by simp only [Lit.wf, Bool.and_eq_true, decide_eq_true_eq, show IntKind.i64.min = -9223372036854775808 from rfl, show IntKind.i64.max = 9223372036854775807 from rfl]; omega)
theorem tys : ((tySz Try.prog 3 = some 1) ∧ (tyRow Try.prog 3 = some false) ∧ (scTy Try.prog 3 = some 0) ∧ (tyZero Try.prog 3 = some [Value.int IntKind.i64 0]) ∧ (Try.prog.underlying 3 = some (TypeDesc.int IntKind.i64))) ∧
    ((tySz Try.prog 4 = some 1) ∧ (tyRow Try.prog 4 = some false) ∧ (scTy Try.prog 4 = some 1) ∧ (tyZero Try.prog 4 = some [Value.bool false]) ∧ (Try.prog.underlying 4 = some TypeDesc.bool)) ∧
    ((tySz Try.prog 5 = some 1) ∧ (tyRow Try.prog 5 = some false) ∧ (scTy Try.prog 5 = some 0) ∧ (tyZero Try.prog 5 = some [Value.int IntKind.u8 0]) ∧ (Try.prog.underlying 5 = some (TypeDesc.int IntKind.u8))) ∧
    ((tySz Try.prog 9 = some 1) ∧ (tyRow Try.prog 9 = some false) ∧ (scTy Try.prog 9 = some 2) ∧ (tyZero Try.prog 9 = some [Value.string ⟨#[]⟩]) ∧ (Try.prog.underlying 9 = some TypeDesc.string)) ∧
    ((tySz Try.prog 22 = some 1) ∧ (tyRow Try.prog 22 = some false) ∧ (elemSz Try.prog 22 = some 1) ∧ (elemTyB Try.prog 22 = some (30, 1, 24)) ∧ (tyZero Try.prog 22 = some [Value.slice none 0 0]) ∧ (isSl Try.prog 22 = true) ∧ (Try.prog.underlying 22 = some (TypeDesc.slice 30))) ∧
    ((tySz Try.prog 25 = some 1) ∧ (tyRow Try.prog 25 = some false) ∧ (elemSz Try.prog 25 = some 1) ∧ (elemTyB Try.prog 25 = some (34, 1, 24)) ∧ (tyZero Try.prog 25 = some [Value.slice none 0 0]) ∧ (isSl Try.prog 25 = true) ∧ (Try.prog.underlying 25 = some (TypeDesc.slice 34))) ∧
    ((tySz Try.prog 29 = some 1) ∧ (tyRow Try.prog 29 = some false) ∧ (elemSz Try.prog 29 = some 1) ∧ (elemTyB Try.prog 29 = some (5, 1, 1)) ∧ (tyZero Try.prog 29 = some [Value.slice none 0 0]) ∧ (isSl Try.prog 29 = true) ∧ (Try.prog.underlying 29 = some (TypeDesc.slice 5))) ∧
    ((tySz Try.prog 30 = some 1) ∧ (tyRow Try.prog 30 = some false) ∧ (elemSz Try.prog 30 = some 4) ∧ (elemTyB Try.prog 30 = some (48, 4, 64)) ∧ (tyZero Try.prog 30 = some [Value.slice none 0 0]) ∧ (isSl Try.prog 30 = true) ∧ (Try.prog.underlying 30 = some (TypeDesc.slice 48))) ∧
    ((tySz Try.prog 34 = some 1) ∧ (tyRow Try.prog 34 = some false) ∧ (elemSz Try.prog 34 = some 2) ∧ (elemTyB Try.prog 34 = some (44, 2, 16)) ∧ (tyZero Try.prog 34 = some [Value.slice none 0 0]) ∧ (isSl Try.prog 34 = true) ∧ (Try.prog.underlying 34 = some (TypeDesc.slice 44))) ∧
    ((tySz Try.prog 40 = some 4) ∧ (tyRow Try.prog 40 = some true) ∧ (tyZero Try.prog 40 = some [Value.int IntKind.i64 0, Value.int IntKind.i64 0, Value.int IntKind.i64 0, Value.bool false]) ∧ (tyStruct Try.prog 40 = some ([Value.int IntKind.i64 0, Value.int IntKind.i64 0, Value.int IntKind.i64 0, Value.bool false], [(0, 1), (1, 1), (2, 1), (3, 1)])) ∧ (eqTy Try.prog 40 = some [(0, 0), (1, 0), (2, 0), (3, 1)]) ∧ (fldOff Try.prog 40 0 = some 0) ∧ (fldTy Try.prog 40 0 = some (3, 0)) ∧ (fldOff Try.prog 40 1 = some 1) ∧ (fldTy Try.prog 40 1 = some (3, 1)) ∧ (fldOff Try.prog 40 2 = some 2) ∧ (fldTy Try.prog 40 2 = some (3, 2)) ∧ (fldOff Try.prog 40 3 = some 3) ∧ (fldTy Try.prog 40 3 = some (4, 3))) ∧
    ((tySz Try.prog 42 = some 6) ∧ (tyRow Try.prog 42 = some true) ∧ (tyZero Try.prog 42 = some [Value.int IntKind.u8 0, Value.int IntKind.u8 0, Value.int IntKind.i64 0, Value.int IntKind.i64 0, Value.int IntKind.i64 0, Value.bool false]) ∧ (tyStruct Try.prog 42 = some ([Value.int IntKind.u8 0, Value.int IntKind.u8 0, Value.int IntKind.i64 0, Value.int IntKind.i64 0, Value.int IntKind.i64 0, Value.bool false], [(0, 1), (1, 1), (2, 4)])) ∧ (fldOff Try.prog 42 0 = some 0) ∧ (fldTy Try.prog 42 0 = some (5, 0)) ∧ (fldOff Try.prog 42 1 = some 1) ∧ (fldTy Try.prog 42 1 = some (5, 1)) ∧ (fldOff Try.prog 42 2 = some 2) ∧ (fldTy Try.prog 42 2 = some (40, 2))) ∧
    ((tySz Try.prog 44 = some 2) ∧ (tyRow Try.prog 44 = some true) ∧ (tyZero Try.prog 44 = some [Value.int IntKind.i64 0, Value.int IntKind.i64 0]) ∧ (tyStruct Try.prog 44 = some ([Value.int IntKind.i64 0, Value.int IntKind.i64 0], [(0, 1), (1, 1)])) ∧ (eqTy Try.prog 44 = some [(0, 0), (1, 0)]) ∧ (fldOff Try.prog 44 0 = some 0) ∧ (fldTy Try.prog 44 0 = some (3, 0)) ∧ (fldOff Try.prog 44 1 = some 1) ∧ (fldTy Try.prog 44 1 = some (3, 1))) ∧
    ((tySz Try.prog 45 = some 1) ∧ (tyRow Try.prog 45 = some false) ∧ (elemSz Try.prog 45 = some 1) ∧ (elemTyB Try.prog 45 = some (3, 1, 8)) ∧ (tyZero Try.prog 45 = some [Value.slice none 0 0]) ∧ (isSl Try.prog 45 = true) ∧ (Try.prog.underlying 45 = some (TypeDesc.slice 3))) ∧
    ((tySz Try.prog 46 = some 1) ∧ (tyRow Try.prog 46 = some false) ∧ (elemSz Try.prog 46 = some 4) ∧ (elemTyB Try.prog 46 = some (40, 4, 32)) ∧ (tyZero Try.prog 46 = some [Value.slice none 0 0]) ∧ (isSl Try.prog 46 = true) ∧ (Try.prog.underlying 46 = some (TypeDesc.slice 40))) ∧
    ((tySz Try.prog 48 = some 4) ∧ (tyRow Try.prog 48 = some true) ∧ (tyZero Try.prog 48 = some [Value.int IntKind.i64 0, Value.int IntKind.i64 0, Value.slice none 0 0, Value.slice none 0 0]) ∧ (tyStruct Try.prog 48 = some ([Value.int IntKind.i64 0, Value.int IntKind.i64 0, Value.slice none 0 0, Value.slice none 0 0], [(0, 2), (2, 1), (3, 1)])) ∧ (fldOff Try.prog 48 0 = some 0) ∧ (fldTy Try.prog 48 0 = some (44, 0)) ∧ (fldOff Try.prog 48 1 = some 2) ∧ (fldTy Try.prog 48 1 = some (45, 2)) ∧ (fldOff Try.prog 48 2 = some 3) ∧ (fldTy Try.prog 48 2 = some (46, 3))) ∧
    ((tySz Try.prog 52 = some 1) ∧ (tyRow Try.prog 52 = some false) ∧ (tyZero Try.prog 52 = some [Value.nilFunc])) ∧
    ((tySz Try.prog 63 = some 1) ∧ (tyRow Try.prog 63 = some false) ∧ (tyZero Try.prog 63 = some [Value.nilFunc])) ∧
    ((tySz Try.prog 65 = some 1) ∧ (tyRow Try.prog 65 = some false) ∧ (tyZero Try.prog 65 = some [Value.pointer none])) ∧
    ((tySz Try.prog 67 = some 3) ∧ (tyRow Try.prog 67 = some true) ∧ (tyZero Try.prog 67 = some [Value.slice none 0 0, Value.slice none 0 0, Value.slice none 0 0]) ∧ (tyStruct Try.prog 67 = some ([Value.slice none 0 0, Value.slice none 0 0, Value.slice none 0 0], [(0, 1), (1, 1), (2, 1)])) ∧ (fldOff Try.prog 67 0 = some 0) ∧ (fldTy Try.prog 67 0 = some (22, 0)) ∧ (fldOff Try.prog 67 1 = some 1) ∧ (fldTy Try.prog 67 1 = some (30, 1)) ∧ (fldOff Try.prog 67 2 = some 2) ∧ (fldTy Try.prog 67 2 = some (45, 2))) ∧
    ((tySz Try.prog 69 = some 1) ∧ (tyRow Try.prog 69 = some false) ∧ (tyZero Try.prog 69 = some [Value.map none]) ∧ (Try.prog.underlying 69 = some (TypeDesc.map 3 4))) ∧
    ((tySz Try.prog 74 = some 1) ∧ (tyRow Try.prog 74 = some false) ∧ (scTy Try.prog 74 = some 0) ∧ (tyZero Try.prog 74 = some [Value.int IntKind.u64 0]) ∧ (Try.prog.underlying 74 = some (TypeDesc.int IntKind.u64))) ∧
    ((tySz Try.prog 80 = some 1) ∧ (tyRow Try.prog 80 = some false) ∧ (elemSz Try.prog 80 = some 1) ∧ (elemTyB Try.prog 80 = some (4, 1, 1)) ∧ (tyZero Try.prog 80 = some [Value.slice none 0 0]) ∧ (isSl Try.prog 80 = true) ∧ (Try.prog.underlying 80 = some (TypeDesc.slice 4))) ∧
    ((tySz Try.prog 82 = some 1) ∧ (tyRow Try.prog 82 = some false) ∧ (scTy Try.prog 82 = some 0) ∧ (tyZero Try.prog 82 = some [Value.int IntKind.i64 0]) ∧ (Try.prog.underlying 82 = some (TypeDesc.int IntKind.i64))) ∧
    ((tySz Try.prog 90 = some 1) ∧ (tyRow Try.prog 90 = some false) ∧ (scTy Try.prog 90 = some 0) ∧ (tyZero Try.prog 90 = some [Value.int IntKind.u32 0]) ∧ (Try.prog.underlying 90 = some (TypeDesc.int IntKind.u32))) ∧
    ((tySz Try.prog 92 = some 1) ∧ (tyRow Try.prog 92 = some false) ∧ (scTy Try.prog 92 = some 0) ∧ (tyZero Try.prog 92 = some [Value.int IntKind.u64 0]) ∧ (Try.prog.underlying 92 = some (TypeDesc.int IntKind.u64))) ∧
    ((tySz Try.prog 96 = some 1) ∧ (tyRow Try.prog 96 = some false) ∧ (scTy Try.prog 96 = some 0) ∧ (tyZero Try.prog 96 = some [Value.int IntKind.u64 0]) ∧ (Try.prog.underlying 96 = some (TypeDesc.int IntKind.u64))) ∧
    ((tySz Try.prog 104 = some 1) ∧ (tyRow Try.prog 104 = some false) ∧ (tyZero Try.prog 104 = some [Value.pointer none])) :=
  ⟨ty_3, ty_4, ty_5, ty_9, ty_22, ty_25, ty_29, ty_30, ty_34, ty_40, ty_42, ty_44, ty_45, ty_46, ty_48, ty_52, ty_63, ty_65, ty_67, ty_69, ty_74, ty_80, ty_82, ty_90, ty_92, ty_96, ty_104⟩
end Go.Proofs.Ytbhkcejjehgfcaa
namespace Go.Proofs.Ytbhkcejjehgfcaa
open Go.RowKit Go.Sort
set_option linter.unusedSimpArgs false
set_option linter.unusedVariables false
structure Tc where
  kind : Int
  obj : Int
  off : Int
  write : Bool
structure St where
  g : Int
  c : Int
  gs : List Int
  ts : List Tc
def tcC (t : Tc) : List PV := [.val (.int .i64 t.kind), .val (.int .i64 t.obj), .val (.int .i64 t.off), .val (.bool t.write)]
def inC (n : Int) : List PV := [.val (.int .i64 n)]
def gsP (l : List Int) : PV := .seq 1 (l.map inC)
def tsP (l : List Tc) : PV := .seq 4 (l.map tcC)
def stC (s : St) : List PV := [.val (.int .i64 s.g), .val (.int .i64 s.c), gsP s.gs, tsP s.ts]
def stA (s : St) : AV := .agg ((stC s).map .p)
def thP (l : List St) : PV := .seq 4 (l.map stC)
def thsP (l : List (List St)) : PV := .seq 1 (l.map fun l => [thP l])
theorem drop_at {α : Type} {l : List α} {k : Nat} {x : α} (h : l[k]? = some x) : l.drop k = x :: l.drop (k + 1) := by
  obtain ⟨hlt, rfl⟩ := List.getElem?_eq_some_iff.1 h
  exact List.drop_eq_getElem_cons hlt
theorem drop_end {α : Type} {l : List α} {k : Nat} (h : ¬ k < l.length) : l.drop k = [] := List.drop_eq_nil_of_le (by omega)
theorem at_lt {α : Type} {l : List α} {k : Nat} (h : k < l.length) : ∃ x, l[k]? = some x := ⟨_, List.getElem?_eq_getElem h⟩
def idxB (x : Int) : List Int → Int → Int
  | [], _ => -1
  | y :: r, k => if x = y then k else idxB x r (k + 1)
set_option maxHeartbeats 4000000 in
set_option maxRecDepth 100000 in
theorem index_ok (l : List Int) (x : Int) (hl : l.length ≤ 1000000) : PureC Try.prog 71 [.p (gsP l), .int x] (.int (idxB x l 0)) := by
  simp only [gsP]
  refine PureC.of Try.func71 rfl 19 rfl (by decide) (by simp [AV.okB]) ?_
  repeat' (first | refine T.seqK fun K hK => ?_ | refine T.block ?_ | (refine T.reg (by kernel_rfl) fun K' hK' => ?_; simp only [startSt, frOf, List.map_cons, List.map_nil]; (repeat' (first | (with_reducible refine WL.fin ?_; refine hK' _ ?_; clear hK' K') | (with_reducible refine WD.fin ?_) | ((first | (with_reducible refine WL.step fun K2 hK2 => ?_) | (with_reducible refine WD.step fun K2 hK2 => ?_)); simp only [WS, WH, WO, WOv, WG, dstOk, hasDst, aop, ASt.ev, aload, aloadC, afield, aindex, abin, abinI, aun, alen, acells, Nat.reduceEqDiff, Nat.reduceLT, Nat.reduceLeDiff, Nat.reduceAdd, reduceIte, reduceCtorEq, implies_true, ASt.add, setHp, asplice, Int.reduceEq, Int.reduceNe, Int.reduceLT, Int.reduceLE, Int.reduceSub, Int.reduceAdd, abuild, afill, abuildS, pureL, chunks, List.range, List.range.loop, Nat.reduceMul, Nat.reduceMod, apartF, apartI, aslice, evI, ASt.subst, AO.box, aval, pvals, ams, tys, mapTy_69, keyed_3]; (repeat' (first | (with_reducible refine hK2 _ ?_; clear hK2 K2) | (with_reducible refine And.intro ?_ ?_) | (with_reducible intro hb) | fail)))))) | refine T.skip ?_ | refine T.exit ?_ | refine T.condT rfl ?_ | refine T.condF rfl ?_ | refine T.cond rfl (fun hc => ?_) (fun hc => ?_) | refine T.ret ?_ | simp only [ThenA, InBlock, reduceIte, Nat.reduceEqDiff] | ((repeat ((fail_if_success (refine hK _ ?_)); clear hK K)); refine hK _ ?_; clear hK K))
  refine T.loopK (fun k : Nat => ⟨[(0, .p (.seq 1 (l.map inC))), (1, .int x), (7, .int l.length), (8, .int k)], [], 19, 0⟩) (fun k => k ≤ l.length ∧ idxB x l 0 = idxB x (l.drop k) k) (fun k => l.length - k) 0 ⟨Nat.zero_le _, rfl⟩ (by refine Weak.of' rfl ?_; simp only [wks, reduceIte, Nat.reduceEqDiff, ASt.okB, AV.okB, Nat.reduceLT, implies_true, Int.natCast_zero]) ?_
  rintro k ⟨hk, hn⟩ KL hKL
  by_cases hlt : k < l.length
  · obtain ⟨y, hy⟩ := at_lt hlt
    have hd : decide ((k : Int) < (l.length : Int)) = true := by simpa using hlt
    rw [drop_at hy, idxB] at hn
    repeat' (first | refine T.seqK fun K hK => ?_ | refine T.block ?_ | (refine T.reg (by kernel_rfl) fun K' hK' => ?_; simp only [startSt, frOf, List.map_cons, List.map_nil]; (repeat' (first | (with_reducible refine WL.fin ?_; refine hK' _ ?_; clear hK' K') | (with_reducible refine WD.fin ?_) | ((first | (with_reducible refine WL.step fun K2 hK2 => ?_) | (with_reducible refine WD.step fun K2 hK2 => ?_)); simp only [WS, WH, WO, WOv, WG, dstOk, hasDst, aop, ASt.ev, aload, aloadC, afield, aindex, abin, abinI, aun, alen, acells, Nat.reduceEqDiff, Nat.reduceLT, Nat.reduceLeDiff, Nat.reduceAdd, reduceIte, reduceCtorEq, implies_true, ASt.add, setHp, asplice, Int.reduceEq, Int.reduceNe, Int.reduceLT, Int.reduceLE, Int.reduceSub, Int.reduceAdd, abuild, afill, abuildS, pureL, chunks, List.range, List.range.loop, Nat.reduceMul, Nat.reduceMod, apartF, apartI, aslice, evI, ASt.subst, AO.box, aval, pvals, ams, tys, mapTy_69, keyed_3, hy, hd, inC]; (repeat' (first | (with_reducible refine hK2 _ ?_; clear hK2 K2) | (with_reducible refine And.intro ?_ ?_) | (with_reducible intro hb) | fail)))))) | refine T.skip ?_ | refine T.exit ?_ | refine T.condT rfl ?_ | refine T.condF rfl ?_ | refine T.cond rfl (fun hc => ?_) (fun hc => ?_) | refine T.ret ?_ | simp only [ThenA, InBlock, reduceIte, Nat.reduceEqDiff] | ((repeat ((fail_if_success (refine hK _ ?_)); clear hK K)); refine hK _ ?_; clear hK K))
    · refine FinA.ret (.inr rfl) Try.results71 ?_; simp only [ares, aresL, ares1, WS, WH, WO, WOv, WG, dstOk, hasDst, aop, ASt.ev, aload, aloadC, afield, aindex, abin, abinI, aun, alen, acells, Nat.reduceEqDiff, Nat.reduceLT, Nat.reduceLeDiff, Nat.reduceAdd, reduceIte, reduceCtorEq, implies_true, ASt.add, setHp, asplice, Int.reduceEq, Int.reduceNe, Int.reduceLT, Int.reduceLE, Int.reduceSub, Int.reduceAdd, abuild, afill, abuildS, pureL, chunks, List.range, List.range.loop, Nat.reduceMul, Nat.reduceMod, apartF, apartI, aslice, evI, ASt.subst, AO.box, aval, pvals, ams, tys, mapTy_69, keyed_3, ]
      simp_all
    · refine hKL _ (k + 1) (by refine Weak.of' rfl ?_; simp only [wks, reduceIte, Nat.reduceEqDiff, ASt.okB, AV.okB, Nat.reduceLT, implies_true, wrap_succ (show k < 1152921504606846976 by omega)]) ⟨by omega, ?_⟩ (by omega)
      rw [hn, if_neg (by simpa using hc)]
      rfl
  · have hd : decide ((k : Int) < (l.length : Int)) = false := by simpa using hlt
    rw [drop_end hlt] at hn
    repeat' (first | refine T.seqK fun K hK => ?_ | refine T.block ?_ | (refine T.reg (by kernel_rfl) fun K' hK' => ?_; simp only [startSt, frOf, List.map_cons, List.map_nil]; (repeat' (first | (with_reducible refine WL.fin ?_; refine hK' _ ?_; clear hK' K') | (with_reducible refine WD.fin ?_) | ((first | (with_reducible refine WL.step fun K2 hK2 => ?_) | (with_reducible refine WD.step fun K2 hK2 => ?_)); simp only [WS, WH, WO, WOv, WG, dstOk, hasDst, aop, ASt.ev, aload, aloadC, afield, aindex, abin, abinI, aun, alen, acells, Nat.reduceEqDiff, Nat.reduceLT, Nat.reduceLeDiff, Nat.reduceAdd, reduceIte, reduceCtorEq, implies_true, ASt.add, setHp, asplice, Int.reduceEq, Int.reduceNe, Int.reduceLT, Int.reduceLE, Int.reduceSub, Int.reduceAdd, abuild, afill, abuildS, pureL, chunks, List.range, List.range.loop, Nat.reduceMul, Nat.reduceMod, apartF, apartI, aslice, evI, ASt.subst, AO.box, aval, pvals, ams, tys, mapTy_69, keyed_3, hd]; (repeat' (first | (with_reducible refine hK2 _ ?_; clear hK2 K2) | (with_reducible refine And.intro ?_ ?_) | (with_reducible intro hb) | fail)))))) | refine T.skip ?_ | refine T.exit ?_ | refine T.condT rfl ?_ | refine T.condF rfl ?_ | refine T.cond rfl (fun hc => ?_) (fun hc => ?_) | refine T.ret ?_ | simp only [ThenA, InBlock, reduceIte, Nat.reduceEqDiff] | ((repeat ((fail_if_success (refine hK _ ?_)); clear hK K)); refine hK _ ?_; clear hK K))
    refine FinA.ret (.inr rfl) Try.results71 ?_; simp only [ares, aresL, ares1, WS, WH, WO, WOv, WG, dstOk, hasDst, aop, ASt.ev, aload, aloadC, afield, aindex, abin, abinI, aun, alen, acells, Nat.reduceEqDiff, Nat.reduceLT, Nat.reduceLeDiff, Nat.reduceAdd, reduceIte, reduceCtorEq, implies_true, ASt.add, setHp, asplice, Int.reduceEq, Int.reduceNe, Int.reduceLT, Int.reduceLE, Int.reduceSub, Int.reduceAdd, abuild, afill, abuildS, pureL, chunks, List.range, List.range.loop, Nat.reduceMul, Nat.reduceMod, apartF, apartI, aslice, evI, ASt.subst, AO.box, aval, pvals, ams, tys, mapTy_69, keyed_3, ]
    simp [hn, idxB]
theorem idxB_mem (x : Int) : ∀ (l : List Int) (k : Int), 0 ≤ k → (0 ≤ idxB x l k ↔ x ∈ l)
  | [], k, _ => by simp [idxB]
  | y :: r, k, h => by
    unfold idxB
    by_cases e : x = y
    · rw [if_pos e]; simp [e, h]
    · rw [if_neg e, idxB_mem x r (k + 1) (by omega)]; simp [e]
set_option maxHeartbeats 4000000 in
theorem contains_ok (l : List Int) (x : Int) (hl : l.length ≤ 1000000) : PureC Try.prog 64 [.p (gsP l), .int x] (.bool (l.contains x)) := by
  have e : l.contains x = decide (0 ≤ idxB x l 0) := by
    rw [Bool.eq_iff_iff]
    simp [idxB_mem x l 0 (Int.le_refl _)]
  rw [e]
  refine PureC.of Try.func64 rfl 9 rfl (by decide) (by simp [AV.okB]) ?_
  repeat' (first | refine T.seqK fun K hK => ?_ | refine T.block ?_ | (refine T.reg (by kernel_rfl) fun K' hK' => ?_; simp only [startSt, frOf, List.map_cons, List.map_nil]; (repeat' (first | (with_reducible refine WL.fin ?_; refine hK' _ ?_; clear hK' K') | (with_reducible refine WD.fin ?_) | ((first | (with_reducible refine WL.step fun K2 hK2 => ?_) | (with_reducible refine WD.step fun K2 hK2 => ?_)); simp only [WS, WH, WO, WOv, WG, dstOk, hasDst, aop, ASt.ev, aload, aloadC, afield, aindex, abin, abinI, aun, alen, acells, Nat.reduceEqDiff, Nat.reduceLT, Nat.reduceLeDiff, Nat.reduceAdd, reduceIte, reduceCtorEq, implies_true, ASt.add, setHp, asplice, Int.reduceEq, Int.reduceNe, Int.reduceLT, Int.reduceLE, Int.reduceSub, Int.reduceAdd, abuild, afill, abuildS, pureL, chunks, List.range, List.range.loop, Nat.reduceMul, Nat.reduceMod, apartF, apartI, aslice, evI, ASt.subst, AO.box, aval, pvals, ams, tys, mapTy_69, keyed_3]; (repeat' (first | (with_reducible refine hK2 _ ?_; clear hK2 K2) | (with_reducible refine And.intro ?_ ?_) | (with_reducible intro hb) | ((first | (with_reducible apply callArmO) | (with_reducible apply callArm)); case h => exact CallV.plain (Ent.of Try.func71 (by kernel_rfl) rfl) (index_ok l x hl) (by simp [AV.okB])))))))) | refine T.skip ?_ | refine T.exit ?_ | refine T.condT rfl ?_ | refine T.condF rfl ?_ | refine T.cond rfl (fun hc => ?_) (fun hc => ?_) | refine T.ret ?_ | simp only [ThenA, InBlock, reduceIte, Nat.reduceEqDiff] | ((repeat ((fail_if_success (refine hK _ ?_)); clear hK K)); refine hK _ ?_; clear hK K))
  refine FinA.ret (.inr rfl) Try.results64 ?_; simp only [ares, aresL, ares1, WS, WH, WO, WOv, WG, dstOk, hasDst, aop, ASt.ev, aload, aloadC, afield, aindex, abin, abinI, aun, alen, acells, Nat.reduceEqDiff, Nat.reduceLT, Nat.reduceLeDiff, Nat.reduceAdd, reduceIte, reduceCtorEq, implies_true, ASt.add, setHp, asplice, Int.reduceEq, Int.reduceNe, Int.reduceLT, Int.reduceLE, Int.reduceSub, Int.reduceAdd, abuild, afill, abuildS, pureL, chunks, List.range, List.range.loop, Nat.reduceMul, Nat.reduceMod, apartF, apartI, aslice, evI, ASt.subst, AO.box, aval, pvals, ams, tys, mapTy_69, keyed_3, ]
end Go.Proofs.Ytbhkcejjehgfcaa
namespace Go.Proofs.Ytbhkcejjehgfcaa
open Go.RowKit Go.Sort
set_option linter.unusedSimpArgs false
set_option linter.unusedVariables false
def tcB (x y : Tc) : Bool := x.kind == y.kind && x.obj == y.obj && x.off == y.off && (x.write || y.write)
def dpB (a b : St) : Bool := a.gs.any (fun g => b.gs.contains g) || a.ts.any fun x => b.ts.any fun y => tcB x y
structure StOk (s : St) : Prop where
  gs : s.gs.length ≤ 1000000
  ts : s.ts.length ≤ 1000000
set_option maxHeartbeats 8000000 in
set_option maxRecDepth 100000 in
theorem dep_ok (a b : St) (ha : StOk a) (hb : StOk b) : PureC Try.prog 47 [stA a, stA b] (.bool (dpB a b)) := by
  have hal := ha.gs
  have hal2 := ha.ts
  have hbl2 := hb.ts
  simp only [stA, stC, gsP, tsP, List.map_cons, List.map_nil]
  refine PureC.of Try.func47 rfl 66 rfl (by decide) (by simp [AV.okB]) ?_
  repeat' (first | refine T.seqK fun K hK => ?_ | refine T.block ?_ | (refine T.reg (by kernel_rfl) fun K' hK' => ?_; simp only [startSt, frOf, List.map_cons, List.map_nil]; (repeat' (first | (with_reducible refine WL.fin ?_; refine hK' _ ?_; clear hK' K') | (with_reducible refine WD.fin ?_) | ((first | (with_reducible refine WL.step fun K2 hK2 => ?_) | (with_reducible refine WD.step fun K2 hK2 => ?_)); simp only [WS, WH, WO, WOv, WG, dstOk, hasDst, aop, ASt.ev, aload, aloadC, afield, aindex, abin, abinI, aun, alen, acells, Nat.reduceEqDiff, Nat.reduceLT, Nat.reduceLeDiff, Nat.reduceAdd, reduceIte, reduceCtorEq, implies_true, ASt.add, setHp, asplice, Int.reduceEq, Int.reduceNe, Int.reduceLT, Int.reduceLE, Int.reduceSub, Int.reduceAdd, abuild, afill, abuildS, pureL, chunks, List.range, List.range.loop, Nat.reduceMul, Nat.reduceMod, apartF, apartI, aslice, evI, ASt.subst, AO.box, aval, pvals, ams, tys, mapTy_69, keyed_3]; (repeat' (first | (with_reducible refine hK2 _ ?_; clear hK2 K2) | (with_reducible refine And.intro ?_ ?_) | (with_reducible intro hb) | fail)))))) | refine T.skip ?_ | refine T.exit ?_ | refine T.condT rfl ?_ | refine T.condF rfl ?_ | refine T.cond rfl (fun hc => ?_) (fun hc => ?_) | refine T.ret ?_ | simp only [ThenA, InBlock, reduceIte, Nat.reduceEqDiff] | ((repeat ((fail_if_success (refine hK _ ?_)); clear hK K)); refine hK _ ?_; clear hK K))
  refine T.loopK (fun k : Nat => ⟨[(2, .ptr 0 0), (3, .ptr 1 0), (4, .bool false), (12, .p (gsP a.gs)), (13, .int a.gs.length), (14, .int k)], [(1, .box 48 ((stC b).map .p)), (0, .box 48 ((stC a).map .p))], 66, 2⟩) (fun k => k ≤ a.gs.length ∧ dpB a b = ((a.gs.drop k).any (fun g => b.gs.contains g) || a.ts.any fun x => b.ts.any fun y => tcB x y)) (fun k => a.gs.length - k) 0 ⟨Nat.zero_le _, rfl⟩ (by refine Weak.of' rfl ?_; simp only [wks, reduceIte, Nat.reduceEqDiff, ASt.okB, AV.okB, Nat.reduceLT, implies_true, Int.natCast_zero, stC, gsP, tsP, List.map_cons, List.map_nil]) ?_
  · rintro k ⟨hk, hn⟩ KL hKL
    simp only [stC, gsP, tsP, List.map_cons, List.map_nil]
    by_cases hlt : k < a.gs.length
    · obtain ⟨y, hy⟩ := at_lt hlt
      have hd : decide ((k : Int) < (a.gs.length : Int)) = true := by simpa using hlt
      rw [drop_at hy, List.any_cons] at hn
      repeat' (first | refine T.seqK fun K hK => ?_ | refine T.block ?_ | (refine T.reg (by kernel_rfl) fun K' hK' => ?_; simp only [startSt, frOf, List.map_cons, List.map_nil]; (repeat' (first | (with_reducible refine WL.fin ?_; refine hK' _ ?_; clear hK' K') | (with_reducible refine WD.fin ?_) | ((first | (with_reducible refine WL.step fun K2 hK2 => ?_) | (with_reducible refine WD.step fun K2 hK2 => ?_)); simp only [WS, WH, WO, WOv, WG, dstOk, hasDst, aop, ASt.ev, aload, aloadC, afield, aindex, abin, abinI, aun, alen, acells, Nat.reduceEqDiff, Nat.reduceLT, Nat.reduceLeDiff, Nat.reduceAdd, reduceIte, reduceCtorEq, implies_true, ASt.add, setHp, asplice, Int.reduceEq, Int.reduceNe, Int.reduceLT, Int.reduceLE, Int.reduceSub, Int.reduceAdd, abuild, afill, abuildS, pureL, chunks, List.range, List.range.loop, Nat.reduceMul, Nat.reduceMod, apartF, apartI, aslice, evI, ASt.subst, AO.box, aval, pvals, ams, tys, mapTy_69, keyed_3, hy, hd, inC]; (repeat' (first | (with_reducible refine hK2 _ ?_; clear hK2 K2) | (with_reducible refine And.intro ?_ ?_) | (with_reducible intro hb) | ((first | (with_reducible apply callArmO) | (with_reducible apply callArm)); case h => exact CallV.plain (Ent.of Try.func64 (by kernel_rfl) rfl) (contains_ok b.gs y hb.gs) (by simp [AV.okB])))))))) | refine T.skip ?_ | refine T.exit ?_ | refine T.condT rfl ?_ | refine T.condF rfl ?_ | refine T.cond rfl (fun hc => ?_) (fun hc => ?_) | refine T.ret ?_ | simp only [ThenA, InBlock, reduceIte, Nat.reduceEqDiff] | ((repeat ((fail_if_success (refine hK _ ?_)); clear hK K)); refine hK _ ?_; clear hK K))
      · refine FinA.ret (.inr rfl) Try.results47 ?_; simp only [ares, aresL, ares1, WS, WH, WO, WOv, WG, dstOk, hasDst, aop, ASt.ev, aload, aloadC, afield, aindex, abin, abinI, aun, alen, acells, Nat.reduceEqDiff, Nat.reduceLT, Nat.reduceLeDiff, Nat.reduceAdd, reduceIte, reduceCtorEq, implies_true, ASt.add, setHp, asplice, Int.reduceEq, Int.reduceNe, Int.reduceLT, Int.reduceLE, Int.reduceSub, Int.reduceAdd, abuild, afill, abuildS, pureL, chunks, List.range, List.range.loop, Nat.reduceMul, Nat.reduceMod, apartF, apartI, aslice, evI, ASt.subst, AO.box, aval, pvals, ams, tys, mapTy_69, keyed_3, ]
        simp_all
      · refine hKL _ (k + 1) (by refine Weak.of' rfl ?_; simp only [wks, reduceIte, Nat.reduceEqDiff, ASt.okB, AV.okB, Nat.reduceLT, implies_true, wrap_succ (show k < 1152921504606846976 by omega), stC, gsP, tsP, List.map_cons, List.map_nil]) ⟨by omega, ?_⟩ (by omega)
        rw [hn, hc, Bool.false_or]
    · have hd : decide ((k : Int) < (a.gs.length : Int)) = false := by simpa using hlt
      rw [drop_end hlt, List.any_nil, Bool.false_or] at hn
      clear hKL
      repeat' (first | refine T.seqK fun K hK => ?_ | refine T.block ?_ | (refine T.reg (by kernel_rfl) fun K' hK' => ?_; simp only [startSt, frOf, List.map_cons, List.map_nil]; (repeat' (first | (with_reducible refine WL.fin ?_; refine hK' _ ?_; clear hK' K') | (with_reducible refine WD.fin ?_) | ((first | (with_reducible refine WL.step fun K2 hK2 => ?_) | (with_reducible refine WD.step fun K2 hK2 => ?_)); simp only [WS, WH, WO, WOv, WG, dstOk, hasDst, aop, ASt.ev, aload, aloadC, afield, aindex, abin, abinI, aun, alen, acells, Nat.reduceEqDiff, Nat.reduceLT, Nat.reduceLeDiff, Nat.reduceAdd, reduceIte, reduceCtorEq, implies_true, ASt.add, setHp, asplice, Int.reduceEq, Int.reduceNe, Int.reduceLT, Int.reduceLE, Int.reduceSub, Int.reduceAdd, abuild, afill, abuildS, pureL, chunks, List.range, List.range.loop, Nat.reduceMul, Nat.reduceMod, apartF, apartI, aslice, evI, ASt.subst, AO.box, aval, pvals, ams, tys, mapTy_69, keyed_3, hd]; (repeat' (first | (with_reducible refine hK2 _ ?_; clear hK2 K2) | (with_reducible refine And.intro ?_ ?_) | (with_reducible intro hb) | fail)))))) | refine T.skip ?_ | refine T.exit ?_ | refine T.condT rfl ?_ | refine T.condF rfl ?_ | refine T.cond rfl (fun hc => ?_) (fun hc => ?_) | refine T.ret ?_ | simp only [ThenA, InBlock, reduceIte, Nat.reduceEqDiff] | ((repeat ((fail_if_success (refine hK _ ?_)); clear hK K)); refine hK _ ?_; clear hK K))
      refine T.loopK (fun k : Nat => ⟨[(2, .ptr 0 0), (3, .ptr 1 0), (24, .p (tsP a.ts)), (25, .int a.ts.length), (26, .int k)], [(1, .box 48 ((stC b).map .p)), (0, .box 48 ((stC a).map .p))], 66, 2⟩) (fun k => k ≤ a.ts.length ∧ dpB a b = (a.ts.drop k).any fun x => b.ts.any fun y => tcB x y) (fun k => a.ts.length - k) 0 ⟨Nat.zero_le _, hn⟩ (by refine Weak.of' rfl ?_; simp only [wks, reduceIte, Nat.reduceEqDiff, ASt.okB, AV.okB, Nat.reduceLT, implies_true, Int.natCast_zero, stC, gsP, tsP, List.map_cons, List.map_nil]) ?_
      clear hn hk hd hlt k
      rintro k ⟨hk, hn⟩ KL hKL
      simp only [stC, gsP, tsP, List.map_cons, List.map_nil]
      by_cases hlt : k < a.ts.length
      · obtain ⟨x, hx⟩ := at_lt hlt
        have hd : decide ((k : Int) < (a.ts.length : Int)) = true := by simpa using hlt
        rw [drop_at hx, List.any_cons] at hn
        repeat' (first | refine T.seqK fun K hK => ?_ | refine T.block ?_ | (refine T.reg (by kernel_rfl) fun K' hK' => ?_; simp only [startSt, frOf, List.map_cons, List.map_nil]; (repeat' (first | (with_reducible refine WL.fin ?_; refine hK' _ ?_; clear hK' K') | (with_reducible refine WD.fin ?_) | ((first | (with_reducible refine WL.step fun K2 hK2 => ?_) | (with_reducible refine WD.step fun K2 hK2 => ?_)); simp only [WS, WH, WO, WOv, WG, dstOk, hasDst, aop, ASt.ev, aload, aloadC, afield, aindex, abin, abinI, aun, alen, acells, Nat.reduceEqDiff, Nat.reduceLT, Nat.reduceLeDiff, Nat.reduceAdd, reduceIte, reduceCtorEq, implies_true, ASt.add, setHp, asplice, Int.reduceEq, Int.reduceNe, Int.reduceLT, Int.reduceLE, Int.reduceSub, Int.reduceAdd, abuild, afill, abuildS, pureL, chunks, List.range, List.range.loop, Nat.reduceMul, Nat.reduceMod, apartF, apartI, aslice, evI, ASt.subst, AO.box, aval, pvals, ams, tys, mapTy_69, keyed_3, hx, hd, tcC]; (repeat' (first | (with_reducible refine hK2 _ ?_; clear hK2 K2) | (with_reducible refine And.intro ?_ ?_) | (with_reducible intro hb) | fail)))))) | refine T.skip ?_ | refine T.exit ?_ | refine T.condT rfl ?_ | refine T.condF rfl ?_ | refine T.cond rfl (fun hc => ?_) (fun hc => ?_) | refine T.ret ?_ | simp only [ThenA, InBlock, reduceIte, Nat.reduceEqDiff] | ((repeat ((fail_if_success (refine hK _ ?_)); clear hK K)); refine hK _ ?_; clear hK K))
        refine T.loopK (fun j : Nat => ⟨[(2, .ptr 0 0), (3, .ptr 1 0), (8, .ptr 2 0), (24, .p (tsP a.ts)), (25, .int a.ts.length), (26, .int k), (31, .p (tsP b.ts)), (32, .int b.ts.length), (33, .int j)], [(2, .box 40 ((tcC x).map .p)), (1, .box 48 ((stC b).map .p)), (0, .box 48 ((stC a).map .p))], 66, 3⟩) (fun j => j ≤ b.ts.length ∧ dpB a b = ((b.ts.drop j).any (fun y => tcB x y) || (a.ts.drop (k + 1)).any fun x => b.ts.any fun y => tcB x y)) (fun j => b.ts.length - j) 0 ⟨Nat.zero_le _, hn⟩ (by refine Weak.of' rfl ?_; simp only [wks, reduceIte, Nat.reduceEqDiff, ASt.okB, AV.okB, Nat.reduceLT, implies_true, Int.natCast_zero, stC, gsP, tsP, tcC, List.map_cons, List.map_nil]) ?_
        rintro j ⟨hj, hm⟩ KJ hKJ
        simp only [stC, gsP, tsP, tcC, List.map_cons, List.map_nil]
        by_cases hjl : j < b.ts.length
        · obtain ⟨y, hy⟩ := at_lt hjl
          have hd2 : decide ((j : Int) < (b.ts.length : Int)) = true := by simpa using hjl
          rw [drop_at hy, List.any_cons] at hm
          have hcont : tcB x y = false → ∀ s', Weak s' _ → KJ s' := fun h s' hw => hKJ s' (j + 1) hw ⟨by omega, by rw [hm, h, Bool.false_or]⟩ (by omega)
          have hstop : tcB x y = true → dpB a b = true := fun h => by rw [hm, h]; rfl
          repeat' (first | refine T.seqK fun K hK => ?_ | refine T.block ?_ | (refine T.reg (by kernel_rfl) fun K' hK' => ?_; simp only [startSt, frOf, List.map_cons, List.map_nil]; (repeat' (first | (with_reducible refine WL.fin ?_; refine hK' _ ?_; clear hK' K') | (with_reducible refine WD.fin ?_) | ((first | (with_reducible refine WL.step fun K2 hK2 => ?_) | (with_reducible refine WD.step fun K2 hK2 => ?_)); simp only [WS, WH, WO, WOv, WG, dstOk, hasDst, aop, ASt.ev, aload, aloadC, afield, aindex, abin, abinI, aun, alen, acells, Nat.reduceEqDiff, Nat.reduceLT, Nat.reduceLeDiff, Nat.reduceAdd, reduceIte, reduceCtorEq, implies_true, ASt.add, setHp, asplice, Int.reduceEq, Int.reduceNe, Int.reduceLT, Int.reduceLE, Int.reduceSub, Int.reduceAdd, abuild, afill, abuildS, pureL, chunks, List.range, List.range.loop, Nat.reduceMul, Nat.reduceMod, apartF, apartI, aslice, evI, ASt.subst, AO.box, aval, pvals, ams, tys, mapTy_69, keyed_3, hy, hd2, tcC]; (repeat' (first | (with_reducible refine hK2 _ ?_; clear hK2 K2) | (with_reducible refine And.intro ?_ ?_) | (with_reducible intro hb) | fail)))))) | refine T.skip ?_ | refine T.exit ?_ | refine T.condT rfl ?_ | refine T.condF rfl ?_ | refine T.cond rfl (fun hc => ?_) (fun hc => ?_) | refine T.ret ?_ | simp only [ThenA, InBlock, reduceIte, Nat.reduceEqDiff] | ((repeat ((fail_if_success (refine hK _ ?_)); clear hK K)); refine hK _ ?_; clear hK K))
          all_goals first
            | (refine FinA.ret (.inr rfl) Try.results47 ?_; simp only [ares, aresL, ares1, WS, WH, WO, WOv, WG, dstOk, hasDst, aop, ASt.ev, aload, aloadC, afield, aindex, abin, abinI, aun, alen, acells, Nat.reduceEqDiff, Nat.reduceLT, Nat.reduceLeDiff, Nat.reduceAdd, reduceIte, reduceCtorEq, implies_true, ASt.add, setHp, asplice, Int.reduceEq, Int.reduceNe, Int.reduceLT, Int.reduceLE, Int.reduceSub, Int.reduceAdd, abuild, afill, abuildS, pureL, chunks, List.range, List.range.loop, Nat.reduceMul, Nat.reduceMod, apartF, apartI, aslice, evI, ASt.subst, AO.box, aval, pvals, ams, tys, mapTy_69, keyed_3, ]; rw [hstop (by simp_all [tcB])]; done)
            | (refine hcont ?_ _ ?_; (focus (simp_all [tcB]; done)); refine Weak.of' rfl ?_; simp only [wks, reduceIte, Nat.reduceEqDiff, ASt.okB, AV.okB, Nat.reduceLT, implies_true, wrap_succ (show j < 1152921504606846976 by omega), stC, gsP, tsP, tcC, List.map_cons, List.map_nil]; done)
        · have hd2 : decide ((j : Int) < (b.ts.length : Int)) = false := by simpa using hjl
          rw [drop_end hjl, List.any_nil, Bool.false_or] at hm
          clear hKJ
          repeat' (first | refine T.seqK fun K hK => ?_ | refine T.block ?_ | (refine T.reg (by kernel_rfl) fun K' hK' => ?_; simp only [startSt, frOf, List.map_cons, List.map_nil]; (repeat' (first | (with_reducible refine WL.fin ?_; refine hK' _ ?_; clear hK' K') | (with_reducible refine WD.fin ?_) | ((first | (with_reducible refine WL.step fun K2 hK2 => ?_) | (with_reducible refine WD.step fun K2 hK2 => ?_)); simp only [WS, WH, WO, WOv, WG, dstOk, hasDst, aop, ASt.ev, aload, aloadC, afield, aindex, abin, abinI, aun, alen, acells, Nat.reduceEqDiff, Nat.reduceLT, Nat.reduceLeDiff, Nat.reduceAdd, reduceIte, reduceCtorEq, implies_true, ASt.add, setHp, asplice, Int.reduceEq, Int.reduceNe, Int.reduceLT, Int.reduceLE, Int.reduceSub, Int.reduceAdd, abuild, afill, abuildS, pureL, chunks, List.range, List.range.loop, Nat.reduceMul, Nat.reduceMod, apartF, apartI, aslice, evI, ASt.subst, AO.box, aval, pvals, ams, tys, mapTy_69, keyed_3, hd2]; (repeat' (first | (with_reducible refine hK2 _ ?_; clear hK2 K2) | (with_reducible refine And.intro ?_ ?_) | (with_reducible intro hb) | fail)))))) | refine T.skip ?_ | refine T.exit ?_ | refine T.condT rfl ?_ | refine T.condF rfl ?_ | refine T.cond rfl (fun hc => ?_) (fun hc => ?_) | refine T.ret ?_ | simp only [ThenA, InBlock, reduceIte, Nat.reduceEqDiff] | ((repeat ((fail_if_success (refine hK _ ?_)); clear hK K)); refine hK _ ?_; clear hK K))
          exact hKL _ (k + 1) (by refine Weak.of' rfl ?_; simp only [wks, reduceIte, Nat.reduceEqDiff, ASt.okB, AV.okB, Nat.reduceLT, implies_true, wrap_succ (show k < 1152921504606846976 by omega), stC, gsP, tsP, tcC, List.map_cons, List.map_nil]) ⟨by omega, hm⟩ (by omega)
      · have hd : decide ((k : Int) < (a.ts.length : Int)) = false := by simpa using hlt
        rw [drop_end hlt, List.any_nil] at hn
        repeat' (first | refine T.seqK fun K hK => ?_ | refine T.block ?_ | (refine T.reg (by kernel_rfl) fun K' hK' => ?_; simp only [startSt, frOf, List.map_cons, List.map_nil]; (repeat' (first | (with_reducible refine WL.fin ?_; refine hK' _ ?_; clear hK' K') | (with_reducible refine WD.fin ?_) | ((first | (with_reducible refine WL.step fun K2 hK2 => ?_) | (with_reducible refine WD.step fun K2 hK2 => ?_)); simp only [WS, WH, WO, WOv, WG, dstOk, hasDst, aop, ASt.ev, aload, aloadC, afield, aindex, abin, abinI, aun, alen, acells, Nat.reduceEqDiff, Nat.reduceLT, Nat.reduceLeDiff, Nat.reduceAdd, reduceIte, reduceCtorEq, implies_true, ASt.add, setHp, asplice, Int.reduceEq, Int.reduceNe, Int.reduceLT, Int.reduceLE, Int.reduceSub, Int.reduceAdd, abuild, afill, abuildS, pureL, chunks, List.range, List.range.loop, Nat.reduceMul, Nat.reduceMod, apartF, apartI, aslice, evI, ASt.subst, AO.box, aval, pvals, ams, tys, mapTy_69, keyed_3, hd]; (repeat' (first | (with_reducible refine hK2 _ ?_; clear hK2 K2) | (with_reducible refine And.intro ?_ ?_) | (with_reducible intro hb) | fail)))))) | refine T.skip ?_ | refine T.exit ?_ | refine T.condT rfl ?_ | refine T.condF rfl ?_ | refine T.cond rfl (fun hc => ?_) (fun hc => ?_) | refine T.ret ?_ | simp only [ThenA, InBlock, reduceIte, Nat.reduceEqDiff] | ((repeat ((fail_if_success (refine hK _ ?_)); clear hK K)); refine hK _ ?_; clear hK K))
        refine FinA.ret (.inr rfl) Try.results47 ?_; simp only [ares, aresL, ares1, WS, WH, WO, WOv, WG, dstOk, hasDst, aop, ASt.ev, aload, aloadC, afield, aindex, abin, abinI, aun, alen, acells, Nat.reduceEqDiff, Nat.reduceLT, Nat.reduceLeDiff, Nat.reduceAdd, reduceIte, reduceCtorEq, implies_true, ASt.add, setHp, asplice, Int.reduceEq, Int.reduceNe, Int.reduceLT, Int.reduceLE, Int.reduceSub, Int.reduceAdd, abuild, afill, abuildS, pureL, chunks, List.range, List.range.loop, Nat.reduceMul, Nat.reduceMod, apartF, apartI, aslice, evI, ASt.subst, AO.box, aval, pvals, ams, tys, mapTy_69, keyed_3, ]
        simp [hn]
end Go.Proofs.Ytbhkcejjehgfcaa
namespace Go.Proofs.Ytbhkcejjehgfcaa
open Go.RowKit Go.Sort
set_option linter.unusedSimpArgs false
set_option linter.unusedVariables false
def stepOf (ths : List (List St)) (pos : List Nat) (t : Nat) : Option St := (ths[t]?).bind fun l => (pos[t]?).bind fun k => l[k]?
def bump (pos : List Nat) (t : Nat) : List Nat := pos.set t (pos.getD t 0 + 1)
def nextZ (ths : List (List St)) (pos : List Nat) (s : St) (Z : Nat → Bool) (u : Nat) : Bool := Z u && !(match stepOf ths pos u with | some x => dpB s x | none => false)
def loopB (rc : List Nat → List St → (Nat → Bool) → List (List St)) (ths : List (List St)) (pos : List Nat) (run : List St) : List Nat → (Nat → Bool) → List (List St)
  | [], _ => []
  | t :: r, Z => match stepOf ths pos t with
    | none => loopB rc ths pos run r Z
    | some s => if Z t = true then loopB rc ths pos run r Z else rc (bump pos t) (run ++ [s]) (nextZ ths pos s Z) ++ loopB rc ths pos run r (fun u => decide (u = t) || Z u)
def endB (ths : List (List St)) (pos : List Nat) (l : List Nat) : Bool := l.all fun t => (stepOf ths pos t).isNone
def endU (ths : List (List St)) (pos : List Nat) (k : Nat) : Bool := endB ths pos (List.range k)
theorem endU_zero (ths : List (List St)) (pos : List Nat) : endU ths pos 0 = true := rfl
theorem endU_succ (ths : List (List St)) (pos : List Nat) (k : Nat) : endU ths pos (k + 1) = (endU ths pos k && (stepOf ths pos k).isNone) := by simp [endU, endB, List.range_succ]
def visB (ths : List (List St)) : Nat → List Nat → List St → (Nat → Bool) → List (List St)
  | 0, _, _, _ => []
  | n + 1, pos, run, Z => loopB (visB ths n) ths pos run (List.range ths.length) Z ++ (if endU ths pos ths.length = true then [run] else [])
def remB (ths : List (List St)) (pos : List Nat) : Nat := ((List.range ths.length).map fun t => (ths.getD t []).length - pos.getD t 0).sum
structure PosOk (ths : List (List St)) (pos : List Nat) : Prop where
  len : pos.length = ths.length
  le : ∀ (t : Nat) (l : List St) (k : Nat), ths[t]? = some l → pos[t]? = some k → k ≤ l.length
structure RunIn (ths : List (List St)) (run : List St) : Prop where
  len : run.length ≤ 100000
  mem : ∀ s ∈ run, ∃ l ∈ ths, s ∈ l
theorem stepOf_some {ths : List (List St)} {pos : List Nat} {t : Nat} {s : St} : stepOf ths pos t = some s ↔ ∃ l k, ths[t]? = some l ∧ pos[t]? = some k ∧ l[k]? = some s := by
  simp only [stepOf, Option.bind_eq_some_iff]
  constructor
  · rintro ⟨l, h1, k, h2, h3⟩; exact ⟨l, k, h1, h2, h3⟩
  · rintro ⟨l, k, h1, h2, h3⟩; exact ⟨l, h1, k, h2, h3⟩
theorem sum_set (l : List Nat) (f g : Nat → Nat) (t : Nat) (hn : l.Nodup) (ht : t ∈ l) (h : ∀ u, u ≠ t → f u = g u) (h1 : f t + 1 = g t) : (l.map f).sum + 1 = (l.map g).sum := by
  induction l with
  | nil => cases ht
  | cons x r ih =>
    obtain ⟨hx, hr⟩ := List.nodup_cons.1 hn
    simp only [List.map_cons, List.sum_cons]
    rcases List.mem_cons.1 ht with rfl | ht
    · have : r.map f = r.map g := List.map_congr_left fun u hu => h u (fun e => hx (e ▸ hu))
      rw [this]; omega
    · have := ih hr ht
      rw [h x (fun e => hx (e ▸ ht))]
      omega
theorem rem_bump {ths : List (List St)} {pos : List Nat} {t : Nat} {s : St} (h : stepOf ths pos t = some s) : remB ths (bump pos t) + 1 = remB ths pos := by
  obtain ⟨l, k, h1, h2, h3⟩ := stepOf_some.1 h
  have hl := (List.getElem?_eq_some_iff.1 h1).1
  have hp := (List.getElem?_eq_some_iff.1 h2).1
  have hk := (List.getElem?_eq_some_iff.1 h3).1
  refine sum_set _ _ _ t List.nodup_range (by simpa using hl) (fun u hu => ?_) ?_
  · simp only [bump, List.getD_eq_getElem?_getD, List.getElem?_set_ne (Ne.symm hu)]
  · simp only [bump, List.getD_eq_getElem?_getD, List.getElem?_set_self hp, h1, h2, Option.getD_some]
    omega
theorem pos_bump {ths : List (List St)} {pos : List Nat} {t : Nat} {s : St} (hp : PosOk ths pos) (h : stepOf ths pos t = some s) : PosOk ths (bump pos t) := by
  obtain ⟨l, k, h1, h2, h3⟩ := stepOf_some.1 h
  have hk := (List.getElem?_eq_some_iff.1 h3).1
  refine ⟨by simp [bump, hp.len], fun u m j hu hj => ?_⟩
  by_cases e : u = t
  · subst e
    rw [h1] at hu; cases hu
    simp only [bump, List.getElem?_set_self (List.getElem?_eq_some_iff.1 h2).1, List.getD_eq_getElem?_getD, h2, Option.getD_some, Option.some.injEq] at hj
    omega
  · rw [bump, List.getElem?_set_ne (Ne.symm e)] at hj
    exact hp.le u m j hu hj
theorem stepOf_bump {ths : List (List St)} {pos : List Nat} {t u : Nat} (h : u ≠ t) : stepOf ths (bump pos t) u = stepOf ths pos u := by
  simp only [stepOf, bump, List.getElem?_set_ne (Ne.symm h)]
theorem rem_pos {ths : List (List St)} {pos : List Nat} {t : Nat} {s : St} (h : stepOf ths pos t = some s) : 0 < remB ths pos := by have := rem_bump h; omega
theorem loop_len {rc : List Nat → List St → (Nat → Bool) → List (List St)} {ths : List (List St)} {pos : List Nat} {run : List St} {B : Nat} (h : ∀ a b c, (rc a b c).length ≤ B) : ∀ (l : List Nat) (Z : Nat → Bool), (loopB rc ths pos run l Z).length ≤ l.length * B
  | [], Z => Nat.zero_le _
  | t :: r, Z => by
    have e : (t :: r).length * B = r.length * B + B := by simp [Nat.add_mul]
    unfold loopB
    split
    · have := loop_len h r Z (ths := ths) (pos := pos) (run := run); omega
    · split
      · have := loop_len h r Z (ths := ths) (pos := pos) (run := run); omega
      · rw [List.length_append]
        rename_i s _ _
        have h1 := loop_len h r (fun u => decide (u = t) || Z u) (ths := ths) (pos := pos) (run := run)
        have h2 := h (bump pos t) (run ++ [s]) (nextZ ths pos s Z)
        omega
theorem vis_len (ths : List (List St)) : ∀ (n : Nat) (pos : List Nat) (run : List St) (Z : Nat → Bool), (visB ths n pos run Z).length ≤ (ths.length + 1) ^ n
  | 0, _, _, _ => by simp [visB]
  | n + 1, pos, run, Z => by
    have h1 := loop_len (ths := ths) (pos := pos) (run := run) (fun a b c => vis_len ths n a b c) (List.range ths.length) Z
    have hp : 0 < (ths.length + 1) ^ n := Nat.pow_pos (Nat.succ_pos _)
    rw [visB, List.length_append, Nat.pow_succ, Nat.mul_add, Nat.mul_one]
    simp only [List.length_range] at h1
    have h2 : (if endU ths pos ths.length = true then [run] else []).length ≤ 1 := by split <;> simp
    rw [Nat.mul_comm] at h1
    omega
def zf (Z : Nat → Bool) : Lit → Option Value := fun l => match l with
  | .int .i64 a => if 0 ≤ a ∧ Z a.toNat = true then some (.bool true) else none
  | _ => none
theorem zf_at (Z : Nat → Bool) (t : Nat) : zf Z (.int .i64 (t : Int)) = if Z t = true then some (.bool true) else none := by simp [zf]
theorem zf_look (Z : Nat → Bool) (t : Nat) : cv ((zf Z (.int .i64 (t : Int))).getD (.bool false)) = .bool (Z t) := by
  rw [zf_at]
  cases Z t <;> rfl
theorem zf_ext {Z Z' : Nat → Bool} (h : ∀ u, Z u = Z' u) : zf Z = zf Z' := by rw [show Z = Z' from funext h]
theorem zf_put (Z : Nat → Bool) (t : Nat) : updF (zf Z) (.int .i64 (t : Int)) (some (.bool true)) = zf fun u => decide (u = t) || Z u := by
  funext l
  by_cases e : l = .int .i64 (t : Int)
  · subst e; rw [updF_same, zf_at]; simp
  · rw [updF_ne _ _ e]
    unfold zf
    split
    · rename_i a
      by_cases h0 : 0 ≤ a
      · have hne : a.toNat ≠ t := fun e2 => e (by rw [← e2, Int.toNat_of_nonneg h0])
        simp [hne]
      · simp [h0]
    · rfl
theorem zf_del (Z : Nat → Bool) (t : Nat) : updF (zf Z) (.int .i64 (t : Int)) none = zf fun u => !decide (u = t) && Z u := by
  funext l
  by_cases e : l = .int .i64 (t : Int)
  · subst e; rw [updF_same, zf_at]; simp
  · rw [updF_ne _ _ e]
    unfold zf
    split
    · rename_i a
      by_cases h0 : 0 ≤ a
      · have hne : a.toNat ≠ t := fun e2 => e (by rw [← e2, Int.toNat_of_nonneg h0])
        simp [hne]
      · simp [h0]
    · rfl
theorem zf_none : zf (fun _ => false) = fun _ => none := by
  funext l
  unfold zf
  split <;> simp
end Go.Proofs.Ytbhkcejjehgfcaa
namespace Go.Proofs.Ytbhkcejjehgfcaa
open Go.RowKit Go.Sort
set_option linter.unusedSimpArgs false
set_option linter.unusedVariables false
theorem tcB_symm (x y : Tc) : tcB x y = tcB y x := by
  unfold tcB
  rw [Bool.eq_iff_iff]
  simp only [Bool.and_eq_true, beq_iff_eq, Bool.or_eq_true]
  constructor <;> (rintro ⟨⟨⟨h1, h2⟩, h3⟩, h4⟩; exact ⟨⟨⟨h1.symm, h2.symm⟩, h3.symm⟩, h4.symm⟩)
theorem dpB_symm (a b : St) : dpB a b = dpB b a := by
  have h1 : (a.gs.any fun g => b.gs.contains g) = (b.gs.any fun g => a.gs.contains g) := by
    rw [Bool.eq_iff_iff]
    simp only [List.any_eq_true, List.contains_iff_mem]
    constructor <;> (rintro ⟨g, h1, h2⟩; exact ⟨g, h2, h1⟩)
  have h2 : (a.ts.any fun x => b.ts.any fun y => tcB x y) = (b.ts.any fun x => a.ts.any fun y => tcB x y) := by
    rw [Bool.eq_iff_iff]
    simp only [List.any_eq_true]
    constructor <;> (rintro ⟨x, h1, y, h2, h3⟩; exact ⟨y, h2, x, h1, by rw [tcB_symm]; exact h3⟩)
  unfold dpB
  rw [h1, h2]
structure ThOk (ths : List (List St)) : Prop where
  at' : ∀ (t : Nat) (l : List St), ths[t]? = some l → ∀ (i : Nat) (s : St), l[i]? = some s → s.g = (t : Int) ∧ s.c = (i : Int) ∧ s.gs = [(t : Int)]
theorem ThOk.g {ths : List (List St)} (h : ThOk ths) {pos : List Nat} {t : Nat} {s : St} (hs : stepOf ths pos t = some s) : s.g = (t : Int) ∧ s.gs = [(t : Int)] := by
  obtain ⟨l, k, h1, h2, h3⟩ := stepOf_some.1 hs
  have := h.at' t l h1 k s h3
  exact ⟨this.1, this.2.2⟩
theorem dp_same {a b : St} {t : Int} (ha : a.gs = [t]) (hb : b.gs = [t]) : dpB a b = true := by simp [dpB, ha, hb]
theorem step_ne {ths : List (List St)} {pos : List Nat} {t u : Nat} (h : u ≠ t) : stepOf ths (bump pos t) u = stepOf ths pos u := by
  unfold stepOf bump
  rw [List.getElem?_set_ne (Ne.symm h)]
theorem bump_comm {pos : List Nat} {t u : Nat} (h : t ≠ u) : bump (bump pos t) u = bump (bump pos u) t := by
  have e1 : (pos.set t (pos.getD t 0 + 1)).getD u 0 = pos.getD u 0 := by simp only [List.getD_eq_getElem?_getD]; rw [List.getElem?_set_ne h]
  have e2 : (pos.set u (pos.getD u 0 + 1)).getD t 0 = pos.getD t 0 := by simp only [List.getD_eq_getElem?_getD]; rw [List.getElem?_set_ne (Ne.symm h)]
  unfold bump
  rw [e1, e2, List.set_comm _ _ h]
def CompB (ths : List (List St)) : List Nat → List St → Prop
  | pos, [] => endU ths pos ths.length = true
  | pos, s :: r => ∃ t, stepOf ths pos t = some s ∧ CompB ths (bump pos t) r
theorem comp_front {ths : List (List St)} (ho : ThOk ths) {s : St} : ∀ {r : List St} {pos : List Nat} {r' : List St}, CompB ths pos r → Frn dpB r s r' → ∃ t, stepOf ths pos t = some s ∧ CompB ths (bump pos t) r'
  | [], pos, r', _, h => by obtain ⟨u, v, h, _⟩ := h; simp at h
  | y :: r, pos, r', hc, h => by
    obtain ⟨t', hy, hc'⟩ := hc
    rcases h.uncons with ⟨rfl, rfl⟩ | ⟨m, rfl, h1, h2, _⟩
    · exact ⟨t', hy, hc'⟩
    · obtain ⟨t, g1, g2⟩ := comp_front ho hc' h1
      have hne : t ≠ t' := by
        rintro rfl
        rw [dp_same (ho.g hy).2 (ho.g g1).2] at h2
        cases h2
      refine ⟨t, by rwa [step_ne hne] at g1, t', by rw [step_ne (Ne.symm hne)]; exact hy, ?_⟩
      rw [bump_comm hne]
      exact g2
def loopR (rc : List Nat → (Nat → Bool) → List (List St)) (ths : List (List St)) (pos : List Nat) : List Nat → (Nat → Bool) → List (List St)
  | [], _ => []
  | t :: r, Z => match stepOf ths pos t with
    | none => loopR rc ths pos r Z
    | some s => if Z t = true then loopR rc ths pos r Z else (rc (bump pos t) (nextZ ths pos s Z)).map (s :: ·) ++ loopR rc ths pos r (fun u => decide (u = t) || Z u)
def visR (ths : List (List St)) : Nat → List Nat → (Nat → Bool) → List (List St)
  | 0, _, _ => []
  | n + 1, pos, Z => loopR (visR ths n) ths pos (List.range ths.length) Z ++ (if endU ths pos ths.length = true then [[]] else [])
theorem loopB_R {ths : List (List St)} {pos : List Nat} {run : List St} {rc : List Nat → List St → (Nat → Bool) → List (List St)} {rc' : List Nat → (Nat → Bool) → List (List St)} (h : ∀ pos run Z, rc pos run Z = (rc' pos Z).map (run ++ ·)) :
    ∀ (l : List Nat) Z, loopB rc ths pos run l Z = (loopR rc' ths pos l Z).map (run ++ ·)
  | [], Z => rfl
  | t :: l, Z => by
    rw [loopB, loopR]
    cases hs : stepOf ths pos t with
    | none => exact loopB_R h l Z
    | some s =>
      dsimp only
      by_cases hZ : Z t = true
      · rw [if_pos hZ, if_pos hZ]; exact loopB_R h l Z
      · rw [if_neg hZ, if_neg hZ, List.map_append, loopB_R h l, h, List.map_map]
        congr 1
        apply List.map_congr_left
        intro x _
        simp
theorem visB_R (ths : List (List St)) : ∀ n pos run Z, visB ths n pos run Z = (visR ths n pos Z).map (run ++ ·)
  | 0, _, _, _ => rfl
  | n + 1, pos, run, Z => by
    rw [visB, visR, loopB_R (visB_R ths n), List.map_append]
    split <;> simp
def NoZ (ths : List (List St)) (pos : List Nat) (Z : Nat → Bool) (r : List St) : Prop := ∀ u x, Z u = true → stepOf ths pos u = some x → ¬ Ini dpB r x
theorem nextZ_spec {ths : List (List St)} {pos : List Nat} {s : St} {Z : Nat → Bool} {u : Nat} {x : St} (hx : stepOf ths pos u = some x) : nextZ ths pos s Z u = true ↔ Z u = true ∧ dpB s x = false := by
  simp [nextZ, hx]
theorem noz_next {ths : List (List St)} (ho : ThOk ths) {pos : List Nat} {t : Nat} {s : St} {Z : Nat → Bool} (hs : stepOf ths pos t = some s) (hZ : Z t = false) {r : List St} : NoZ ths (bump pos t) (nextZ ths pos s Z) r ↔ NoZ ths pos Z (s :: r) := by
  constructor
  · intro h u x hu hx hi
    have hne : u ≠ t := by rintro rfl; rw [hZ] at hu; cases hu
    obtain ⟨l', hl⟩ := hi
    rcases hl.uncons with ⟨rfl, _⟩ | ⟨m, _, h1, h2, h3⟩
    · have := (ho.g hx).1.symm.trans (ho.g hs).1
      omega
    · exact h u x ((nextZ_spec hx).2 ⟨hu, h2⟩) (by rw [step_ne hne]; exact hx) ⟨m, h1⟩
  · intro h u x hu hx ⟨m, hm⟩
    have hne : u ≠ t := by
      rintro rfl
      simp only [nextZ, hZ, Bool.false_and] at hu
      cases hu
    rw [step_ne hne] at hx
    obtain ⟨h1, h2⟩ := (nextZ_spec hx).1 hu
    exact h u x h1 hx ⟨_, hm.cons h2 (by rw [dpB_symm]; exact h2)⟩
structure Vis (ths : List (List St)) (pos : List Nat) (Z : Nat → Bool) (L : List (List St)) (A : List St → Prop) : Prop where
  sound : ∀ r ∈ L, CompB ths pos r ∧ NoZ ths pos Z r ∧ A r
  full : ∀ r, CompB ths pos r → NoZ ths pos Z r → A r → ∃ r' ∈ L, Sw dpB r r'
  apart : L.Pairwise fun a b => ¬ Sw dpB a b
theorem loop_vis {ths : List (List St)} (ho : ThOk ths) {pos : List Nat} {rc : List Nat → (Nat → Bool) → List (List St)} (h : ∀ t s Z, stepOf ths pos t = some s → Vis ths (bump pos t) Z (rc (bump pos t) Z) fun _ => True) :
    ∀ (l : List Nat) Z, Vis ths pos Z (loopR rc ths pos l Z) fun r => ∃ t s, t ∈ l ∧ stepOf ths pos t = some s ∧ Ini dpB r s
  | [], Z => ⟨fun r hr => (by cases hr), fun r _ _ ⟨t, _, h, _⟩ => (by cases h), .nil⟩
  | t :: l, Z => by
    rw [loopR]
    cases hs : stepOf ths pos t with
    | none =>
      obtain ⟨h1, h2, h3⟩ := loop_vis ho h l Z
      refine ⟨fun r hr => ?_, fun r hc hz ⟨t', s, ht, hs', hi⟩ => h2 r hc hz ?_, h3⟩
      · obtain ⟨g1, g2, t', s, g3, g4, g5⟩ := h1 r hr
        exact ⟨g1, g2, t', s, List.mem_cons_of_mem _ g3, g4, g5⟩
      · rcases List.mem_cons.1 ht with rfl | ht
        · rw [hs] at hs'; cases hs'
        · exact ⟨t', s, ht, hs', hi⟩
    | some s =>
      dsimp only
      cases hZ : Z t with
      | true =>
        rw [if_pos rfl]
        obtain ⟨h1, h2, h3⟩ := loop_vis ho h l Z
        refine ⟨fun r hr => ?_, fun r hc hz ⟨t', s', ht, hs', hi⟩ => h2 r hc hz ?_, h3⟩
        · obtain ⟨g1, g2, t', s, g3, g4, g5⟩ := h1 r hr
          exact ⟨g1, g2, t', s, List.mem_cons_of_mem _ g3, g4, g5⟩
        · rcases List.mem_cons.1 ht with rfl | ht
          · exact absurd hi (hz t' s' hZ hs')
          · exact ⟨t', s', ht, hs', hi⟩
      | false =>
        rw [if_neg (by simp)]
        obtain ⟨h1, h2, h3⟩ := loop_vis ho h l fun u => decide (u = t) || Z u
        obtain ⟨k1, k2, k3⟩ := h t s (nextZ ths pos s Z) hs
        refine ⟨fun r hr => ?_, fun r hc hz ⟨t', s', ht, hs', hi⟩ => ?_, ?_⟩
        · rcases List.mem_append.1 hr with hr | hr
          · obtain ⟨r', hr', rfl⟩ := List.mem_map.1 hr
            obtain ⟨g1, g2, _⟩ := k1 r' hr'
            exact ⟨⟨t, hs, g1⟩, (noz_next ho hs hZ).1 g2, t, s, by simp, hs, _, .head _ _⟩
          · obtain ⟨g1, g2, t', s', g3, g4, g5⟩ := h1 r hr
            exact ⟨g1, fun u x hu => g2 u x (by simp [hu]), t', s', List.mem_cons_of_mem _ g3, g4, g5⟩
        · by_cases his : Ini dpB r s
          · obtain ⟨r1, hf⟩ := his
            obtain ⟨t2, e1, e2⟩ := comp_front ho hc hf
            have : t2 = t := by have := (ho.g e1).1.symm.trans (ho.g hs).1; omega
            subst this
            have hsw := hf.sw
            have hz2 : NoZ ths (bump pos t2) (nextZ ths pos s Z) r1 := (noz_next ho hs hZ).2 fun u x hu hx hi => hz u x hu hx (hi.sw hsw.symm)
            obtain ⟨r', hr', hsw'⟩ := k2 r1 e2 hz2 trivial
            exact ⟨s :: r', List.mem_append.2 (.inl (List.mem_map.2 ⟨r', hr', rfl⟩)), hsw.trans (.cons s hsw')⟩
          · obtain ⟨r', hr', hsw'⟩ := h2 r hc (fun u x hu hx => by
              simp only [Bool.or_eq_true, decide_eq_true_eq] at hu
              rcases hu with rfl | hu
              · rw [hs] at hx; cases hx; exact his
              · exact hz u x hu hx) ⟨t', s', (List.mem_cons.1 ht).resolve_left (fun e => by subst e; rw [hs] at hs'; cases hs'; exact his hi), hs', hi⟩
            exact ⟨r', List.mem_append.2 (.inr hr'), hsw'⟩
        · refine List.pairwise_append.2 ⟨List.pairwise_map.2 (k3.imp fun hn hsw => hn (hsw.cancel (dp_same (ho.g hs).2 (ho.g hs).2))), h3, fun a ha b hb hsw => ?_⟩
          obtain ⟨r', hr', rfl⟩ := List.mem_map.1 ha
          exact (h1 b hb).2.1 t s (by simp) hs (Ini.sw ⟨_, .head _ _⟩ hsw)
theorem comp_nil {ths : List (List St)} {pos : List Nat} {r : List St} (h : CompB ths pos r) : r = [] ↔ endU ths pos ths.length = true := by
  constructor
  · rintro rfl; exact h
  · intro he
    cases r with
    | nil => rfl
    | cons s r =>
      obtain ⟨t, hs, _⟩ := h
      simp only [endU, endB, List.all_eq_true, List.mem_range] at he
      obtain ⟨l, k, h1, _⟩ := stepOf_some.1 hs
      have := he t (List.getElem?_eq_some_iff.1 h1).1
      rw [hs] at this
      cases this
theorem vis_vis {ths : List (List St)} (ho : ThOk ths) : ∀ n pos Z, remB ths pos < n → Vis ths pos Z (visR ths n pos Z) fun _ => True
  | 0, _, _, h => by omega
  | n + 1, pos, Z, hn => by
    obtain ⟨h1, h2, h3⟩ := loop_vis ho (rc := visR ths n) (pos := pos) (fun t s Z hs => vis_vis ho n (bump pos t) Z (by have := rem_bump hs; omega)) (List.range ths.length) Z
    rw [visR]
    have hne : ∀ r ∈ loopR (visR ths n) ths pos (List.range ths.length) Z, endU ths pos ths.length = true → False := fun r hr he => by
      obtain ⟨g1, _, t, s, _, g4, g5⟩ := h1 r hr
      rw [(comp_nil g1).2 he] at g5
      obtain ⟨_, u, v, h, _⟩ := g5
      simp at h
    refine ⟨fun r hr => ?_, fun r hc hz _ => ?_, ?_⟩
    · rcases List.mem_append.1 hr with hr | hr
      · exact ⟨(h1 r hr).1, (h1 r hr).2.1, trivial⟩
      · split at hr
        · rename_i he
          rw [List.mem_singleton.1 hr]
          exact ⟨he, fun u x _ _ ⟨_, u', v, h, _⟩ => (by simp at h), trivial⟩
        · cases hr
    · cases r with
      | nil => exact ⟨[], List.mem_append.2 (.inr (by rw [show endU ths pos ths.length = true from hc]; simp)), .refl _⟩
      | cons s r =>
        obtain ⟨t, hs, hc'⟩ := hc
        obtain ⟨l, k, g1, _⟩ := stepOf_some.1 hs
        obtain ⟨r', hr', hsw⟩ := h2 (s :: r) ⟨t, hs, hc'⟩ hz ⟨t, s, List.mem_range.2 (List.getElem?_eq_some_iff.1 g1).1, hs, _, .head _ _⟩
        exact ⟨r', List.mem_append.2 (.inl hr'), hsw⟩
    · refine List.pairwise_append.2 ⟨h3, ?_, fun a ha b hb => ?_⟩
      · split <;> simp
      · split at hb
        · rename_i he; exact (hne a ha he).elim
        · cases hb
end Go.Proofs.Ytbhkcejjehgfcaa
namespace Go.Proofs.Ytbhkcejjehgfcaa
open Go.RowKit Go.Sort
set_option linter.unusedSimpArgs false
set_option linter.unusedVariables false
def stepsOf (ths : List (List St)) : List St := ths.flatten
theorem end_iff {ths : List (List St)} {pos : List Nat} : endU ths pos ths.length = true ↔ ∀ t, stepOf ths pos t = none := by
  simp only [endU, endB, List.all_eq_true, List.mem_range, Option.isNone_iff_eq_none]
  constructor
  · intro h t
    by_cases ht : t < ths.length
    · exact h t ht
    · unfold stepOf
      rw [List.getElem?_eq_none (by omega)]
      rfl
  · intro h t _; exact h t
theorem step_mem {ths : List (List St)} {pos : List Nat} {t : Nat} {s : St} (h : stepOf ths pos t = some s) : s ∈ stepsOf ths := by
  obtain ⟨l, k, h1, _, h3⟩ := stepOf_some.1 h
  exact List.mem_flatten.2 ⟨l, List.mem_of_getElem? h1, List.mem_of_getElem? h3⟩
theorem comp_mem {ths : List (List St)} : ∀ {r : List St} {pos : List Nat}, CompB ths pos r → ∀ s ∈ r, s ∈ stepsOf ths
  | [], _, _, s, hs => by cases hs
  | x :: r, pos, ⟨t, h1, h2⟩, s, hs => by
    rcases List.mem_cons.1 hs with rfl | hs
    · exact step_mem h1
    · exact comp_mem h2 s hs
structure Sim (ths ths' : List (List St)) (σ τ : Nat → Nat) (φ : St → St) : Prop where
  left : ∀ t, τ (σ t) = t
  right : ∀ t, σ (τ t) = t
  len : ths'.length = ths.length
  th : ∀ t, ths'[σ t]? = (ths[t]?).map (List.map φ)
def Cor (σ : Nat → Nat) (pos pos' : List Nat) : Prop := ∀ t, pos'[σ t]? = pos[t]?
section
variable {ths ths' : List (List St)} {σ τ : Nat → Nat} {φ : St → St}
theorem Sim.step (h : Sim ths ths' σ τ φ) {pos pos' : List Nat} (hc : Cor σ pos pos') (t : Nat) : stepOf ths' pos' (σ t) = (stepOf ths pos t).map φ := by
  unfold stepOf
  rw [h.th, hc]
  cases ths[t]? with
  | none => rfl
  | some l =>
    cases pos[t]? with
    | none => rfl
    | some k => simp
theorem Sim.bump (h : Sim ths ths' σ τ φ) {pos pos' : List Nat} (hc : Cor σ pos pos') (t : Nat) : Cor σ (bump pos t) (bump pos' (σ t)) := fun u => by
  unfold Go.Proofs.Ytbhkcejjehgfcaa.bump
  have e : pos'.getD (σ t) 0 = pos.getD t 0 := by simp only [List.getD_eq_getElem?_getD, hc t]
  rw [e]
  by_cases hu : t = u
  · subst hu
    rw [List.getElem?_set, List.getElem?_set, if_pos rfl, if_pos rfl]
    have := hc t
    by_cases h1 : t < pos.length
    · have h2 : σ t < pos'.length := by
        rw [List.getElem?_eq_getElem h1] at this
        exact (List.getElem?_eq_some_iff.1 this).1
      rw [if_pos h1, if_pos h2]
    · have h2 : ¬ σ t < pos'.length := by
        rw [List.getElem?_eq_none (show pos.length ≤ t by omega)] at this
        exact Nat.not_lt.2 (List.getElem?_eq_none_iff.1 this)
      rw [if_neg h1, if_neg h2]
  · have hne : σ t ≠ σ u := fun e => hu (by rw [← h.left t, e, h.left])
    rw [List.getElem?_set_ne hne, List.getElem?_set_ne hu]
    exact hc u
theorem Sim.zero (h : Sim ths ths' σ τ φ) : Cor σ (List.replicate ths.length 0) (List.replicate ths'.length 0) := fun t => by
  rw [List.getElem?_replicate, List.getElem?_replicate]
  have e : σ t < ths'.length ↔ t < ths.length := by
    have := h.th t
    constructor
    · intro h1
      rw [List.getElem?_eq_getElem h1] at this
      cases h2 : ths[t]? with
      | none => rw [h2] at this; cases this
      | some l => exact (List.getElem?_eq_some_iff.1 h2).1
    · intro h1
      rw [List.getElem?_eq_getElem h1] at this
      exact (List.getElem?_eq_some_iff.1 this).1
  by_cases h1 : t < ths.length
  · rw [if_pos h1, if_pos (e.2 h1)]
  · rw [if_neg h1, if_neg fun h2 => h1 (e.1 h2)]
theorem Sim.comp (h : Sim ths ths' σ τ φ) : ∀ {r : List St} {pos pos' : List Nat}, Cor σ pos pos' → CompB ths pos r → CompB ths' pos' (r.map φ)
  | [], pos, pos', hc, hr => by
    have h1 := end_iff.1 hr
    refine end_iff.2 fun t => ?_
    have := h.step hc (τ t)
    rwa [h.right, h1] at this
  | s :: r, pos, pos', hc, ⟨t, h1, h2⟩ => ⟨σ t, by rw [h.step hc, h1]; rfl, h.comp (h.bump hc t) h2⟩
end
theorem visA_R (ths : List (List St)) : visB ths 13 (List.replicate ths.length 0) [] (fun _ => false) = visR ths 13 (List.replicate ths.length 0) fun _ => false := by
  rw [visB_R]; simp
theorem visA_vis {ths : List (List St)} (ho : ThOk ths) (hr : remB ths (List.replicate ths.length 0) ≤ 12) : Vis ths (List.replicate ths.length 0) (fun _ => false) (visR ths 13 (List.replicate ths.length 0) fun _ => false) fun _ => True := vis_vis ho 13 _ _ (by omega)
theorem noz_none {ths : List (List St)} {pos : List Nat} {r : List St} : NoZ ths pos (fun _ => false) r := fun u x h => by cases h
theorem cls_le {ths ths' : List (List St)} {σ τ : Nat → Nat} {φ : St → St} (h : Sim ths ths' σ τ φ) (ho : ThOk ths) (ho' : ThOk ths') (hr : remB ths (List.replicate ths.length 0) ≤ 12) (hr' : remB ths' (List.replicate ths'.length 0) ≤ 12)
    (ψ : St → St) (hψ : ∀ s ∈ stepsOf ths, ψ (φ s) = s) (hD : ∀ a ∈ stepsOf ths, ∀ b ∈ stepsOf ths, dpB (φ a) (φ b) = false → dpB a b = false) :
    (visR ths 13 (List.replicate ths.length 0) fun _ => false).length ≤ (visR ths' 13 (List.replicate ths'.length 0) fun _ => false).length := by
  obtain ⟨s1, f1, a1⟩ := visA_vis ho hr
  obtain ⟨s2, f2, a2⟩ := visA_vis ho' hr'
  refine len_le (S := fun r y => CompB ths (List.replicate ths.length 0) r ∧ Sw dpB (r.map φ) y) (R := Sw dpB) a1 (fun r hrm => ?_) (fun r r' y _ _ hS hS' => ?_)
  · obtain ⟨hc, _⟩ := s1 r hrm
    obtain ⟨y, hy, hsw⟩ := f2 _ (h.comp h.zero hc) noz_none trivial
    exact ⟨y, hy, hc, hsw⟩
  · have hsw := (hS.2.trans hS'.2.symm).map (D' := dpB) ψ (fun a ha b hb hab => by
      obtain ⟨a', ha', rfl⟩ := List.mem_map.1 ha
      obtain ⟨b', hb', rfl⟩ := List.mem_map.1 hb
      have ma := comp_mem hS.1 a' ha'
      have mb := comp_mem hS.1 b' hb'
      rw [hψ a' ma, hψ b' mb]
      exact hD a' ma b' mb hab)
    have e : ∀ q, CompB ths (List.replicate ths.length 0) q → (q.map φ).map ψ = q := fun q hq => by
      rw [List.map_map]
      have : q.map (ψ ∘ φ) = q.map id := List.map_congr_left fun x hx => hψ x (comp_mem hq x hx)
      rw [this, List.map_id]
    rwa [e r hS.1, e r' hS'.1] at hsw
theorem free_front {ths : List (List St)} (ho : ThOk ths) (hfree : ∀ a ∈ stepsOf ths, ∀ b ∈ stepsOf ths, a.g ≠ b.g → dpB a b = false) {t : Nat} {s : St} : ∀ {r : List St} {pos : List Nat}, CompB ths pos r → stepOf ths pos t = some s → ∃ m, Frn dpB r s m
  | [], pos, hr, hs => by rw [end_iff.1 hr t] at hs; cases hs
  | y :: r, pos, ⟨t', h1, h2⟩, hs => by
    by_cases e : t = t'
    · subst e
      rw [hs] at h1; cases h1
      exact ⟨r, .head _ _⟩
    · obtain ⟨m, hm⟩ := free_front ho hfree h2 (by rw [step_ne e]; exact hs)
      have hne : y.g ≠ s.g := by rw [(ho.g h1).1, (ho.g hs).1]; omega
      exact ⟨y :: m, hm.cons (hfree _ (step_mem h1) _ (step_mem hs) hne) (hfree _ (step_mem hs) _ (step_mem h1) hne.symm)⟩
theorem free_sw {ths : List (List St)} (ho : ThOk ths) (hfree : ∀ a ∈ stepsOf ths, ∀ b ∈ stepsOf ths, a.g ≠ b.g → dpB a b = false) : ∀ {r r' : List St} {pos : List Nat}, CompB ths pos r → CompB ths pos r' → Sw dpB r r'
  | [], r', pos, h, h' => by rw [(comp_nil h').2 h]; exact .refl _
  | s :: r, r', pos, ⟨t, h1, h2⟩, h' => by
    obtain ⟨m, hm⟩ := free_front ho hfree h' h1
    obtain ⟨t2, e1, e2⟩ := comp_front ho h' hm
    have : t2 = t := by have := (ho.g e1).1.symm.trans (ho.g h1).1; omega
    subst this
    exact (Sw.cons s (free_sw ho hfree h2 e2)).trans hm.sw.symm
theorem free_one {ths : List (List St)} (ho : ThOk ths) (hfree : ∀ a ∈ stepsOf ths, ∀ b ∈ stepsOf ths, a.g ≠ b.g → dpB a b = false) (hr : remB ths (List.replicate ths.length 0) ≤ 12) (hne : visR ths 13 (List.replicate ths.length 0) (fun _ => false) ≠ []) : (visR ths 13 (List.replicate ths.length 0) fun _ => false).length = 1 := by
  obtain ⟨s1, f1, a1⟩ := visA_vis ho hr
  match hv : visR ths 13 (List.replicate ths.length 0) (fun _ => false), hne with
  | [x], _ => rfl
  | x :: y :: l, _ =>
    rw [hv] at s1 a1
    exact absurd (free_sw ho hfree (s1 x (by simp)).1 (s1 y (by simp)).1) ((List.pairwise_cons.1 a1).1 y (by simp))
end Go.Proofs.Ytbhkcejjehgfcaa
