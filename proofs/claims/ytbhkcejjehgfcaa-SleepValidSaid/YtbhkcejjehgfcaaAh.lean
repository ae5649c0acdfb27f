/- Less is known of a state; a function's beginning and end; regions that draw their order. -/
import Derived.Test.YtbhkcejjehgfcaaAg
import Derived.RangeFuncLeaves
namespace Go.Proofs.Ytbhkcejjehgfcaa
open Go.RowKit Go.Sort
set_option linter.unusedVariables false

/-- Whatever is as x says is as y says. -/
def AVle (x y : AV) : Prop := ∀ N D loc w v, AR N D loc w x v → AR N D loc w y v
theorem AVle.refl (x : AV) : AVle x x := fun _ _ _ _ _ h => h
theorem AVle.of_eq {x y : AV} (h : x = y) : AVle x y := h ▸ AVle.refl x
theorem AVle.junk (x : AV) : AVle x .junk := fun _ _ _ _ v _ => .junk v
theorem AVle.nil (n : Nat) : AVle (.p (.val (.slice none 0 0))) (.p (.seq n [])) := fun _ _ _ _ _ h => by
  rw [h.val]; exact .p _ _ (.nil n none 0 fun _ => rfl)
def AO.okB (n : Nat) : AO → Bool
  | .boxP _ _ cs => cs.all (·.okB n)
  | .lrec _ _ fr => fr.all fun p => p.2.okB n
  | .row _ _ _ => true
  | .map _ _ _ _ _ => true
  | .raw _ _ => true
def ASt.okB (s : ASt) : Bool := s.fr.all (fun p => p.2.okB s.N) && s.hp.all (fun p => decide (p.1 < s.N) && p.2.okB s.N)
theorem mem_of_lookup {α : Type} {l : List (Nat × α)} {t : Nat} {x : α} (h : l.lookup t = some x) : (t, x) ∈ l := by
  induction l with
  | nil => cases h
  | cons p r ih =>
    obtain ⟨j, y⟩ := p
    by_cases e : t = j
    · subst e; rw [lookup_cons_eq] at h; cases h; exact List.mem_cons.2 (.inl rfl)
    · rw [lookup_cons_ne e] at h; exact List.mem_cons.2 (.inr (ih h))
theorem OR.low {N n : Nat} {D : Nat → Prop} {loc : Nat → Option Value} {w : World} {u : Value} {o : AO} (h : OR N D loc w u o) (hx : o.okB n = true) : OR n D loc w u o := by
  cases o with
  | map b P k n f => exact h
  | raw v ob => exact h
  | lrec l sp fr =>
    obtain ⟨rfl, tmps, h1, h2, h3⟩ := h
    refine ⟨rfl, tmps, h1, h2, fun t => ?_⟩
    have h4 := h3 t
    cases hf : fr.lookup t with
    | none => exact .junk _
    | some x => rw [hf] at h4; exact h4.low (List.all_eq_true.1 hx _ (mem_of_lookup hf))
  | boxP pin ty cs =>
    obtain ⟨b, arr, rfl, h1, h2, h3, h4⟩ := h
    exact ⟨b, arr, rfl, h1, h2, fun j x hj => (h3 j x hj).low (List.all_eq_true.1 hx x (List.mem_of_getElem? hj)), h4⟩
  | row e n rows => exact h
theorem Weak.of {s s' : ASt} (hn : s'.n = s.n) (hfr : ∀ p ∈ s'.fr, AVle (s.get p.1) p.2) (hhp : ∀ p ∈ s'.hp, s.hp.lookup p.1 = some p.2) (hok : s'.okB = true) : Weak s s' := fun L loc a w hr => by
  simp only [ASt.okB, Bool.and_eq_true, List.all_eq_true, decide_eq_true_eq] at hok
  obtain ⟨ok1, ok2⟩ := hok
  let loc' : Nat → Option Value := fun t => if (s'.hp.lookup t).isSome then loc t else none
  have hl : ∀ t u, loc' t = some u → loc t = some u := fun t u h => by
    simp only [loc'] at h
    split at h
    · exact h
    · cases h
  have hD : ∀ k, Dm L loc' k → Dm L loc k := fun k hk => hk.imp id fun ⟨t, u, h1, h2⟩ => ⟨t, u, hl t u h1, h2⟩
  refine ⟨loc', ⟨hr.defers, hr.size.trans hn.symm, fun t _ => ?_, ⟨fun t o ht => ?_, fun t ht => ?_, fun t t' u u' b h1 h2 => hr.hp.apart t t' u u' b (hl _ _ h1) (hl _ _ h2), hr.hp.inL, fun t u b h1 => hr.hp.notL t u b (hl _ _ h1)⟩⟩, ⟨Kp.refl _ _, fun b hb => .inl (hb.imp id fun ⟨t, u, h1, h2⟩ => ⟨t, u, hl t u h1, h2⟩)⟩⟩
  · unfold ASt.get
    cases ht : s'.fr.lookup t with
    | none => exact .junk _
    | some x =>
      have hm := mem_of_lookup ht
      have h1 := hfr _ hm _ _ _ _ _ (hr.fr t trivial)
      exact (h1.low (ok1 _ hm)).mono (Nat.le_refl _) (Kp.refl _ _) (fun k _ h => hD k h) (fun t u _ h => hl t u h)
  · have hm := mem_of_lookup ht
    have h1 := hhp _ hm
    obtain ⟨_, u, h3, h4⟩ := hr.hp.at' t o h1
    have h5 := ok2 _ hm
    refine ⟨h5.1, u, by simp [loc', ht, h3], (h4.low h5.2).mono (Nat.le_refl _) (Kp.refl _ _) (fun k _ h => hD k h) (fun t u _ h => hl t u h) (fun _ _ => rfl)⟩
  · simp [loc', ht]
/-- A growing slice is finished: it is data from now on. -/
def ASt.frz (s : ASt) (t : Nat) : ASt := match s.hp.lookup t with
  | some (.row _ n rows) => { s.subst t (.p (.seq n rows)) with hp := (s.subst t (.p (.seq n rows))).hp.filter fun p => p.1 != t }
  | _ => s
theorem lookup_filter {α : Type} (l : List (Nat × α)) (t k : Nat) : (l.filter fun p => p.1 != t).lookup k = if k = t then none else l.lookup k := by
  induction l with
  | nil => simp
  | cons p r ih =>
    obtain ⟨j, x⟩ := p
    by_cases e : j = t
    · subst e
      rw [List.filter_cons, if_neg (by simp), ih]
      by_cases ek : k = j
      · rw [if_pos ek, if_pos ek]
      · rw [if_neg ek, if_neg ek, lookup_cons_ne ek]
    · rw [List.filter_cons, if_pos (by simpa using e)]
      by_cases ek : k = j
      · subst ek; rw [lookup_cons_eq, lookup_cons_eq, if_neg e]
      · rw [lookup_cons_ne ek, lookup_cons_ne ek, ih]
theorem Weak.frz (s : ASt) (t : Nat) : Weak s (s.frz t) := by
  unfold ASt.frz
  split
  · rename_i e n rows hlk
    intro L loc a w hr
    obtain ⟨htN, u, hu, hor⟩ := hr.hp.at' t _ hlk
    let loc' : Nat → Option Value := fun k => if k = t then none else loc k
    have hl : ∀ k u, loc' k = some u → k ≠ t ∧ loc k = some u := fun k u h => by
      simp only [loc'] at h
      split at h
      · cases h
      · rename_i e; exact ⟨e, h⟩
    have hD : ∀ k, Dm L loc' k → Dm L loc k := fun k hk => hk.imp id fun ⟨t, u, h1, h2⟩ => ⟨t, u, (hl t u h1).2, h2⟩
    have hnb : ∀ b, blkOf u = some b → ¬ Dm L loc' b := fun b hb hd => hd.elim (fun h => hr.hp.notL t u b hu hb h) (fun ⟨t', u', h1, h2⟩ => (hl t' u' h1).1 (hr.hp.apart t' t u' u b (hl t' u' h1).2 hu h2 hb))
    have hpr : PR (Dm L loc') w (.seq n rows) u := hor.seq hD hnb
    have hy : ∀ v, v.oneCell' = true → (∀ z, loc t = some z → v = z) → AR s.N (Dm L loc') loc' w (.p (.seq n rows)) v := fun v _ hv => by rw [hv u hu]; exact .p _ _ hpr
    refine ⟨loc', ⟨hr.defers, hr.size, fun k _ => ?_, ⟨fun k o ht => ?_, fun k ht => ?_, fun k k' z z' b h1 h2 => hr.hp.apart k k' z z' b (hl _ _ h1).2 (hl _ _ h2).2, hr.hp.inL, fun k z b h1 => hr.hp.notL k z b (hl _ _ h1).2⟩⟩, ⟨Kp.refl _ _, fun b hb => .inl (hb.imp id fun ⟨t, u, h1, h2⟩ => ⟨t, u, (hl t u h1).2, h2⟩)⟩⟩
    · show AR _ _ _ _ ((s.subst t _).get k) _
      rw [ASt.get_subst]
      exact (hr.fr k trivial).sub (Nat.le_refl _) (Kp.refl _ _) (fun k _ h => hD k h) (fun k z _ hne h => (hl k z h).2) hy
    · change List.lookup k (List.filter _ _) = some o at ht
      rw [lookup_filter] at ht
      split at ht
      · cases ht
      · rename_i hne
        simp only [ASt.subst, lookup_map, Option.map_eq_some_iff] at ht
        obtain ⟨ob, h1, rfl⟩ := ht
        obtain ⟨h2, z, h3, h4⟩ := hr.hp.at' k ob h1
        exact ⟨h2, z, by simp [loc', hne, h3], h4.sub (Nat.le_refl _) (Kp.refl _ _) (fun k _ h => hD k h) (fun k z _ hne h => (hl k z h).2) hy (fun _ _ => rfl)⟩
    · change List.lookup k (List.filter _ _) = none at ht
      rw [lookup_filter] at ht
      split at ht
      · rename_i e; simp [loc', e]
      · rename_i hne
        simp only [ASt.subst, lookup_map, Option.map_eq_none_iff] at ht
        simp [loc', hne, hr.hp.dead k ht]
  · exact Weak.refl s
/-- A nil slice is the beginning of one that grows. -/
theorem Weak.newrow (s : ASt) (t e n : Nat) (ht : t < s.n) (h : s.get t = .p (.val (.slice none 0 0))) : Weak s ((s.add (.row e n [])).put (some t) (.own s.N)) := fun L loc a w hr => by
  have hs : slot a t = .slice none 0 0 := by have := hr.fr t trivial; rw [h] at this; exact this.val
  have hb := Blw.refl w.heap.size w
  have h1 := hr.add hb (.slice none 0 0) (.row e n []) (fun b e => by cases e) ⟨[], World.ownsRow_nil _ _ _ _, fun r hr => (by cases hr), fun k r j x h => (by simp at h), fun v hv => (by cases hv)⟩
  refine ⟨setLoc loc s.N (.slice none 0 0), ?_, .add hb _ _ (fun b e => by cases e)⟩
  have h2 := h1.put (d := t) ht (x := .own s.N) (v := .slice none 0 0) (.own s.N _ (Nat.lt_succ_self _) rfl fun u hu => by rw [setLoc_same] at hu; cases hu; rfl)
  have e : a.put (some t) (.slice none 0 0) = a := by
    refine act_ext (by rw [size_put]) rfl fun k => ?_
    rw [slot_put a t k _ (by rw [hr.size]; exact ht)]
    split
    · rename_i hk; rw [hk, hs]
    · rfl
  rw [e] at h2
  exact ⟨h2.defers, h2.size, fun k _ => h2.fr k (.inr trivial), h2.hp⟩

/-! ### A function's beginning and end -/
def frOf : Nat → List AV → List (Nat × AV)
  | _, [] => []
  | k, x :: r => (k, x) :: frOf (k + 1) r
def startSt (xs : List AV) (n : Nat) : ASt := ⟨frOf 0 xs, [], n, 0⟩
theorem frOf_lookup : ∀ (xs : List AV) (k t : Nat), (frOf k xs).lookup t = if k ≤ t then xs[t - k]? else none
  | [], k, t => by simp [frOf]
  | x :: r, k, t => by
    rw [frOf]
    by_cases e : t = k
    · subst e; rw [lookup_cons_eq, if_pos (Nat.le_refl _)]; simp
    · rw [lookup_cons_ne e, frOf_lookup r (k + 1) t]
      by_cases h : k + 1 ≤ t
      · rw [if_pos h, if_pos (by omega), show t - k = (t - (k + 1)) + 1 by omega]; rfl
      · rw [if_neg h, if_neg (by omega)]
def ares1 (P : Program) (s : ASt) : ResultVar → Option AV
  | .tmp t => some (s.get t)
  | .cell t ty => match s.get t with
    | .ptr tag off => aload P s ty (.ptr tag off)
    | _ => none
def aresL (P : Program) (s : ASt) : List ResultVar → Option (List AV)
  | [] => some []
  | r :: rs => match ares1 P s r, aresL P s rs with
    | some x, some xs => some (x :: xs)
    | _, _ => none
def ares (P : Program) (s : ASt) (rs : List ResultVar) : Option AV := match aresL P s rs with
  | some [x] => some x
  | some xs => some (.tup xs)
  | none => none
theorem load_ptr {P : Program} {X : Nat → Prop} {L : Lim} {s : ASt} {loc : Nat → Option Value} {a : Act} {w : World} (hr : Rel X L s loc a w) {tag off ty : Nat} {av : AV} {v : Value} (hv : AR s.N (Dm L loc) loc w (.ptr tag off) v) (h : aload P s ty (.ptr tag off) = some av) :
    ∃ b u, v = .pointer (some ⟨b, off, none⟩) ∧ (loadVar ty ⟨b, off, none⟩).run P w = .ok u w ∧ AR s.N (Dm L loc) loc w av u := by
  simp only [aload] at h
  cases hlk : s.hp.lookup tag with
  | none => rw [hlk] at h; cases h
  | some ob =>
    rw [hlk] at h
    obtain ⟨_, u', hu', hor⟩ := hr.hp.at' tag ob hlk
    cases ob with
    | map _ _ _ _ _ => cases h
    | raw _ _ => cases h
    | lrec _ _ _ => cases h
    | row e n rows => cases h
    | boxP pin ty' cs =>
      obtain ⟨b, arr, rfl, hh, hsz, hcs, h1c, _⟩ := hor
      cases hv with
      | ptr _ _ _ _ _ hv =>
      obtain rfl := hv b hu'
      obtain ⟨u, h2, h3⟩ := load_cells (P := P) (N := s.N) (D := Dm L loc) (loc := loc) (b := b) (o := 0) (cs := cs) (fun j => arr.getD j undef) (fun j y hy => by
        obtain ⟨hlt, _⟩ := List.getElem?_eq_some_iff.1 hy
        refine ⟨?_, hcs j y hy, h1c j (by omega)⟩
        rw [row_cells hh, Array.getD_eq_getD_getElem?, Nat.zero_add, Array.getElem?_eq_getElem (by omega)]; rfl) h
      rw [Nat.zero_add] at h2
      exact ⟨b, u, rfl, by simpa [Instr.loadAt, Instr.sureAddr] using h2, h3⟩
def res1 (tmps : Array Value) : ResultVar → Sem Value
  | .tmp t => pure (tmps.getD t undef)
  | .cell t ty => do loadVar ty (← asAddr (tmps.getD t undef))
theorem run_results {fn : Func} {rs : List ResultVar} (h : fn.results = rs.toArray) (tmps : Array Value) (P : Program) (w : World) : (results fn tmps).run P w = ((rs.mapM (res1 tmps)).run P w).andThen fun vs w' => .ok (match vs with | [v] => v | vs => .tuple vs.toArray) w' := by
  have e : results fn tmps = (do let vs ← fn.results.mapM (res1 tmps); pure (if h : vs.size = 1 then vs[0] else .tuple vs)) := by
    unfold results
    congr 1
  rw [e, h, List.mapM_toArray]
  simp only [bind_map_left, Sem.run_bind]
  congr 1
  funext vs w'
  match vs with
  | [] => simp
  | [v] => simp
  | a :: b :: r => simp
theorem run_res1 {P : Program} {L : Lim} {s : ASt} {loc : Nat → Option Value} {a : Act} {w : World} (hr : Rel All L s loc a w) {r : ResultVar} {x : AV} (h : ares1 P s r = some x) :
    ∃ v, (res1 a.tmps r).run P w = .ok v w ∧ AR s.N (Dm L loc) loc w x v := by
  cases r with
  | tmp t => cases h; exact ⟨slot a t, by simp [slot, res1], hr.fr t trivial⟩
  | cell t ty =>
    simp only [ares1] at h
    split at h
    · rename_i tag off he
      have h1 := hr.fr t trivial
      rw [he] at h1
      obtain ⟨b, u, h2, h3, h4⟩ := load_ptr hr h1 h
      refine ⟨u, ?_, h4⟩
      unfold slot at h2
      simp only [res1, h2, asAddr, Sem.run_bind, Sem.run_pure, Result.andThen_ok, h3]
    · cases h
theorem run_ares {P : Program} {L : Lim} {s : ASt} {loc : Nat → Option Value} {a : Act} {w : World} (hr : Rel All L s loc a w) (fn : Func) {x : AV} (h : ares P s fn.results.toList = some x) (h3 : fn.results.size ≤ 3) : ∃ v, (results fn a.tmps).run P w = .ok v w ∧ AR s.N (Dm L loc) loc w x v := by
  obtain ⟨rs, hrs⟩ : ∃ rs, fn.results = List.toArray rs := ⟨fn.results.toList, by simp⟩
  rw [hrs] at h h3
  simp only [List.size_toArray] at h3
  unfold ares at h
  rw [run_results hrs]
  rcases rs with _ | ⟨r1, _ | ⟨r2, _ | ⟨r3, _ | ⟨r4, rs⟩⟩⟩⟩
  · simp only [aresL, Option.some.injEq] at h
    subst h
    exact ⟨.tuple #[], by simp, .tup [] #[] rfl (fun j x hx => by simp at hx)⟩
  · simp only [aresL] at h
    cases h1 : ares1 P s r1 with
    | none => simp [h1] at h
    | some y =>
      simp only [h1, Option.some.injEq] at h
      subst h
      obtain ⟨v, h2, h4⟩ := run_res1 hr h1
      exact ⟨v, by simp [h2], h4⟩
  · simp only [aresL] at h
    cases h1 : ares1 P s r1 with
    | none => simp [h1] at h
    | some y1 =>
      cases h2 : ares1 P s r2 with
      | none => simp [h1, h2] at h
      | some y2 =>
        simp only [h1, h2, Option.some.injEq] at h
        subst h
        obtain ⟨v1, h4, h5⟩ := run_res1 hr h1
        obtain ⟨v2, h6, h7⟩ := run_res1 hr h2
        refine ⟨.tuple #[v1, v2], by simp [h4, h6], .tup _ _ rfl fun j x hx => ?_⟩
        match j, hx with
        | 0, hx => cases hx; exact h5
        | 1, hx => cases hx; exact h7
  · simp only [aresL] at h
    cases h1 : ares1 P s r1 with
    | none => simp [h1] at h
    | some y1 =>
      cases h2 : ares1 P s r2 with
      | none => simp [h1, h2] at h
      | some y2 =>
        cases h3 : ares1 P s r3 with
        | none => simp [h1, h2, h3] at h
        | some y3 =>
          simp only [h1, h2, h3, Option.some.injEq] at h
          subst h
          obtain ⟨v1, h4, h5⟩ := run_res1 hr h1
          obtain ⟨v2, h6, h7⟩ := run_res1 hr h2
          obtain ⟨v3, h8, h9⟩ := run_res1 hr h3
          refine ⟨.tuple #[v1, v2, v3], by simp [h4, h6, h8], .tup _ _ rfl fun j x hx => ?_⟩
          match j, hx with
          | 0, hx => cases hx; exact h5
          | 1, hx => cases hx; exact h7
          | 2, hx => cases hx; exact h9
  · simp at h3
/-- The marks' blocks are shut. -/
def shutM : List Nat → World → World
  | [], w => w
  | D :: r, w => shutM r (w.putObj D (.deferred none))
theorem kp_putObj {D : Nat} (w : World) (ob : Obj) : Kp (fun k => k = D) w (w.putObj D ob) := ⟨rfl, rfl, rfl, by simp, fun k _ hk => World.putObj_heap_other hk, Nat.le_refl _⟩
theorem Kp.wide {D D' : Nat → Prop} {w w' : World} (h : Kp D w w') (hD : ∀ k, D k → D' k) : Kp D' w w' := ⟨h.os, h.tape, h.output, h.size, fun k hk hn => h.block k hk fun e => hn (hD k e), h.drawn⟩
theorem HRel.shut1 {L : Nat → Prop} {N : Nat} {hp : Hp} {loc : Nat → Option Value} {w w' : World} {D : Nat} (h : HRel L N hp loc w) (hD : L D) (hk : Kp (fun k => k = D) w w') : HRel L N hp loc w' :=
  ⟨fun t o ho => by
    obtain ⟨h1, u, h2, h3⟩ := h.at' t o ho
    exact ⟨h1, u, h2, h3.mono (Nat.le_refl _) (hk.wide (D' := Dm L loc) fun k e => .inl (e ▸ hD)) (fun _ _ h => h) (fun _ _ _ h => h) (fun b hb => hk.block b (h3.blk_lt hb) fun e => h.notL t u b h2 hb (e ▸ hD))⟩,
  h.dead, h.apart, fun b hL => Nat.lt_of_lt_of_le (h.inL b hL) hk.size, h.notL⟩
theorem Rel.shut1 {X : Nat → Prop} {L : Lim} {s : ASt} {loc : Nat → Option Value} {a : Act} {w w' : World} {D : Nat} (h : Rel X L s loc a w) (hD : L D) (hk : Kp (fun k => k = D) w w') : Rel X L s loc a w' :=
  ⟨h.defers, h.size, fun t ht => (h.fr t ht).mono (Nat.le_refl _) (hk.wide fun k e => .inl (e ▸ hD)) (fun _ _ h => h) (fun _ _ _ h => h), h.hp.shut1 hD hk⟩
theorem Rel.shut {X : Nat → Prop} {L : Lim} {s : ASt} {loc : Nat → Option Value} {a : Act} : ∀ (new : List Nat) {w : World}, Rel X L s loc a w → (∀ D ∈ new, L D) → Rel X L s loc a (shutM new w)
  | [], _, h, _ => h
  | D :: r, _, h, hD => Rel.shut r (h.shut1 (hD D (List.mem_cons.2 (.inl rfl))) (kp_putObj _ _)) fun x hx => hD x (List.mem_cons.2 (.inr hx))
theorem shutM_kp : ∀ (new : List Nat) (w : World), Kp (fun k => k ∈ new) w (shutM new w)
  | [], w => Kp.refl _ _
  | D :: r, w => ((kp_putObj (D := D) w (.deferred none)).wide fun _ e => by rw [e]; exact List.mem_cons.2 (.inl rfl)).trans (shutM_kp r _) fun x hx => .inl (List.mem_cons.2 (.inr hx))
theorem leaves_marks {P : Program} {fn : Func} {tmps : Array Value} {R : Ending → World → Prop} : ∀ (new : List Nat) (w : World), new.Nodup → (∀ D ∈ new, w.heap[D]? = some (.deferred (some []))) →
    (∃ v, (results fn tmps).run P (shutM new w) = .ok v (shutM new w) ∧ R (.returned v) (shutM new w)) → LeavesInM Fence.wide 0 P fn tmps R (new.map mark) .returning w
  | [], w, _, _, h => h
  | D :: r, w, hn, hD, h => by
    obtain ⟨h1, h2⟩ := List.nodup_cons.1 hn
    refine ⟨by simp, .inl ⟨D, w.putObj D (.deferred none), rfl, run_takeDeferred (hD D (List.mem_cons.2 (.inl rfl))), leaves_marks r _ h2 (fun x hx => ?_) h⟩⟩
    rw [World.putObj_heap_other (k := x) (r := D) (fun e => h1 (by rw [← e]; exact hx))]
    exact hD x (List.mem_cons.2 (.inr hx))
/-- What stands behind a function's body. -/
def FinA (P : Program) (fn : Func) (r : AV) (e : Exit) (s : ASt) : Prop := (e = .normal ∨ e = .ret) ∧ ∃ s', Weak s s' ∧ ares P s' fn.results.toList = some r
theorem PureC.of {P : Program} {f : FuncId} {fn : Func} {c : Code} {xs : List AV} {r : AV} (hf : P.funcs[f]? = some fn) (hb : fn.body = some c) (n : Nat) (hn : xs.length + (fn.ntmps - xs.length) = n) (h3 : fn.results.size ≤ 3) (hr : r.okB 0 = true) (h : T Fence.wide P c (FinA P fn r) (startSt xs n)) : PureC P f xs r := fun L w vs hL hvs => by
  have hst : Rel All ⟨L, []⟩ (startSt xs n) noLoc { tmps := vs.toArray ++ Array.replicate (fn.ntmps - vs.toArray.size) undef, defers := [] } w := by
    refine ⟨rfl, by simp [startSt, hvs.1]; omega, fun t _ => ?_, ⟨fun t o ht => (by simp [startSt] at ht), fun _ _ => rfl, fun t t' u u' b h1 => (by cases h1), hL, fun t u b h1 => (by cases h1)⟩⟩
    unfold ASt.get startSt
    rw [frOf_lookup, if_pos (Nat.zero_le _), Nat.sub_zero]
    cases hx : xs[t]? with
    | none => exact .junk _
    | some x =>
      have hlt := (List.getElem?_eq_some_iff.1 hx).1
      have hv : vs[t]? = some (vs[t]'(by rw [hvs.1]; exact hlt)) := List.getElem?_eq_getElem _
      have h1 := hvs.2 t x _ hx hv
      have e : slot { tmps := vs.toArray ++ Array.replicate (fn.ntmps - vs.toArray.size) undef, defers := [] } t = vs[t]'(by rw [hvs.1]; exact hlt) := by
        unfold slot
        rw [Array.getD_eq_getD_getElem?, Array.getElem?_append, if_pos (by simp [hvs.1, hlt])]
        simp [hv]
      rw [e]
      exact h1.mono (Nat.le_refl _) (Kp.refl _ _) (fun k _ hk => hk.elim id (fun ⟨_, _, h, _⟩ => by cases h)) (fun _ _ h => absurd h (Nat.not_lt_zero _))
  refine callsIn_wide.1 (callsIn_of_wp_marks (n := 0) hf hb trivial (wpIn_mono (h ⟨L, []⟩ noLoc _ w hst) fun e a' w' ⟨s', loc', ⟨he, s2, hw, hares⟩, ⟨L1, hrel, hlx⟩, hx⟩ => ?_))
  obtain ⟨new, e1, hnd, hnew⟩ := hlx.ds
  rw [List.append_nil] at e1
  obtain ⟨l2, hrel2, hx2⟩ := hw L1 loc' a' w' hrel
  obtain ⟨v, hrun, hav⟩ := run_ares (hrel2.shut new fun D hD => (hnew D hD).2.1) fn hares h3
  have hbel : Blw w.heap.size w (shutM new w') := by
    have k1 : Kp (fun k => Dm (fun _ => False) noLoc k ∨ k ∈ new) w (shutM new w') := (hx.kp.wide fun k h => .inl h).trans ((shutM_kp new w').wide fun k h => .inr h) fun x hx' => .inl hx'
    exact ⟨⟨k1.os, k1.tape, k1.output, k1.size, fun k hk => k1.block k hk fun hd => hd.elim (fun hd => hd.elim id fun ⟨_, _, h, _⟩ => by cases h) (fun hd => by have := (hnew k hd).1; omega)⟩, k1.drawn⟩
  have hleave : LeavesInM Fence.wide 0 P fn a'.tmps (fun e w' => ∃ v', e = .returned v' ∧ Blw w.heap.size w w' ∧ AR 0 L noLoc w' r v') a'.defers .returning w' := by
    rw [hrel.defers, e1]
    exact leaves_marks new w' hnd (fun D hD => (hnew D hD).2.2) ⟨v, hrun, v, rfl, hbel, hav.bare hr (fun b hb => .inl (hlx.sub b hb))⟩
  rcases he with rfl | rfl
  · exact hleave
  · exact hleave
/-- As FinA: the result is a slice of the walk's own, of cells that are known. -/
def FinF (P : Program) (fn : Func) (n : Nat) (rows : List (List PV)) (e : Exit) (s : ASt) : Prop := (e = .normal ∨ e = .ret) ∧ ∃ s', Weak s s' ∧ ∃ t e0, ares P s' fn.results.toList = some (.own t) ∧ s'.hp.lookup t = some (.row e0 n rows) ∧ ∀ r ∈ rows, ∀ x ∈ r, ∃ v, x = .val v
theorem FinF.ret {P : Program} {fn : Func} {n : Nat} {rows : List (List PV)} {s s' : ASt} {e : Exit} (t e0 : Nat) (he : e = .normal ∨ e = .ret) {rs : Array ResultVar} (hrs : fn.results = rs) (hw : Weak s s') (h : ares P s' rs.toList = some (.own t)) (hlk : s'.hp.lookup t = some (.row e0 n rows)) (hsc : ∀ r ∈ rows, ∀ x ∈ r, ∃ v, x = .val v) : FinF P fn n rows e s := ⟨he, s', hw, t, e0, by rw [hrs]; exact h, hlk, hsc⟩
theorem PureF.of {P : Program} {f : FuncId} {fn : Func} {c : Code} {xs : List AV} {n0 : Nat} {rows : List (List PV)} (hf : P.funcs[f]? = some fn) (hb : fn.body = some c) (n : Nat) (hn : xs.length + (fn.ntmps - xs.length) = n) (h3 : fn.results.size ≤ 3) (h : T Fence.wide P c (FinF P fn n0 rows) (startSt xs n)) : PureF P f xs (.seq n0 rows) := fun L w vs hL hvs => by
  have hst : Rel All ⟨L, []⟩ (startSt xs n) noLoc { tmps := vs.toArray ++ Array.replicate (fn.ntmps - vs.toArray.size) undef, defers := [] } w := by
    refine ⟨rfl, by simp [startSt, hvs.1]; omega, fun t _ => ?_, ⟨fun t o ht => (by simp [startSt] at ht), fun _ _ => rfl, fun t t' u u' b h1 => (by cases h1), hL, fun t u b h1 => (by cases h1)⟩⟩
    unfold ASt.get startSt
    rw [frOf_lookup, if_pos (Nat.zero_le _), Nat.sub_zero]
    cases hx : xs[t]? with
    | none => exact .junk _
    | some x =>
      have hlt := (List.getElem?_eq_some_iff.1 hx).1
      have hv : vs[t]? = some (vs[t]'(by rw [hvs.1]; exact hlt)) := List.getElem?_eq_getElem _
      have h1 := hvs.2 t x _ hx hv
      have e : slot { tmps := vs.toArray ++ Array.replicate (fn.ntmps - vs.toArray.size) undef, defers := [] } t = vs[t]'(by rw [hvs.1]; exact hlt) := by
        unfold slot
        rw [Array.getD_eq_getD_getElem?, Array.getElem?_append, if_pos (by simp [hvs.1, hlt])]
        simp [hv]
      rw [e]
      exact h1.mono (Nat.le_refl _) (Kp.refl _ _) (fun k _ hk => hk.elim id (fun ⟨_, _, h, _⟩ => by cases h)) (fun _ _ h => absurd h (Nat.not_lt_zero _))
  refine callsIn_wide.1 (callsIn_of_wp_marks (n := 0) hf hb trivial (wpIn_mono (h ⟨L, []⟩ noLoc _ w hst) fun e a' w' ⟨s', loc', ⟨he, s2, hw, t, e0, hares, hlk, hsc⟩, ⟨L1, hrel, hlx⟩, hx⟩ => ?_))
  obtain ⟨new, e1, hnd, hnew⟩ := hlx.ds
  rw [List.append_nil] at e1
  obtain ⟨l2, hrel2, hx2⟩ := hw L1 loc' a' w' hrel
  obtain ⟨v, hrun, hav⟩ := run_ares (hrel2.shut new fun D hD => (hnew D hD).2.1) fn hares h3
  have hbel : Blw w.heap.size w (shutM new w') := by
    have k1 : Kp (fun k => Dm (fun _ => False) noLoc k ∨ k ∈ new) w (shutM new w') := (hx.kp.wide fun k h => .inl h).trans ((shutM_kp new w').wide fun k h => .inr h) fun x hx' => .inl hx'
    exact ⟨⟨k1.os, k1.tape, k1.output, k1.size, fun k hk => k1.block k hk fun hd => hd.elim (fun hd => hd.elim id fun ⟨_, _, h, _⟩ => by cases h) (fun hd => by have := (hnew k hd).1; omega)⟩, k1.drawn⟩
  have hrel3 := hrel2.shut new fun D hD => (hnew D hD).2.1
  obtain ⟨_, u, hu, hor⟩ := hrel3.hp.at' t _ hlk
  obtain rfl : v = u := by cases hav with | own _ _ _ _ h => exact h u hu
  have hfr : ∀ b, blkOf v = some b → ¬ b < w.heap.size := fun b hb hlt => by
    rcases hx2.fresh b (.inr ⟨t, v, hu, hb⟩) with h1 | h1
    · rcases hx.fresh b h1 with h2 | h2
      · exact h2.elim id fun ⟨_, _, h, _⟩ => by cases h
      · omega
    · have := hx.kp.size; omega
  have hpr : PR (fun b => b < w.heap.size) (shutM new w') (.seq n0 rows) v := by
    obtain ⟨flat, hown, hn0, hf0, h10⟩ := hor
    have hor' : OR s2.N (fun b => b < w.heap.size) l2 (shutM new w') v (.row e0 n0 rows) := ⟨flat, hown, hn0, fun k r j x hk hx' => by
      obtain ⟨z, g1, g2⟩ := hf0 k r j x hk hx'
      obtain ⟨y, rfl⟩ := hsc r (List.mem_of_getElem? hk) x (List.mem_of_getElem? hx')
      exact ⟨z, g1, by cases g2 with | val _ h => exact .val _ h⟩, h10⟩
    exact hor'.seq (fun b hb => hb) hfr
  have hleave : LeavesInM Fence.wide 0 P fn a'.tmps (fun e w' => ∃ v', e = .returned v' ∧ Blw w.heap.size w w' ∧ PR (fun b => b < w.heap.size) w' (.seq n0 rows) v') a'.defers .returning w' := by
    rw [hrel.defers, e1]
    exact leaves_marks new w' hnd (fun D hD => (hnew D hD).2.2) ⟨v, hrun, v, rfl, hbel, hpr⟩
  rcases he with rfl | rfl
  · exact hleave
  · exact hleave
end Go.Proofs.Ytbhkcejjehgfcaa
