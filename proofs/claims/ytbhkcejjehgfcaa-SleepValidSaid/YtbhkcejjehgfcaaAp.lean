/- Regions that draw their order, with stores among what is drawn: the rule. -/
import Derived.Test.YtbhkcejjehgfcaaAo
namespace Go.Proofs.Ytbhkcejjehgfcaa
open Go.RowKit Go.Sort
set_option linter.unusedSimpArgs false
set_option linter.unusedVariables false

abbrev Fl := List (Option (Nat × Nat))
def edgeB (ops : Array Oper) (i j : Nat) : Bool := match ops[i]? with
  | some o => o.after.any (fun e => Region.binds .any e && e.on == j)
  | none => false
def rkf (fl : Fl) (i : Nat) : Nat := (fl.take i).countP (·.isNone)
def wrB (fl : Fl) (i : Nat) : Bool := match fl[i]? with
  | some none => true
  | _ => false
/-- An edge, or two. -/
def edge2B (l : Array Oper) (i k : Nat) : Bool := edgeB l i k || (List.range l.size).any fun j => edgeB l i j && edgeB l j k
def commAt (l : List Oper) (fl : Fl) (size i : Nat) (o : Oper) (f : Option (Nat × Nat)) : Bool :=
  (match o.dst with | some d => decide (d < size) | none => f.isNone) &&
  (o.after.all (fun e => !Region.binds .any e || decide (e.on < i)) &&
  ((o.looksAt l.toArray).all (fun t => decide (t < size) && (List.range l.length).all fun j => ((l[j]?).bind (·.dst)) != some t || edgeB l.toArray i j) &&
  ((List.range l.length).all (fun j => i == j || o.dst.isNone || ((l[j]?).bind (·.dst)) != o.dst) &&
  (match f with
    | some (lo, hi) => (decide (lo = 0) || (List.range l.length).any fun k => wrB fl k && (rkf fl k + 1 == lo && edgeB l.toArray i k)) && (decide (rkf fl fl.length ≤ hi) || (List.range l.length).any fun k => wrB fl k && (rkf fl k == hi && edgeB l.toArray k i))
    | none => o.guard.isNone && (decide (rkf fl i = 0) || (List.range l.length).any fun k => wrB fl k && (rkf fl k + 1 == rkf fl i && edge2B l.toArray i k))))))
def commB (l : List Oper) (fl : Fl) (size : Nat) : Bool :=
  decide (fl.length = l.length) && ((decide (rkf fl fl.length = 0) || (List.range fl.length).any fun i => wrB fl i && rkf fl i + 1 == rkf fl fl.length) &&
  (List.range l.length).all fun i => match l[i]?, fl[i]? with
    | some o, some f => commAt l fl size i o f
    | _, _ => false)
theorem edgeB_spec {ops : Array Oper} {i j : Nat} (h : edgeB ops i j = true) : ∃ o e, ops[i]? = some o ∧ e ∈ o.after ∧ Region.binds .any e = true ∧ e.on = j := by
  unfold edgeB at h
  split at h
  · rename_i o ho
    obtain ⟨k, hk, he⟩ := Array.any_eq_true.1 h
    simp only [Bool.and_eq_true, beq_iff_eq] at he
    exact ⟨o, _, ho, Array.getElem_mem hk, he.1, he.2⟩
  · cases h
theorem wrB_spec {fl : Fl} {i : Nat} (h : wrB fl i = true) : fl[i]? = some none := by
  unfold wrB at h
  split at h
  · assumption
  · cases h
theorem commB_at {l : List Oper} {fl : Fl} {size i : Nat} {o : Oper} (h : commB l fl size = true) (ho : l[i]? = some o) : ∃ f, fl[i]? = some f ∧ commAt l fl size i o f = true := by
  simp only [commB, Bool.and_eq_true, List.all_eq_true, List.mem_range] at h
  have := h.2.2 i (List.getElem?_eq_some_iff.1 ho).1
  rw [ho] at this
  cases hf : fl[i]? with
  | none => simp [hf] at this
  | some f => simp [hf] at this; exact ⟨f, rfl, this⟩
theorem rkf_succ {fl : Fl} {i : Nat} (h : fl[i]? = some none) : rkf fl (i + 1) = rkf fl i + 1 := by
  unfold rkf
  rw [List.take_add_one, h, List.countP_append]; simp
theorem rkf_mono (fl : Fl) {i j : Nat} (h : i ≤ j) : rkf fl i ≤ rkf fl j := by
  unfold rkf
  exact List.Sublist.countP_le (List.take_sublist_take_left h)
theorem rkf_inj {fl : Fl} {i j : Nat} (hi : fl[i]? = some none) (hj : fl[j]? = some none) (h : rkf fl i = rkf fl j) : i = j := by
  rcases Nat.lt_trichotomy i j with h1 | h1 | h1
  · have := rkf_mono fl (show i + 1 ≤ j from h1); rw [rkf_succ hi] at this; omega
  · exact h1
  · have := rkf_mono fl (show j + 1 ≤ i from h1); rw [rkf_succ hj] at this; omega
theorem rkf_lt {fl : Fl} {i : Nat} (hi : fl[i]? = some none) : rkf fl i < rkf fl fl.length := by
  have := rkf_mono fl (show i + 1 ≤ fl.length from (List.getElem?_eq_some_iff.1 hi).1)
  rw [rkf_succ hi] at this; omega
theorem wct_zip : ∀ {l : List Oper} {fl : Fl} (i : Nat), fl.length = l.length → wct ((l.zip fl).take i) = rkf fl i
  | [], [], i, _ => by simp [wct, rkf]
  | [], _ :: _, i, h => by simp at h
  | _ :: _, [], i, h => by simp at h
  | o :: l, f :: fl, 0, h => by simp [wct, rkf]
  | o :: l, f :: fl, i + 1, h => by
    have := wct_zip (l := l) (fl := fl) i (by simpa using h)
    simp only [wct, rkf] at this ⊢
    simp [List.countP_cons, this]
theorem zip_at {l : List Oper} {fl : Fl} {i : Nat} {o : Oper} {f : Option (Nat × Nat)} (h : (l.zip fl)[i]? = some (o, f)) : l[i]? = some o ∧ fl[i]? = some f := by
  rw [List.getElem?_zip_eq_some] at h; exact h
theorem fit_of {l : List Oper} {fl : Fl} {size : Nat} (h : commB l fl size = true) : Fit l.toArray (l.zip fl) := by
  refine ⟨fun i j a b ha hb hij t ht e => ?_, fun i j a b d ha hb hij hd e => ?_, fun a ha hs => ?_⟩
  · obtain ⟨o, f⟩ := a
    obtain ⟨o', f'⟩ := b
    obtain ⟨h1, h2⟩ := zip_at ha
    obtain ⟨h3, h4⟩ := zip_at hb
    obtain ⟨f2, hf2, hc⟩ := commB_at h h1
    simp only [commAt, Bool.and_eq_true, List.all_eq_true, List.mem_range] at hc
    have := (hc.2.2.1 t ht).2 j (List.getElem?_eq_some_iff.1 h3).1
    simp only [Bool.or_eq_true, h3] at this
    rcases this with h5 | h5
    · simp at h5; exact h5 e
    · obtain ⟨o2, ed, e1, e2, e3, e4⟩ := edgeB_spec h5
      have e1' : l[i]? = some o2 := by simpa using e1
      rw [h1] at e1'; cases e1'
      have := Array.all_eq_true_iff_forall_mem.1 hc.2.1 ed e2
      simp only [e3, Bool.not_true, Bool.false_or, decide_eq_true_eq] at this
      omega
  · obtain ⟨o, f⟩ := a
    obtain ⟨o', f'⟩ := b
    obtain ⟨h1, h2⟩ := zip_at ha
    obtain ⟨h3, h4⟩ := zip_at hb
    obtain ⟨f2, hf2, hc⟩ := commB_at h h1
    simp only [commAt, Bool.and_eq_true, List.all_eq_true, List.mem_range] at hc
    have := hc.2.2.2.1 j (List.getElem?_eq_some_iff.1 h3).1
    simp only at hd e
    simp [h3, hd, e] at this
    omega
  · obtain ⟨i, hi⟩ := List.mem_iff_getElem?.1 ha
    obtain ⟨o, f⟩ := a
    obtain ⟨h1, h2⟩ := zip_at hi
    obtain ⟨f2, hf2, hc⟩ := commB_at h h1
    rw [h2] at hf2; cases hf2
    simp only [commAt, Bool.and_eq_true] at hc
    have h3 := hc.1
    split at h3
    · rename_i d hd; exact ⟨d, hd⟩
    · cases f with
      | none => cases hs
      | some f => cases h3
/-- The slots that are as at the end. -/
def known (l : List Oper) (listed : Array Bool) (t : Nat) : Bool := (List.range l.length).all fun i => ((l[i]?).bind (·.dst)) != some t || listed.getD i false
def frL (n : Nat) (g : Nat → AV) : List (Nat × AV) := (List.range n).map fun t => (t, g t)
theorem frL_lookup (n : Nat) (g : Nat → AV) (t : Nat) : (frL n g).lookup t = if t < n then some (g t) else none := by
  have : ∀ l : List Nat, (l.map fun t => (t, g t)).lookup t = if t ∈ l then some (g t) else none := by
    intro l
    induction l with
    | nil => rfl
    | cons k r ih =>
      by_cases e : t = k
      · subst e; simp
      · rw [List.map_cons, lookup_cons_ne e, ih]; simp [e]
  rw [frL, this]; simp
theorem lookup_app {α : Type} (l r : List (Nat × α)) (t : Nat) : (l ++ r).lookup t = (l.lookup t).or (r.lookup t) := by
  induction l with
  | nil => rfl
  | cons p l ih =>
    obtain ⟨k, x⟩ := p
    by_cases e : t = k
    · subst e; rw [List.cons_append, lookup_cons_eq, lookup_cons_eq]; rfl
    · rw [List.cons_append, lookup_cons_ne e, lookup_cons_ne e, ih]
def midS (l : List Oper) (fin : ASt) (listed : Array Bool) (h : Hp × Nat) : ASt := ⟨frL fin.n (fun t => if known l listed t = true then fin.get t else .junk) ++ fin.fr, h.1, fin.n, h.2⟩
theorem midS_get (l : List Oper) (fin : ASt) (listed : Array Bool) (h : Hp × Nat) (t : Nat) : (midS l fin listed h).get t = if t < fin.n ∧ known l listed t = false then .junk else fin.get t := by
  show ((frL _ _ ++ fin.fr).lookup t).getD .junk = _
  rw [lookup_app, frL_lookup]
  by_cases h1 : t < fin.n
  · by_cases h2 : known l listed t = true <;> simp [h1, h2]
  · simp [h1]; rfl
theorem known_set {l : List Oper} {listed : Array Bool} {i t : Nat} {o : Oper} (ho : l[i]? = some o) (hi : i < listed.size) (h : known l (listed.setIfInBounds i true) t = true) (hd : o.dst ≠ some t) : known l listed t = true := by
  simp only [known, List.all_eq_true, List.mem_range, Bool.or_eq_true] at h ⊢
  intro j hj
  rcases h j hj with h1 | h1
  · exact .inl h1
  · by_cases e : i = j
    · subst e; left; simpa [ho] using hd
    · rw [getD_set_ne false e] at h1; exact .inr h1

theorem T.comm {F : Fence} [FOk F] {P : Program} {Q : Exit → ASt → Prop} {s : ASt} {id : Nat} {l : List Oper} (fl : Fl) (hm : P.follows .mixedOrders = true) (hB : (noDefB l && commB l fl s.n) = true) (h : ∀ K : ASt → Prop, (∀ s, Q .normal s → K s) → WC P (l.map (·.dst)) K (l.zip fl) [] [] s) : T F P (.region id l.toArray true) Q s := fun L loc a w hr => by
  obtain ⟨hnd, hB⟩ := Bool.and_eq_true_iff.1 hB
  refine wpIn_mono (wpIn_region_any hm (any_in NQ.out (noDefB_spec hnd) _ _ _ _ ?_)) fun _ _ _ k => NQ.post k
  change wpAny P .any l.toArray (TPost L loc w (NQ Q)) _ _ a w.drew
  have hfit := fit_of hB
  have hlen : fl.length = l.length := by simp only [commB, Bool.and_eq_true, decide_eq_true_eq] at hB; exact hB.1
  have hsz : l.toArray.size = l.length := by simp
  have hgd : ∀ x ∈ l.zip fl, x.2 = none → x.1.guard = none := fun x hx hn => by
    obtain ⟨i, hi⟩ := List.mem_iff_getElem?.1 hx
    obtain ⟨o, f⟩ := x
    obtain ⟨h1, h2⟩ := zip_at hi
    obtain ⟨f2, hf2, hc⟩ := commB_at hB h1
    rw [h2] at hf2; cases hf2
    simp only at hn; subst hn
    simp only [commAt, Bool.and_eq_true] at hc
    simpa using hc.2.2.2.2.1
  obtain ⟨fin, hps, hq, ho⟩ := WC.out (ops := l.toArray) (l.zip fl) [] [] s hfit (by simpa using h _ fun _ h => h) (fun p hp => (by cases hp)) hgd
  obtain ⟨tl, hmem, htl⟩ := ho.mem
  simp only [List.nil_append] at hmem
  have hm' : wct (l.zip fl) = rkf fl fl.length := by
    have := wct_zip (l := l) (fl := fl) fl.length hlen
    rw [List.take_of_length_le (by simp; omega)] at this
    exact this
  have hpl : hps.length = rkf fl fl.length + 1 := by rw [hmem]; simp [htl, hm']
  have hn : fin.n = s.n := ho.n
  -- what a ready operation knows
  have ready : ∀ {listed : Array Bool} {i k : Nat}, i ∈ Region.ready .any l.toArray listed → edgeB l.toArray i k = true → listed.getD k false = true := by
    intro listed i k hi he
    obtain ⟨o, e, h1, h2, h3, h4⟩ := edgeB_spec he
    obtain ⟨_, o', ho', hall⟩ := mem_ready.1 hi
    rw [h1] at ho'; cases ho'
    rw [← h4]; exact hall e h2 h3
  let I : Array Bool → Act → World → Prop := fun listed a' w' => ∃ (j : Nat) (hj : Hp × Nat) (loc' : Nat → Option Value), listed.size = l.length ∧ (∀ i k, listed.getD i false = true → edgeB l.toArray i k = true → listed.getD k false = true) ∧ j ≤ rkf fl fl.length ∧
    (∀ i, fl[i]? = some none → (listed.getD i false = true ↔ rkf fl i < j)) ∧ hps[j]? = some hj ∧ Rel All L (midS l fin listed hj) loc' a' w' ∧ Ext loc w loc' w'
  have looks : ∀ {listed : Array Bool} {i : Nat} {o : Oper} {hj : Hp × Nat}, l[i]? = some o → i ∈ Region.ready .any l.toArray listed → ∀ t ∈ o.looksAt l.toArray, (midS l fin listed hj).get t = fin.get t := by
    intro listed i o hj hio hi t ht
    obtain ⟨f, hf, hc⟩ := commB_at hB hio
    simp only [commAt, Bool.and_eq_true, List.all_eq_true, List.mem_range] at hc
    obtain ⟨h1, h2⟩ := hc.2.2.1 t ht
    have hk : known l listed t = true := by
      simp only [known, List.all_eq_true, List.mem_range, Bool.or_eq_true]
      intro k hk
      have := h2 k hk
      simp only [Bool.or_eq_true] at this
      exact this.imp (fun h => h) (fun he => ready hi he)
    rw [midS_get, if_neg (by rw [hk]; simp)]
  have dsts : ∀ {i : Nat} {o : Oper} {d : Nat}, l[i]? = some o → o.dst = some d → d < s.n := by
    intro i o d hio hd
    obtain ⟨f, hf, hc⟩ := commB_at hB hio
    simp only [commAt, Bool.and_eq_true] at hc
    have := hc.1
    rw [hd] at this
    simpa using this
  -- listed goes on being closed
  have closed : ∀ {listed : Array Bool} {i : Nat}, listed.size = l.length → i < l.length → (∀ i k, listed.getD i false = true → edgeB l.toArray i k = true → listed.getD k false = true) → i ∈ Region.ready .any l.toArray listed → ∀ x k, (listed.setIfInBounds i true).getD x false = true → edgeB l.toArray x k = true → (listed.setIfInBounds i true).getD k false = true := by
    intro listed i hs hi hc hrd x k hx he
    by_cases e : i = x
    · subst e; exact getD_set_true (ready hrd he)
    · rw [getD_set_ne false e] at hx; exact getD_set_true (hc x k hx he)
  -- the frame after an operation
  have frame : ∀ {listed : Array Bool} {i : Nat} {o : Oper} {hj : Hp × Nat} {av : AV}, l[i]? = some o → i < listed.size → av = dav o fin → ∀ t, (midS l fin (listed.setIfInBounds i true) hj).get t = .junk ∨ (midS l fin (listed.setIfInBounds i true) hj).get t = ((midS l fin listed hj).put o.dst av).get t := by
    intro listed i o hj av hio hi hav t
    rw [midS_get]
    split
    · left; rfl
    · rename_i hk
      right
      have old : o.dst ≠ some t → (midS l fin listed hj).get t = fin.get t := fun hd => by
        rw [midS_get, if_neg]
        rintro ⟨h1, h2⟩
        refine hk ⟨h1, ?_⟩
        cases h3 : known l (listed.setIfInBounds i true) t with
        | false => rfl
        | true => rw [known_set hio hi h3 hd] at h2; cases h2
      cases hd : o.dst with
      | none => exact (old (by rw [hd]; intro e; cases e)).symm
      | some d =>
        rw [ASt.get_put]
        split
        · rename_i e; rw [e, hav]; simp [dav, hd]
        · rename_i e
          exact (old (by rw [hd]; intro e'; cases e'; exact e rfl)).symm
  have toMid : ∀ {listed : Array Bool} {i : Nat} {o : Oper} {hj : Hp × Nat} {av : AV} {loc' : Nat → Option Value} {a' : Act} {w' : World}, l[i]? = some o → i < listed.size → av = dav o fin → Rel All L ((midS l fin listed hj).put o.dst av) loc' a' w' → Rel All L (midS l fin (listed.setIfInBounds i true) hj) loc' a' w' := by
    intro listed i o hj av loc' a' w' hio hi hav hrel
    have hput : ∀ (s : ASt) (d : Option Nat) (x : AV), (s.put d x).hp = s.hp ∧ (s.put d x).n = s.n ∧ (s.put d x).N = s.N := fun s d x => by cases d <;> exact ⟨rfl, rfl, rfl⟩
    obtain ⟨p1, p2, p3⟩ := hput (midS l fin listed hj) o.dst av
    refine ⟨hrel.defers, hrel.size.trans p2, fun t ht => ?_, by have := hrel.hp; rw [p1, p3] at this; exact this⟩
    have h1 := hrel.fr t trivial
    rw [p3] at h1
    rcases frame (hj := hj) hio hi hav t with e | e
    · rw [e]; exact .junk _
    · rw [e]; exact h1
  refine (fun start step done => wpAny_inv I step done _ _ _ _ (by simp [left]) start) ?_ ?_ ?_
  · -- the start
    refine ⟨0, (s.hp, s.N), loc, by simp, fun i k hi => (by rw [getD_replicate_false] at hi; cases hi), Nat.zero_le _, fun i _ => ⟨fun hi => (by rw [getD_replicate_false] at hi; cases hi), fun hi => absurd hi (Nat.not_lt_zero _)⟩, by rw [hmem]; rfl, ?_, .of_below (Blw.refl _ _).drew⟩
    have hrd := hr.below (Blw.refl _ _).drew
    refine ⟨hrd.defers, hrd.size.trans hn.symm, fun t _ => ?_, hrd.hp⟩
    rw [midS_get]
    split
    · exact .junk _
    · rename_i hk
      rw [ho.out t (fun e he hd => ?_)]
      · exact hrd.fr t trivial
      · obtain ⟨i, hi⟩ := List.mem_iff_getElem?.1 he
        obtain ⟨o, f⟩ := e
        obtain ⟨h1, h2⟩ := zip_at hi
        simp only at hd
        refine hk ⟨by rw [hn]; exact dsts h1 hd, ?_⟩
        cases h3 : known l (Array.replicate l.toArray.size false) t with
        | false => rfl
        | true =>
          simp only [known, List.all_eq_true, List.mem_range, Bool.or_eq_true] at h3
          rcases h3 i (List.getElem?_eq_some_iff.1 h1).1 with h3 | h3
          · simp [h1, hd] at h3
          · rw [getD_replicate_false] at h3; cases h3
  · -- a step
    intro listed a' w' i ⟨j, hj, loc', hsl, hcl, hjm, hwr, hhj, hrel, hext⟩ hrdy
    obtain ⟨hun, o, hio', hall⟩ := mem_ready.1 hrdy
    have hio : l[i]? = some o := by simpa using hio'
    have hil : i < l.length := (List.getElem?_eq_some_iff.1 hio).1
    have hun' : ¬ listed.getD i false = true := fun e => by
      have hlt : i < listed.size := by omega
      simp [hlt] at e hun; rw [e] at hun; cases hun
    obtain ⟨f, hf, hc⟩ := commB_at hB hio
    have hzip : (l.zip fl)[i]? = some (o, f) := by rw [List.getElem?_zip_eq_some]; exact ⟨hio, hf⟩
    simp only [commAt, Bool.and_eq_true, List.all_eq_true] at hc
    obtain ⟨_, _, _, _, hc5⟩ := hc
    have hlk := looks (hj := hj) hio hrdy
    unfold wpOp
    rw [hio']
    cases f with
    | some lh =>
      obtain ⟨lo, hi⟩ := lh
      simp only [Bool.and_eq_true, Bool.or_eq_true, decide_eq_true_eq, List.any_eq_true, List.mem_range, beq_iff_eq] at hc5
      obtain ⟨c1, c2⟩ := hc5
      have hlo : lo ≤ j := by
        rcases c1 with c1 | ⟨k, _, k1, k2, k3⟩
        · omega
        · have := (hwr k (wrB_spec k1)).1 (ready hrdy k3)
          omega
      have hhi : j ≤ hi := by
        rcases c2 with c2 | ⟨k, _, k1, k2, k3⟩
        · omega
        · refine Nat.le_of_not_lt fun hlt => hun' (hcl k i ((hwr k (wrB_spec k1)).2 (by omega)) k3)
      obtain ⟨d, hd⟩ := hfit.dst _ (List.mem_of_getElem? hzip) rfl
      simp only at hd
      have hgok := ho.val i o lo hi hzip d hd j hj hlo hhi hhj
      have hrl : Rel (Go.Proofs.Ytbhkcejjehgfcaa.looks l.toArray o) L ⟨fin.fr, hj.1, fin.n, hj.2⟩ loc' a' w' := ⟨hrel.defers, hrel.size, fun t ht => by have := hrel.fr t trivial; rw [hlk t ht] at this; exact this, hrel.hp⟩
      have after : ∀ {v : Value} {w2 : World}, Blw w'.heap.size w' w2 → AR hj.2 (Dm L loc') loc' w2 (fin.get d) v → I (listed.setIfInBounds i true) (a'.put o.dst v) w2 := by
        intro v w2 hb hav
        refine ⟨j, hj, loc', by simpa using hsl, closed hsl hil hcl hrdy, hjm, fun k hk => ?_, hhj, ?_, hext.trans (.of_below hb)⟩
        · have hne : i ≠ k := fun e => by subst e; rw [hf] at hk; cases hk
          rw [getD_set_ne false hne]; exact hwr k hk
        · refine toMid (av := fin.get d) hio (by omega) (by simp [dav, hd]) ?_
          exact (hrel.below hb).put' (fun t ht => by show t < fin.n; rw [hn]; exact dsts hio ht) hav
      unfold GOK at hgok
      split at hgok
      · rename_i hg
        have hw : Region.wanted o (yielded l.toArray a'.tmps) = true := by simp [Region.wanted, hg]
        simp only [hw, if_true]
        refine .inl ?_
        unfold Oper.wp
        rcases hgok L loc' a' w' hrl with ⟨v, w2, h1, h2, h3⟩ | ⟨g, args, h1, h2⟩
        · rw [h1]; exact after h2 h3
        · rw [h1]
          refine h2.mono fun e w2 ⟨v, he, hb, hav⟩ => ?_
          subst he
          exact after hb hav
      · rename_i g want hg
        obtain ⟨t, b, ht, hb, h3, h4⟩ := hgok
        have htm : t ∈ o.looksAt l.toArray := List.mem_append.2 (.inr (by rw [hg]; simp only [ht]; simp))
        have hbt := guard_slot hrl (t := t) (b := b) htm hb
        have hwt : Region.wanted o (yielded l.toArray a'.tmps) = (b == want) := by
          simp only [Region.wanted, hg, yielded, ht, hbt, Option.bind_some]
          cases b <;> cases want <;> rfl
        by_cases e : b = want
        · have hw : Region.wanted o (yielded l.toArray a'.tmps) = true := by rw [hwt]; simpa using e
          simp only [hw, if_true]
          refine .inl ?_
          unfold Oper.wp
          rcases h3 e L loc' a' w' hrl with ⟨v, w2, h1, h2, h3⟩ | ⟨g, args, h1, h2⟩
          · rw [h1]; exact after h2 h3
          · rw [h1]
            refine h2.mono fun e w2 ⟨v, he, hb, hav⟩ => ?_
            subst he
            exact after hb hav
        · have hw : Region.wanted o (yielded l.toArray a'.tmps) = false := by rw [hwt]; simpa using e
          simp only [hw, Bool.false_eq_true, if_false]
          exact after (Blw.refl _ _) (by rw [h4 e]; exact .junk _)
    | none =>
      simp only [Bool.and_eq_true, Bool.or_eq_true, decide_eq_true_eq, List.any_eq_true, List.mem_range, beq_iff_eq] at hc5
      obtain ⟨c1, c2⟩ := hc5
      have hge : ¬ rkf fl i < j := fun e => hun' ((hwr i hf).2 e)
      have hj' : rkf fl i = j := by
        rcases c2 with c2 | ⟨k, _, k1, k2, k3⟩
        · omega
        · have hk3 : listed.getD k false = true := by
            simp only [edge2B, Bool.or_eq_true, List.any_eq_true, Bool.and_eq_true] at k3
            rcases k3 with k3 | ⟨j', _, j1, j2⟩
            · exact ready hrdy k3
            · exact hcl j' k (ready hrdy j1) j2
          have := (hwr k (wrB_spec k1)).1 hk3
          omega
      obtain ⟨h1, h2, e1, e2, hwe⟩ := ho.wr i o hzip
      rw [wct_zip i hlen] at e1 e2
      simp only [List.length_nil, Nat.zero_add, hj'] at e1 e2
      rw [hhj] at e1; cases e1
      have hg : o.guard = none := by simpa using c1
      have hw : Region.wanted o (yielded l.toArray a'.tmps) = true := by simp [Region.wanted, hg]
      simp only [hw, if_true]
      refine .inl ?_
      have := hwe (midS l fin listed hj) rfl rfl rfl hlk (fun t ht => by show t < fin.n; rw [hn]; exact dsts hio ht) L loc' a' w' hrel
      refine oper_mono (fun a2 w2 ⟨loc2, hr2, hx2⟩ => ?_) (fun _ _ _ h => h.elim) this
      refine ⟨j + 1, h2, loc2, by simpa using hsl, closed hsl hil hcl hrdy, by have := rkf_lt hf; omega, fun k hk => ?_, e2, ?_, hext.trans hx2⟩
      · by_cases e : i = k
        · subst e
          have hlt : i < listed.size := by omega
          simp [hlt]; omega
        · rw [getD_set_ne false e, hwr k hk]
          have : rkf fl k ≠ j := fun e' => e (rkf_inj hf hk (hj'.trans e'.symm))
          omega
      · exact toMid (av := dav o fin) hio (by omega) rfl hr2
  · -- the end
    intro listed a' w' ⟨j, hj, loc', hsl, hcl, hjm, hwr, hhj, hrel, hext⟩ hnil
    have all : ∀ i, i < l.length → listed.getD i false = true := by
      intro i
      induction i using Nat.strongRecOn with
      | _ i ih =>
        intro hil
        refine Classical.byContradiction fun hno => ?_
        have hio : l[i]? = some l[i] := List.getElem?_eq_getElem hil
        obtain ⟨f, hf, hc⟩ := commB_at hB hio
        simp only [commAt, Bool.and_eq_true] at hc
        have hmr : i ∈ Region.ready .any l.toArray listed := by
          refine mem_ready.2 ⟨?_, l[i], by simp, fun e he hb => ?_⟩
          · have hlt : i < listed.size := by omega
            simp [hlt] at hno ⊢; exact hno
          · have := Array.all_eq_true_iff_forall_mem.1 hc.2.1 e he
            simp only [hb, Bool.not_true, Bool.false_or, decide_eq_true_eq] at this
            exact ih e.on this (by omega)
        rw [hnil] at hmr; cases hmr
    have hjl : j = rkf fl fl.length := by
      simp only [commB, Bool.and_eq_true, Bool.or_eq_true, decide_eq_true_eq, List.any_eq_true, List.mem_range, beq_iff_eq] at hB
      rcases hB.2.1 with h0 | ⟨i, h1, h2, h3⟩
      · omega
      · have := (hwr i (wrB_spec h2)).1 (all i (by omega))
        omega
    have hlast : hj = (fin.hp, fin.N) := by
      have h1 := ho.last
      rw [List.getLast?_eq_getElem?, hpl] at h1
      rw [hjl] at hhj
      simp only [Nat.add_sub_cancel] at h1
      rw [h1] at hhj
      exact (Option.some.inj hhj).symm
    subst hlast
    refine .of (s' := fin) (loc' := loc') ⟨rfl, hq⟩ ⟨hrel.defers, hrel.size, fun t _ => ?_, hrel.hp⟩ hext
    have hk : known l listed t = true := by
      simp only [known, List.all_eq_true, List.mem_range, Bool.or_eq_true]
      exact fun i hi => .inr (all i hi)
    have h1 := hrel.fr t trivial
    rw [midS_get, if_neg (by rw [hk]; simp)] at h1
    exact h1
/-- One value of such a region, as a walk steps. -/
def WCg (P : Program) (ds : List (Option Nat)) (N : List Pend → ASt → Prop) (o : Oper) (lo hi : Nat) (pend : List Pend) (prev : List (Hp × Nat)) (s : ASt) : Prop := match o.guard with
    | none => WOv P o s fun s' => WCv P N pend prev o lo hi s s'
    | some (g, want) => match ds[g]? with
      | some (some t) => match s.get t with
        | .p (.val (.bool b)) => WG b want (WOv P o (s.put (some t) (.bool want)) fun s' => WCv P N pend prev o lo hi (s.put (some t) (.bool want)) s') (N pend ((s.put (some t) (.bool (!want))).put o.dst .junk))
        | _ => False
      | _ => False
theorem WC.stepV {P : Program} {ds : List (Option Nat)} {Q : ASt → Prop} {o : Oper} {lo hi : Nat} {r : El} {pend : List Pend} {prev : List (Hp × Nat)} {s : ASt} (h : ∀ K : List Pend → ASt → Prop, (∀ pd s, WC P ds Q r pd prev s → K pd s) → WCg P ds K o lo hi pend prev s) : WC P ds Q ((o, some (lo, hi)) :: r) pend prev s := h _ fun _ _ h => h
theorem WC.stepW {P : Program} {ds : List (Option Nat)} {Q : ASt → Prop} {o : Oper} {r : El} {pend : List Pend} {prev : List (Hp × Nat)} {s : ASt} (h : ∀ K : ASt → Prop, (∀ s', WC P ds Q r pend (prev ++ [(s.hp, s.N)]) s' → K s') → WOw P o s fun s' => allP pend (fun p => prev.length < p.2.1 → Chk P p.1 { s with hp := s'.hp, N := s'.N } p.2.2) ∧ K s') : WC P ds Q ((o, none) :: r) pend prev s := h _ fun _ h => h
theorem WC.fin {P : Program} {ds : List (Option Nat)} {Q : ASt → Prop} {pend : List Pend} {prev : List (Hp × Nat)} {s : ASt} (h : Q s) : WC P ds Q [] pend prev s := h
/-- How far each operation may float, read off the region. -/
def flOf (l : List Oper) : Fl :=
  let w : Fl := l.map fun o => match o.dst, o.op with
    | none, _ => none
    | _, .alloc _ => none
    | _, .box _ _ => none
    | _, .makeSlice _ _ _ => none
    | _, .buildSlice _ 0 _ => none
    | _, .call { callee := .builtin .append, .. } => none
    | _, _ => some (0, 0)
  (List.range l.length).map fun i => match w[i]? with
    | some none => none
    | _ => some (((List.range l.length).filter fun k => wrB w k && edgeB l.toArray i k).foldl (fun m k => max m (rkf w k + 1)) 0, ((List.range l.length).filter fun k => wrB w k && edgeB l.toArray k i).foldl (fun m k => min m (rkf w k)) (rkf w w.length))
theorem callArmO {P : Program} {s : ASt} {f : FuncId} {xs : List AV} {K : AV → Prop} {r : AV} {B : Prop} (h : CallV P s f xs r) (k : K r) : (∃ r, CallV P s f xs r ∧ K r) ∨ B := .inl ⟨r, h, k⟩
theorem callArmM {P : Program} {s : ASt} {f : FuncId} {xs : List AV} {d : Option Nat} {K : ASt → Prop} {A : Prop} (n : Nat) (hp : Hp) (Q : Hp → AV → Prop) (ks : List Nat) (h1 : Ent P f) (h2 : MemC P f n hp xs Q) (h3 : Passes s n hp) (h4 : (xs.all (·.okB n)) = true) (h5 : ∀ hp' r, Q hp' r → (∀ t ∈ ks, t < n → Kept hp hp' t) ∧ K ((s.callM n ks hp').put d r)) : A ∨ CallX P s f xs d K := .inr (.inl ⟨n, hp, Q, ks, h1, h2, h3, h4, h5⟩)
theorem callArmN {P : Program} {s : ASt} {f : FuncId} {xs : List AV} {d : Option Nat} {K : ASt → Prop} {A : Prop} (o : AO) (h1 : Ent P f) (h2 : ∀ L loc w vs, HRel L s.N s.hp loc w → ARs s.N (Dm L loc) loc w xs vs →
  Calls P f vs.toArray w fun e w' => ∃ u, e = .returned u ∧ Blw w.heap.size w w' ∧ (∀ b, blkOf u = some b → w.heap.size ≤ b) ∧ u.oneCell' = true ∧ OR (s.N + 1) (Dm L (setLoc loc s.N u)) (setLoc loc s.N u) w' u o) (h3 : K ((s.add o).put d (.own s.N))) : A ∨ CallX P s f xs d K := .inr (.inr ⟨o, h1, h2, h3⟩)
theorem callArm {P : Program} {s : ASt} {f : FuncId} {xs : List AV} {K : AV → Prop} {r : AV} (h : CallV P s f xs r) (k : K r) : ∃ r, CallV P s f xs r ∧ K r := ⟨r, h, k⟩
end Go.Proofs.Ytbhkcejjehgfcaa
