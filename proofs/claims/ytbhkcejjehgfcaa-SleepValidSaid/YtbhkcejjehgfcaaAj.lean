/- Regions that draw their order: their heads yield values and turn nothing, in whatever order; then comes the tail. -/
import Derived.Test.YtbhkcejjehgfcaaAi
import Derived.Test.YtbhkcejjehgfcaaRd
namespace Go.Proofs.Ytbhkcejjehgfcaa
open Go.RowKit Go.Sort
set_option linter.unusedVariables false

/-- Heads, one by one, in the order of the text. -/
inductive Tr (P : Program) (ops : Array Oper) : List Oper → ASt → ASt → Prop where
  | nil (s : ASt) : Tr P ops [] s s
  | val {o : Oper} {rest : List Oper} {s s' : ASt} {av : AV} {d : Nat} (hg : o.guard = none) (h : OpVal P ops o s av) (hd : o.dst = some d) (hn : d < s.n) (k : Tr P ops rest (s.put (some d) av) s') : Tr P ops (o :: rest) s s'
  | cond {o : Oper} {rest : List Oper} {s s' : ASt} {av : AV} {d g t : Nat} {b want : Bool} (hg : o.guard = some (g, want)) (ht : (ops[g]?).bind (·.dst) = some t) (hb : s.get t = .bool b) (h : b = want → OpVal P ops o s av) (hd : o.dst = some d) (hn : d < s.n)
      (k : Tr P ops rest (s.put (some d) (if b = want then av else .junk)) s') : Tr P ops (o :: rest) s s'
theorem Tr.same {P : Program} {ops : Array Oper} {l : List Oper} {s s' : ASt} (h : Tr P ops l s s') : s'.hp = s.hp ∧ s'.n = s.n ∧ s'.N = s.N ∧ ∀ t, (∀ o ∈ l, o.dst ≠ some t) → s'.get t = s.get t := by
  induction h with
  | nil s => exact ⟨rfl, rfl, rfl, fun _ _ => rfl⟩
  | val hg h hd hn k ih =>
    obtain ⟨h1, h2, h3, h4⟩ := ih
    refine ⟨h1, h2, h3, fun t ht => ?_⟩
    rw [h4 t (fun o ho => ht o (List.mem_cons.2 (.inr ho))), ASt.get_put, if_neg]
    exact fun e => ht _ (List.mem_cons.2 (.inl rfl)) (by rw [hd, e])
  | cond hg ht hb h hd hn k ih =>
    obtain ⟨h1, h2, h3, h4⟩ := ih
    refine ⟨h1, h2, h3, fun t ht => ?_⟩
    rw [h4 t (fun o ho => ht o (List.mem_cons.2 (.inr ho))), ASt.get_put, if_neg]
    exact fun e => ht _ (List.mem_cons.2 (.inl rfl)) (by rw [hd, e])
/-- What a head looks at is not written at its place or behind it. -/
def lateB (ops : Array Oper) : List Oper → Bool
  | [] => true
  | o :: r => (o :: r).all (fun o' => match o'.dst with | some d => !(o.looksAt ops).contains d | none => true) && lateB ops r
/-- What is asked of each head: what it yields, given what is known of the end of all. -/
theorem Tr.each {P : Program} {ops : Array Oper} {l : List Oper} {s s' : ASt} (h : Tr P ops l s s') (hap : (dstsOf l).Nodup) (hl : lateB ops l = true) : ∀ o ∈ l, ∃ d, o.dst = some d ∧ d < s.n ∧
    ∀ L loc (a : Act) (w : World), a.tmps.size = s.n → HRel L s.N s.hp loc w → (∀ t ∈ o.looksAt ops, AR s.N (Dm L loc) loc w (s'.get t) (slot a t)) →
      if Region.wanted o (yielded ops a.tmps) = true then
        (∃ v w', (execOp a.eval o).run P w = .ok (.value v) w' ∧ Blw w.heap.size w w' ∧ AR s.N (Dm L loc) loc w' (s'.get d) v) ∨
        (∃ f args, (execOp a.eval o).run P w = .ok (.enter f args) w ∧ Calls P f args w fun e w' => ∃ v, e = .returned v ∧ Blw w.heap.size w w' ∧ AR s.N (Dm L loc) loc w' (s'.get d) v)
      else AR s.N (Dm L loc) loc w (s'.get d) undef := by
  have back : ∀ {o : Oper} {rest : List Oper} {s s' : ASt} {d : Nat} {x : AV}, Tr P ops rest (s.put (some d) x) s' → o.dst = some d → lateB ops (o :: rest) = true → ∀ t ∈ o.looksAt ops, s'.get t = s.get t := by
    intro o rest s s' d x k hd hl t ht
    simp only [lateB, Bool.and_eq_true, List.all_eq_true] at hl
    have hno : ∀ o' ∈ o :: rest, o'.dst ≠ some t := fun o' ho' e => by
      have := hl.1 o' ho'
      rw [e] at this
      simp at this
      exact this ht
    rw [k.same.2.2.2 t (fun o' ho' => hno o' (List.mem_cons.2 (.inr ho'))), ASt.get_put, if_neg (fun e => hno o (List.mem_cons.2 (.inl rfl)) (by rw [hd, e]))]
  have mine : ∀ {o : Oper} {rest : List Oper} {s s' : ASt} {d : Nat} {x : AV}, Tr P ops rest (s.put (some d) x) s' → o.dst = some d → (dstsOf (o :: rest)).Nodup → s'.get d = x := by
    intro o rest s s' d x k hd hn
    rw [k.same.2.2.2 d (fun o' ho' e => ?_), ASt.get_put, if_pos rfl]
    simp only [dstsOf, List.filterMap_cons, hd] at hn
    exact (List.nodup_cons.1 hn).1 (List.mem_filterMap.2 ⟨o', ho', e⟩)
  have tail : ∀ {o : Oper} {rest : List Oper}, (dstsOf (o :: rest)).Nodup → (dstsOf rest).Nodup := by
    intro o rest hn
    simp only [dstsOf, List.filterMap_cons] at hn
    split at hn
    · exact hn
    · exact (List.nodup_cons.1 hn).2
  have act : ∀ {s : ASt} {L : Nat → Prop} {loc : Nat → Option Value} {a : Act} {w : World} {o : Oper} {s' : ASt}, a.tmps.size = s.n → HRel L s.N s.hp loc w → (∀ t ∈ o.looksAt ops, AR s.N (Dm L loc) loc w (s'.get t) (slot a t)) → (∀ t ∈ o.looksAt ops, s'.get t = s.get t) → Rel (looks ops o) ⟨L, []⟩ s loc { tmps := a.tmps, defers := [] } w := by
    intro s L loc a w o s' h1 h2 h3 h4
    exact ⟨rfl, h1, fun t ht => by rw [← h4 t ht]; exact h3 t ht, h2⟩
  have ev : ∀ (a : Act), Act.eval { tmps := a.tmps, defers := [] } = a.eval := fun a => by funext x; cases x <;> rfl
  induction h with
  | nil s => intro o ho; cases ho
  | @val o rest s s' av d hg h hd hn k ih =>
    intro o' ho'
    rcases List.mem_cons.1 ho' with rfl | ho'
    · refine ⟨d, hd, hn, fun L loc a w h1 h2 h3 => ?_⟩
      have hr := act h1 h2 h3 (back k hd hl)
      rw [if_pos (by simp [Region.wanted, hg]), mine k hd hap, ← ev a]
      exact h ⟨L, []⟩ loc _ w hr
    · simp only [lateB, Bool.and_eq_true] at hl
      exact ih (tail hap) hl.2 o' ho'
  | @cond o rest s s' av d g t b want hg ht hb h hd hn k ih =>
    intro o' ho'
    rcases List.mem_cons.1 ho' with rfl | ho'
    · refine ⟨d, hd, hn, fun L loc a w h1 h2 h3 => ?_⟩
      have hr := act h1 h2 h3 (back k hd hl)
      have hm : t ∈ o'.looksAt ops := List.mem_append.2 (.inr (by simp [hg, ht]))
      have hbt := guard_slot hr (t := t) hm hb
      have hwt : Region.wanted o' (yielded ops a.tmps) = (b == want) := by
        simp only at hbt
        simp only [Region.wanted, hg, yielded, ht, hbt, Option.bind_some]
        cases b <;> cases want <;> rfl
      rw [hwt, mine k hd hap, ← ev a]
      by_cases e : b = want
      · rw [if_pos (by simpa using e), if_pos e]
        exact h e ⟨L, []⟩ loc _ w hr
      · rw [if_neg (by simpa using e), if_neg e]
        exact .junk _
    · simp only [lateB, Bool.and_eq_true] at hl
      exact ih (tail hap) hl.2 o' ho'
theorem FofL_at {ds : List Tmp} {G : Tmp → World → Value → Prop} {a : Act} {t : Tmp} {w : World} {v : Value} : Dn.FofL ds (ds.map G) a t w v ↔ (t ∈ ds ∧ G t w v) ∨ (t ∉ ds ∧ v = slot a t) := by
  induction ds with
  | nil => simp [Dn.FofL]
  | cons d r ih =>
    simp only [List.map_cons, Dn.FofL]
    by_cases e : t = d
    · subst e; simp
    · rw [if_neg e, ih]; simp [e]
theorem relAll_of {P : Program} {ops : Array Oper} {W : World} {size : Nat} {F : Tmp → World → Value → Prop} : ∀ {l : List Oper}, (∀ o ∈ l, Dn.relAt P ops W size F o) → Dn.relAll P ops W size F l
  | [], _ => trivial
  | o :: r, h => ⟨h o (List.mem_cons.2 (.inl rfl)), relAll_of fun x hx => h x (List.mem_cons.2 (.inr hx))⟩
theorem allMono_of : ∀ {l : List (World → Value → Prop)}, (∀ G ∈ l, ∀ v w q, G w v → G (gm w q) v) → Dn.allMono l
  | [], _ => trivial
  | G :: r, h => ⟨h G (List.mem_cons.2 (.inl rfl)), allMono_of fun x hx => h x (List.mem_cons.2 (.inr hx))⟩
def drawB (l : List Oper) (n size : Nat) : Bool := Dn.relB l.toArray n size && decide ((dstsOf (l.take n)).Nodup) && lateB l.toArray (l.take n)
theorem T.draw {F : Fence} [FOk F] {P : Program} {Q : Exit → ASt → Prop} {s s' : ASt} {id : Nat} {l lt : List Oper} (n : Nat) (hm : P.follows .mixedOrders = true) (hnd : noDefB l = true) (hB : drawB l n s.n = true) (ht : l.drop n = lt) (h : Tr P l.toArray (l.take n) s s') (k : TL P l.toArray (NQ Q) lt s') : T F P (.region id l.toArray true) Q s := fun L loc a w hr => by
  refine wpIn_mono (wpIn_region_any hm (any_in NQ.out (noDefB_spec hnd) _ _ _ _ ?_)) fun _ _ _ k => NQ.post k
  change wpAny P .any l.toArray (TPost L loc w (NQ Q)) _ _ a w.drew
  simp only [drawB, Bool.and_eq_true, decide_eq_true_eq] at hB
  obtain ⟨⟨hB, hnd⟩, hlate⟩ := hB
  have hsame := h.same
  have hr0 : HRel L s.N s.hp loc w.drew := hr.hp.below (Blw.refl _ _).drew
  have hrp : ∀ p, HRel L s.N s.hp loc (gm w.drew p) := fun p => hr0.below (gm_below _ p)
  have bl : ∀ p, Blw w.heap.size w (gm w.drew p) := fun p => ((Blw.refl _ w).drew).trans (gm_below w.drew p)
  let G : Tmp → World → Value → Prop := fun t W v => AR s.N (Dm L loc) loc W (s'.get t) v
  have all : ∀ {t : Tmp} {p : Regrown} {v : Value}, Dn.FofL (dstsOf (l.take n)) ((dstsOf (l.take n)).map G) a t (gm w.drew p) v → AR s.N (Dm L loc) loc (gm w.drew p) (s'.get t) v := by
    intro t p v hF
    rcases FofL_at.1 hF with ⟨_, h1⟩ | ⟨h1, rfl⟩
    · exact h1
    · rw [hsame.2.2.2 t (fun o ho e => h1 (List.mem_filterMap.2 ⟨o, ho, e⟩))]
      exact (hr.fr t trivial).blw (bl p)
  refine Dn.any_relL n (dstsOf (l.take n)) ((dstsOf (l.take n)).map G) (by rw [hr.size]; exact hB) rfl rfl ht (allMono_of fun G' hG' => ?_) (relAll_of fun o ho => ?_) (fun b p hdf hsz hout hF => ?_)
  · obtain ⟨d, _, rfl⟩ := List.mem_map.1 hG'
    exact fun v W q h => h.blw (gm_below W q)
  · intro d hd b p hsz hs
    obtain ⟨d', hd', _, hev⟩ := h.each hnd hlate o ho
    rw [hd] at hd'
    cases hd'
    have h1 := hev L loc b (gm w.drew p) (hsz.trans hr.size) (hrp p) (fun t ht => all (hs t ht))
    have hdm : d ∈ dstsOf (l.take n) := List.mem_filterMap.2 ⟨o, ho, hd⟩
    split
    · rename_i hw
      rw [if_pos hw] at h1
      rcases h1 with ⟨v, w', e1, e2, e3⟩ | ⟨f, args, e1, e2⟩
      · rw [e1]
        exact ⟨FofL_at.2 (.inl ⟨hdm, e3⟩), gm_of_below e2⟩
      · rw [e1]
        exact ⟨rfl, e2.mono fun e w' ⟨v, g1, g2, g3⟩ => ⟨v, g1, FofL_at.2 (.inl ⟨hdm, g3⟩), gm_of_below g2⟩⟩
    · rename_i hw
      rw [if_neg hw] at h1
      exact FofL_at.2 (.inl ⟨hdm, h1⟩)
  · have hrel : Rel All L s' loc b (gm w.drew p) := ⟨hdf.trans hr.defers, by rw [hsz, hr.size, hsame.2.1], fun t _ => by rw [hsame.2.2.1]; exact all (hF t), by rw [hsame.1, hsame.2.2.1]; exact hrp p⟩
    exact wpList_mono (fun _ _ _ k => k.ext (.of_below (bl p))) lt b _ (k L loc b _ hrel)
/-- From the list as it is run to the steps. -/
def WOv (P : Program) (o : Oper) (s : ASt) (K : ASt → Prop) : Prop := match o.op with
  | .call { callee := .value (.func f), args := args, .. } => ∃ r, CallV P s f (args.toList.map s.ev) r ∧ K (s.put o.dst r)
  | .call { callee := .value (.tmp t), args := args, .. } => match s.get t with
    | .fn (.func f) caps => ∃ r, (Ent P f ∧ PureC P f (args.toList.map s.ev ++ caps) r ∧ ((args.toList.map s.ev ++ caps).all (·.okB 0)) = true) ∧ K (s.put o.dst r)
    | _ => False
  | op => match aop P s op with
    | some av => K (s.put o.dst av)
    | none => False
def hasDst (o : Oper) (s : ASt) : Prop := match o.dst with
  | some d => d < s.n
  | none => False
/-- One head. -/
def WH (P : Program) (ds : List (Option Nat)) (o : Oper) (s : ASt) (K : ASt → Prop) : Prop := hasDst o s ∧ match o.guard with
  | none => WOv P o s K
  | some (g, want) => match ds[g]? with
    | some (some t) => match s.get t with
      | .p (.val (.bool b)) => WG b want (WOv P o (s.put (some t) (.bool want)) K) (K ((s.put (some t) (.bool (!want))).put o.dst .junk))
      | _ => False
    | _ => False
/-- The heads of a region that draws its order (n of them), then the rest. -/
def WD (P : Program) (ds : List (Option Nat)) (Q : ASt → Prop) : Nat → List Oper → ASt → Prop
  | 0, l, s => WL P ds Q l s
  | _ + 1, [], s => Q s
  | n + 1, o :: rest, s => WH P ds o s (WD P ds Q n rest)
theorem WD.step {P : Program} {ds : List (Option Nat)} {Q : ASt → Prop} {n : Nat} {o : Oper} {rest : List Oper} {s : ASt} (h : ∀ K : ASt → Prop, (∀ s, WD P ds Q n rest s → K s) → WH P ds o s K) : WD P ds Q (n + 1) (o :: rest) s := h _ fun _ h => h
theorem WD.fin {P : Program} {ds : List (Option Nat)} {Q : ASt → Prop} {l : List Oper} {s : ASt} (h : WL P ds Q l s) : WD P ds Q 0 l s := h
theorem Tr.congr {P : Program} {ops : Array Oper} {l : List Oper} {s s' : ASt} (h : Tr P ops l s s') : ∀ {s2 : ASt}, Sq s s2 → ∃ s2', Tr P ops l s2 s2' ∧ Sq s' s2' := by
  induction h with
  | nil s => exact fun k => ⟨_, .nil _, k⟩
  | val hg h hd hn k ih =>
    intro s2 e
    obtain ⟨s2', h1, h2⟩ := ih (e.put (some _) _)
    exact ⟨s2', .val hg (e.val h) hd (by rw [e.n]; exact hn) h1, h2⟩
  | cond hg ht hb h hd hn k ih =>
    intro s2 e
    obtain ⟨s2', h1, h2⟩ := ih (e.put (some _) _)
    exact ⟨s2', .cond hg ht (by rw [e.get]; exact hb) (fun g => e.val (h g)) hd (by rw [e.n]; exact hn) h1, h2⟩
theorem WD.sound {P : Program} {ops : Array Oper} {Q : Exit → ASt → Prop} : ∀ {n : Nat} {l : List Oper} {s : ASt}, WD P (ops.toList.map (·.dst)) (Q .normal) n l s → ∃ s', Tr P ops (l.take n) s s' ∧ TL P ops Q (l.drop n) s'
  | 0, l, s, h => ⟨s, by rw [List.take_zero]; exact .nil s, WL.sound h⟩
  | n + 1, [], s, h => ⟨s, .nil s, TL.nil h⟩
  | n + 1, o :: rest, s, h => by
    obtain ⟨hd, h⟩ := h
    obtain ⟨d, hd', hn⟩ : ∃ d, o.dst = some d ∧ d < s.n := by
      unfold hasDst at hd
      split at hd
      · exact ⟨_, ‹_›, hd⟩
      · exact hd.elim
    have dec : ∀ {s : ASt} {K : ASt → Prop}, WOv P o s K → ∃ av, OpVal P ops o s av ∧ K (s.put o.dst av) := fun {s K} h => by
      unfold WOv at h
      split at h
      · rename_i f args tys ho
        obtain ⟨r, h1, h2⟩ := h
        exact ⟨r, h1.val ho, h2⟩
      · rename_i t args tys ho
        split at h
        · rename_i f caps hf
          obtain ⟨r, ⟨h1, h2, h3⟩, h4⟩ := h
          exact ⟨r, op_callF t f caps args tys r ho hf h1 h2 h3, h4⟩
        · exact h.elim
      · split at h
        · rename_i av hav
          exact ⟨av, aop_sound hav, h⟩
        · exact h.elim
    split at h
    · rename_i hg
      obtain ⟨av, hv, k⟩ := dec h
      rw [hd'] at k
      obtain ⟨s', h1, h2⟩ := WD.sound k
      exact ⟨s', .val hg hv hd' hn h1, h2⟩
    · rename_i g want hg
      split at h
      · rename_i t ht
        have ht' : (ops[g]?).bind (·.dst) = some t := by
          simp only [List.getElem?_map, Option.map_eq_some_iff, Array.getElem?_toList] at ht
          obtain ⟨o', h1, h2⟩ := ht
          rw [h1]; exact h2
        split at h
        · rename_i b hb
          by_cases hbw : b = want
          · have e := Sq.same (s := s) (t := t) (x := .bool want) (by rw [hb, hbw])
            obtain ⟨av, hv, k⟩ := dec (h.1 hbw)
            rw [hd'] at k
            obtain ⟨s', h1, h2⟩ := WD.sound k
            obtain ⟨s2, h3, h4⟩ := h1.congr (e.symm.put (some d) av)
            exact ⟨s2, .cond (av := av) hg ht' hb (fun _ => e.symm.val hv) hd' hn (by rw [if_pos hbw]; exact h3), TL.weak h4.symm.weak h2⟩
          · have hbn : b = (!want) := by cases b <;> cases want <;> simp_all
            have e := Sq.same (s := s) (t := t) (x := .bool (!want)) (by rw [hb, hbn])
            have k := h.2 hbn
            rw [hd'] at k
            obtain ⟨s', h1, h2⟩ := WD.sound k
            obtain ⟨s2, h3, h4⟩ := h1.congr (e.symm.put (some d) .junk)
            exact ⟨s2, .cond (av := .junk) hg ht' hb (fun e => absurd e hbw) hd' hn (by rw [if_neg hbw]; exact h3), TL.weak h4.symm.weak h2⟩
        · exact h.elim
      · exact h.elim
theorem T.draw' {F : Fence} [FOk F] {P : Program} {Q : Exit → ASt → Prop} {s : ASt} {id : Nat} {l : List Oper} (n : Nat) (hm : P.follows .mixedOrders = true) (hnd : noDefB l = true) (hB : drawB l n s.n = true) (h : WD P (l.map (·.dst)) (Q .normal) n l s) : T F P (.region id l.toArray true) Q s := by
  obtain ⟨s', h1, h2⟩ := WD.sound (ops := l.toArray) (Q := NQ Q) (by rw [show NQ Q .normal = Q .normal from funext (NQ.normal Q)]; simpa using h)
  exact T.draw n hm hnd hB rfl h1 h2
end Go.Proofs.Ytbhkcejjehgfcaa
