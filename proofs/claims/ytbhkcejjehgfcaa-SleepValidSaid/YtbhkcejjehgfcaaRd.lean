/- XRel's law where the draws count on (printed by wip/tools/genrd.py out of XRel). -/
import Derived.Test.YtbhkcejjehgfcaaDr
import Derived.Test.YtbhkcejjehgfcaaOwn
namespace Go.Proofs.Ytbhkcejjehgfcaa.Dn
open Go.RowKit Go.Sort

def relUpon (P : Program) (w : World) (F : World → Value → Prop) : Result Next → Prop
  | .ok (.value u) w' => F w' u ∧ ∃ q, w' = gm w q
  | .ok .skip w' => w' = w ∧ F w undef
  | .ok (.enter f args) w' => w' = w ∧ Calls P f args w fun e w'' => ∃ u, e = .returned u ∧ F w'' u ∧ ∃ q, w'' = gm w q
  | _ => False
/-- What an operation yields, whatever it sees, if that is as told. -/
def relAt (P : Program) (ops : Array Oper) (W : World) (size : Nat) (F : Tmp → World → Value → Prop) (o : Oper) : Prop :=
  ∀ d, o.dst = some d → ∀ (b : Act) (p : Regrown), b.tmps.size = size → (∀ x ∈ o.looksAt ops, F x (gm W p) (slot b x)) →
    if Region.wanted o (yielded ops b.tmps) = true then relUpon P (gm W p) (F d) ((execOp b.eval o).run P (gm W p)) else F d (gm W p) undef
def relB (ops : Array Oper) (n : Nat) (size : Nat) : Bool :=
  (List.range n).all (fun i => match ops[i]? with
    | none => false
    | some o => (match o.dst with | none => false | some d => decide (d < size)) && (o.looksAt ops).all (fun x => !(List.range n).any (fun j => ((ops[j]?).bind (·.dst)) == some x) || o.after.any (fun e => Region.binds .any e && ((ops[e.on]?).bind (·.dst)) == some x && decide (e.on < n)))) &&
  Region.noSelect ops && apartB ops n && decide (n ≤ ops.size) &&
  (List.range n).all (fun i => match ops[i]? with | none => false | some o => o.after.all (fun e => !Region.binds .any e || decide (e.on < i))) &&
  (decide (n = ops.size) || (Region.sinkB .any ops n && Region.chainB .any ops n)) && Region.seqB .any ops (ops.size - n) n (headDone ops.size n)

theorem any_rel {P : Program} {Q : Exit → Act → World → Prop} {a : Act} {w : World} {l lt : List Oper} (n : Nat) (F : Tmp → World → Value → Prop) (hB : relB l.toArray n a.tmps.size = true) (ht : l.drop n = lt)
    (mono : ∀ t v w q, F t w v → F t (gm w q) v)
    (start : ∀ t, (∀ i, i < n → ((l[i]?).bind (·.dst)) ≠ some t) → ∀ p, F t (gm w.drew p) (slot a t))
    (each : ∀ o ∈ l.take n, relAt P l.toArray w.drew a.tmps.size F o)
    (tail : ∀ (b : Act) (p : Regrown), b.defers = a.defers → b.tmps.size = a.tmps.size → (∀ t, (∀ i, i < n → ((l[i]?).bind (·.dst)) ≠ some t) → slot b t = slot a t) → (∀ t, F t (gm w.drew p) (slot b t)) → wpList P l.toArray Q lt b (gm w.drew p)) :
    wpAny P .any l.toArray Q l.toArray.size (Array.replicate l.toArray.size false) a w.drew := by
  subst ht
  simp only [relB, Bool.and_eq_true, decide_eq_true_eq, Bool.or_eq_true] at hB
  obtain ⟨⟨⟨⟨⟨⟨hlook, hsel⟩, hap⟩, hn⟩, hdep⟩, htail⟩, hseq⟩ := hB
  have hsel' := Region.noSelect_spec hsel
  have hdst : ∀ i o, i < n → l.toArray[i]? = some o → ∃ d, o.dst = some d ∧ d < a.tmps.size := fun i o hi ho => by
    have := List.all_eq_true.1 hlook i (List.mem_range.2 hi)
    rw [ho] at this
    simp only [Bool.and_eq_true] at this
    cases hd : o.dst with
    | none => simp [hd] at this
    | some d => simp [hd] at this; exact ⟨d, rfl, this.1⟩
  let I : Array Bool → Act → World → Prop := fun listed a' w' => ∃ q : Regrown, w' = gm w.drew q ∧ a'.defers = a.defers ∧ a'.tmps.size = a.tmps.size ∧ HeadInv .any l.toArray n listed ∧
    (∀ t, (∀ i, i < n → ((l[i]?).bind (·.dst)) ≠ some t) → slot a' t = slot a t) ∧
    (∀ i o d, i < n → l.toArray[i]? = some o → o.dst = some d → listed.getD i false = true → F d w' (slot a' d))
  have sees : ∀ {listed : Array Bool} {a' : Act} {w' : World} {i : Nat} {o : Oper}, I listed a' w' → i < n → i ∈ Region.ready .any l.toArray listed → l.toArray[i]? = some o → ∀ x ∈ o.looksAt l.toArray, F x w' (slot a' x) := by
    intro listed a' w' i o ⟨q, hw, _, _, hinv, s1, s2⟩ hi hr ho x hx
    have hl := List.all_eq_true.1 hlook i (List.mem_range.2 hi)
    rw [ho] at hl
    simp only [Bool.and_eq_true] at hl
    have hl' := List.all_eq_true.1 hl.2 x hx
    simp only [Bool.or_eq_true, Bool.not_eq_true'] at hl'
    rcases hl' with hno | hxq
    · have hno' : ∀ i, i < n → ((l[i]?).bind (·.dst)) ≠ some x := fun j hj e => by
        have := List.any_eq_false.1 hno j (List.mem_range.2 hj)
        simp [e] at this
      rw [s1 x hno', hw]
      exact start x hno' q
    · obtain ⟨k, hk, he2⟩ := Array.any_eq_true.1 hxq
      simp only [Bool.and_eq_true, beq_iff_eq, decide_eq_true_eq] at he2
      obtain ⟨⟨hb, hdx⟩, hen⟩ := he2
      obtain ⟨_, o2, ho2, hall⟩ := mem_ready.1 hr
      have : o2 = o := Option.some.inj (ho2.symm.trans ho)
      subst this
      have hle := hall _ (Array.getElem_mem hk) hb
      cases hoe : (l.toArray)[o2.after[k].on]? with
      | none => rw [hoe] at hdx; cases hdx
      | some oe =>
        rw [hoe] at hdx
        exact s2 _ oe x hen hoe (by simpa using hdx) hle
  have after : ∀ {listed : Array Bool} {a' : Act} {w' w'' : World} {i : Nat} {o : Oper} {d : Tmp} {v : Value}, I listed a' w' → i < n → i ∈ Region.ready .any l.toArray listed → l.toArray[i]? = some o → o.dst = some d → d < a.tmps.size →
      (∃ q, w'' = gm w' q) → F d w'' v → I (listed.setIfInBounds i true) (a'.put o.dst v) w'' := by
    intro listed a' w' w'' i o d v ⟨q, hw, hdef, hsz, hinv, s1, s2⟩ hi hr ho hd hdlt ⟨q', hq'⟩ hF
    have hdlt' : d < a'.tmps.size := hsz ▸ hdlt
    obtain ⟨q2, hq2⟩ := gm_two w.drew q q'
    rw [hd]
    refine ⟨q2, by rw [hq', hw, hq2], hdef, (size_put _ _ _).trans hsz, hinv.set hr hi, ?_, ?_⟩
    · intro t ht
      rw [slot_put a' d t v hdlt', if_neg]
      · exact s1 t ht
      · intro e
        subst e
        exact ht i hi (by rw [← hd]; simpa using congrArg (Option.bind · (·.dst)) ho)
    · intro j o' d' hj ho' hd' hl
      by_cases hij : i = j
      · subst hij
        have e1 : o' = o := Option.some.inj (ho'.symm.trans ho)
        subst e1
        have e2 : d' = d := Option.some.inj (hd'.symm.trans hd)
        subst e2
        rw [slot_put a' d' d' v hdlt', if_pos rfl]
        exact hF
      · have hne : d' ≠ d := fun e => by subst e; exact apart_of hap hi hj hij ho ho' (hd.trans hd'.symm)
        rw [getD_set_ne false hij] at hl
        rw [slot_put a' d d' v hdlt', if_neg hne, hq']
        exact mono _ _ _ _ (s2 j o' d' hj ho' hd' hl)
  have hstart : I (Array.replicate l.toArray.size false) a w.drew := by
    refine ⟨_, gm_self _, rfl, rfl, ⟨by simp, fun j oj _ hl => (by rw [getD_replicate_false] at hl; cases hl), fun t _ ht => getD_in (by simpa using ht) (getD_replicate_false _ _)⟩, fun _ _ => rfl, ?_⟩
    intro i o d _ _ _ hl; rw [getD_replicate_false] at hl; cases hl
  refine wpAny_head (n := n) (g := l.toArray.size - n) I (fun _ _ _ ⟨_, _, _, _, hinv, _⟩ => hinv) (fun listed inv h0 => head_waits hn hdep htail inv h0) ?_ ?_ _ _ _ _ ?_ hstart
  · -- a step
    intro listed a' w' i hI hi hr
    obtain ⟨_, o, ho, _⟩ := mem_ready.1 hr
    have hs := sees hI hi hr ho
    have hI' := hI
    obtain ⟨q, hw, hdef, hsz, hinv, s1, s2⟩ := hI'
    obtain ⟨d, hd, hdlt⟩ := hdst i o hi ho
    have hmem : o ∈ l.take n := List.mem_iff_getElem?.2 ⟨i, by rw [List.getElem?_take, if_pos hi]; simpa using ho⟩
    have hat := each o hmem d hd a' q hsz (by rw [← hw]; exact hs)
    unfold wpOp
    rw [ho]
    by_cases hwant : Region.wanted o (yielded l.toArray a'.tmps) = true
    · rw [if_pos hwant] at hat
      simp only [hwant, if_true]
      refine .inl ?_
      unfold Oper.wp
      rw [hw]
      generalize (execOp a'.eval o).run P (gm w.drew q) = res at hat
      cases res with
      | halt x w1 => exact hat.elim
      | ok nx w1 =>
        cases nx <;> simp only [relUpon] at hat <;> simp only [Oper.upon]
        case value u =>
          obtain ⟨hF, q1, rfl⟩ := hat
          exact after hI hi hr ho hd hdlt ⟨q1, by rw [hw]⟩ hF
        case skip =>
          obtain ⟨rfl, hF⟩ := hat
          exact after hI hi hr ho hd hdlt ⟨_, by rw [hw]; exact gm_self _⟩ hF
        case enter f args =>
          obtain ⟨rfl, hc⟩ := hat
          refine hc.mono fun e w2 he => ?_
          obtain ⟨u, rfl, hF, q2, rfl⟩ := he
          exact after hI hi hr ho hd hdlt ⟨q2, by rw [hw]⟩ hF
    · rw [if_neg hwant] at hat
      have hwant' : Region.wanted o (yielded l.toArray a'.tmps) = false := by simpa using hwant
      simp only [hwant', Bool.false_eq_true, if_false]
      exact after hI hi hr ho hd hdlt ⟨_, gm_self _⟩ (by rw [hw]; exact hat)
  · -- the tail
    intro listed a' w' ⟨q, hw, hdef, hsz, hinv, s1, s2⟩ h0 f hf
    have hl := headDone_eq hinv h0
    have hgd : ∀ i, i < n → listed.getD i false = true := by
      intro i hi
      rw [hl]
      have : i < l.length := by have := hn; simp at this; omega
      simp [headDone, this, hi]
    have hwl := tail a' q hdef hsz s1 (fun t => by
      by_cases ht : ∀ i, i < n → ((l[i]?).bind (·.dst)) ≠ some t
      · rw [s1 t ht]; exact start t ht q
      · have : ∃ i, i < n ∧ ((l[i]?).bind (·.dst)) = some t := by
          refine Classical.byContradiction fun h => ht fun i hi e => h ⟨i, hi, e⟩
        obtain ⟨i, hi, e⟩ := this
        cases ho : l[i]? with
        | none => rw [ho] at e; cases e
        | some o =>
          rw [ho] at e
          rw [← hw]
          exact s2 i o t hi (by simpa using ho) (by simpa using e) (hgd i hi))
    rw [← hw] at hwl
    have hdl : (l.drop n).length = l.toArray.size - n := by simp
    have := wpAny_of_seq (md := .any) (Q' := Q) (l.drop n) n listed a' w' (fun j => by simp [List.getElem?_drop]) (by rw [hdl, hl]; exact hseq) hwl
    rw [hdl] at this
    have h2 := wpAny_more _ (f - (l.toArray.size - n)) _ _ _ this
    rwa [show l.toArray.size - n + (f - (l.toArray.size - n)) = f by omega] at h2
  · -- the fuel
    have : headLeft (Array.replicate l.toArray.size false) n ≤ n := by
      unfold headLeft
      exact Nat.le_trans (List.length_filter_le _ _) (by simp)
    omega

theorem wp_region_rel {P : Program} {id : Nat} {Q : Exit → Act → World → Prop} {a : Act} {w : World} {l lt : List Oper} (n : Nat) (F : Tmp → World → Value → Prop) (hm : P.follows .mixedOrders = true) (hB : relB l.toArray n a.tmps.size = true) (ht : l.drop n = lt)
    (mono : ∀ t v w q, F t w v → F t (gm w q) v)
    (start : ∀ t, (∀ i, i < n → ((l[i]?).bind (·.dst)) ≠ some t) → ∀ p, F t (gm w.drew p) (slot a t))
    (each : ∀ o ∈ l.take n, relAt P l.toArray w.drew a.tmps.size F o)
    (tail : ∀ (b : Act) (p : Regrown), b.defers = a.defers → b.tmps.size = a.tmps.size → (∀ t, (∀ i, i < n → ((l[i]?).bind (·.dst)) ≠ some t) → slot b t = slot a t) → (∀ t, F t (gm w.drew p) (slot b t)) → wpList P l.toArray Q lt b (gm w.drew p)) :
    (Code.region id l.toArray true).wp P Q a w := wp_region_any hm (any_rel n F hB ht mono start each tail)

theorem relAt_plain {P : Program} {ops : Array Oper} {W : World} {size : Nat} {F : Tmp → World → Value → Prop} {o : Oper} {d : Tmp} (hd : o.dst = some d) (hg : o.guard = none)
    (h : ∀ (b : Act) (p : Regrown), (∀ x ∈ o.looksAt ops, F x (gm W p) (slot b x)) → relUpon P (gm W p) (F d) ((execOp b.eval o).run P (gm W p))) : relAt P ops W size F o := by
  intro d' hd' b p _ hs
  have : d = d' := Option.some.inj (hd.symm.trans hd')
  subst this
  rw [if_pos (by simp [Region.wanted, hg])]
  exact h b p hs
theorem relAt_true {P : Program} {ops : Array Oper} {W : World} {size : Nat} {F : Tmp → World → Value → Prop} {o : Oper} {d : Tmp} (hd : o.dst = some d) (g t : Nat) (want : Bool) (hg : o.guard = some (g, want)) (ht : (ops[g]?).bind (·.dst) = some t) (hsz : t < size) (hF : ∀ w v, F t w v → v = .bool want)
    (h : ∀ (b : Act) (p : Regrown), (∀ x ∈ o.looksAt ops, F x (gm W p) (slot b x)) → relUpon P (gm W p) (F d) ((execOp b.eval o).run P (gm W p))) : relAt P ops W size F o := by
  intro d' hd' b p hb hs
  have : d = d' := Option.some.inj (hd.symm.trans hd')
  subst this
  have hx := hF _ _ (hs t (by simp [Oper.looksAt, hg, ht]))
  have hy : b.tmps[t]? = some (.bool want) := by
    have hlt : t < b.tmps.size := by omega
    simp only [slot, Array.getD_eq_getD_getElem?, Array.getElem?_eq_getElem hlt, Option.getD_some] at hx
    rw [Array.getElem?_eq_getElem hlt, hx]
  rw [if_pos (by simp [Region.wanted, hg, yielded, ht, hy])]
  exact h b p hs
theorem eval_tmp (b : Act) (t : Tmp) : b.eval (.tmp t) = slot b t := rfl


/-! ### One predicate an operation -/
def FofL : List Tmp → List (World → Value → Prop) → Act → Tmp → World → Value → Prop
  | d :: ds, G :: Gs, a, t, w, v => if t = d then G w v else FofL ds Gs a t w v
  | _, _, a, t, _, v => v = slot a t
theorem FofL_mono {a : Act} : ∀ (ds : List Tmp) (Gs : List (World → Value → Prop)), (∀ G ∈ Gs, ∀ v w q, G w v → G (gm w q) v) → ∀ t v w q, FofL ds Gs a t w v → FofL ds Gs a t (gm w q) v
  | [], _, _, _, _, _, _, h => h
  | _ :: _, [], _, _, _, _, _, h => h
  | d :: ds, G :: Gs, hm, t, v, w, q, h => by
    simp only [FofL] at h ⊢
    by_cases e : t = d
    · rw [if_pos e] at h ⊢
      exact hm G (List.mem_cons.2 (.inl rfl)) _ _ _ h
    · rw [if_neg e] at h ⊢
      exact FofL_mono ds Gs (fun G' h' => hm G' (List.mem_cons.2 (.inr h'))) t v w q h
theorem FofL_out {a : Act} : ∀ (ds : List Tmp) (Gs : List (World → Value → Prop)) (t : Tmp) (w : World), t ∉ ds → FofL ds Gs a t w (slot a t)
  | [], _, _, _, _ => rfl
  | _ :: _, [], _, _, _ => rfl
  | d :: ds, G :: Gs, t, w, h => by
    simp only [FofL]
    rw [if_neg (fun e => h (by rw [e]; exact List.mem_cons.2 (.inl rfl)))]
    exact FofL_out ds Gs t w (fun h' => h (List.mem_cons.2 (.inr h')))
def relAll (P : Program) (ops : Array Oper) (W : World) (size : Nat) (F : Tmp → World → Value → Prop) : List Oper → Prop
  | [] => True
  | o :: r => relAt P ops W size F o ∧ relAll P ops W size F r
theorem relAll_mem {P : Program} {ops : Array Oper} {W : World} {size : Nat} {F : Tmp → World → Value → Prop} : ∀ {l : List Oper}, relAll P ops W size F l → ∀ o ∈ l, relAt P ops W size F o
  | [], _, _, ho => by cases ho
  | x :: r, ⟨h1, h2⟩, o, ho => (List.mem_cons.1 ho).elim (fun e => e ▸ h1) (fun h' => relAll_mem h2 o h')
def allMono : List (World → Value → Prop) → Prop
  | [] => True
  | G :: r => (∀ v w q, G w v → G (gm w q) v) ∧ allMono r
theorem allMono_mem : ∀ {l : List (World → Value → Prop)}, allMono l → ∀ G ∈ l, ∀ v w q, G w v → G (gm w q) v
  | [], _, _, ho => by cases ho
  | x :: r, ⟨h1, h2⟩, o, ho => (List.mem_cons.1 ho).elim (fun e => e ▸ h1) (fun h' => allMono_mem h2 o h')
theorem any_relL {P : Program} {Q : Exit → Act → World → Prop} {a : Act} {w : World} {l lt lh : List Oper} (n : Nat) (ds : List Tmp) (Gs : List (World → Value → Prop)) (hB : relB l.toArray n a.tmps.size = true) (hd : dstsOf (l.take n) = ds)
    (hh : l.take n = lh) (ht : l.drop n = lt) (mono : allMono Gs) (each : relAll P l.toArray w.drew a.tmps.size (FofL ds Gs a) lh)
    (tail : ∀ (b : Act) (p : Regrown), b.defers = a.defers → b.tmps.size = a.tmps.size → (∀ t, t ∉ ds → slot b t = slot a t) → (∀ t, FofL ds Gs a t (gm w.drew p) (slot b t)) → wpList P l.toArray Q lt b (gm w.drew p)) :
    wpAny P .any l.toArray Q l.toArray.size (Array.replicate l.toArray.size false) a w.drew := by
  subst hh
  have hmem : ∀ t, t ∈ ds ↔ ∃ i, i < n ∧ ((l[i]?).bind (·.dst)) = some t := by
    intro t
    rw [← hd, mem_dstsOf]
    constructor
    · rintro ⟨o, ho, e⟩
      obtain ⟨i, hi⟩ := List.mem_iff_getElem?.1 ho
      rw [List.getElem?_take] at hi
      split at hi
      · rename_i hlt
        exact ⟨i, hlt, by rw [hi]; simpa using e⟩
      · cases hi
    · rintro ⟨i, hi, e⟩
      cases ho : l[i]? with
      | none => rw [ho] at e; cases e
      | some o =>
        rw [ho] at e
        exact ⟨o, List.mem_iff_getElem?.2 ⟨i, by rw [List.getElem?_take, if_pos hi]; exact ho⟩, by simpa using e⟩
  refine any_rel n (FofL ds Gs a) hB ht (FofL_mono ds Gs (allMono_mem mono)) (fun t h p => FofL_out ds Gs t _ (fun h' => ?_)) (relAll_mem each) (fun b p h1 h2 h3 h4 => tail b p h1 h2 (fun t h => h3 t (fun i hi e => h ((hmem t).2 ⟨i, hi, e⟩))) h4)
  obtain ⟨i, hi, e⟩ := (hmem t).1 h'
  exact h i hi e

theorem wp_region_relL {P : Program} {id : Nat} {Q : Exit → Act → World → Prop} {a : Act} {w : World} {l lt lh : List Oper} (n : Nat) (ds : List Tmp) (Gs : List (World → Value → Prop)) (hm : P.follows .mixedOrders = true) (hB : relB l.toArray n a.tmps.size = true) (hd : dstsOf (l.take n) = ds)
    (hh : l.take n = lh) (ht : l.drop n = lt) (mono : allMono Gs) (each : relAll P l.toArray w.drew a.tmps.size (FofL ds Gs a) lh)
    (tail : ∀ (b : Act) (p : Regrown), b.defers = a.defers → b.tmps.size = a.tmps.size → (∀ t, t ∉ ds → slot b t = slot a t) → (∀ t, FofL ds Gs a t (gm w.drew p) (slot b t)) → wpList P l.toArray Q lt b (gm w.drew p)) :
    (Code.region id l.toArray true).wp P Q a w := wp_region_any hm (any_relL n ds Gs hB hd hh ht mono each tail)

def allSeen (F : Tmp → World → Value → Prop) (w : World) (b : Act) : List Tmp → Prop
  | [] => True
  | x :: r => F x w (slot b x) ∧ allSeen F w b r
theorem allSeen_of {F : Tmp → World → Value → Prop} {w : World} {b : Act} : ∀ (xs : List Tmp), (∀ x ∈ xs, F x w (slot b x)) → allSeen F w b xs
  | [], _ => trivial
  | x :: r, h => ⟨h x (List.mem_cons.2 (.inl rfl)), allSeen_of r fun y hy => h y (List.mem_cons.2 (.inr hy))⟩
theorem slot_mk (ts : Array Value) (ds : List Deferred) (t : Tmp) : slot ⟨ts, ds⟩ t = ts.getD t undef := rfl
theorem relAt_seen {P : Program} {ops : Array Oper} {W : World} {size : Nat} {F : Tmp → World → Value → Prop} {o : Oper} (xs : List Tmp) {d : Tmp} (hd : o.dst = some d) (hg : o.guard = none) (hx : o.looksAt ops = xs)
    (h : ∀ (b : Act) (p : Regrown), allSeen F (gm W p) b xs → relUpon P (gm W p) (F d) ((execOp b.eval o).run P (gm W p))) : relAt P ops W size F o :=
  relAt_plain hd hg fun b p hs => h b p (allSeen_of xs (by rw [← hx]; exact hs))
theorem relAt_want {P : Program} {ops : Array Oper} {W : World} {size : Nat} {F : Tmp → World → Value → Prop} {o : Oper} (xs : List Tmp) {d : Tmp} (hd : o.dst = some d) (g t : Nat) (want : Bool) (hg : o.guard = some (g, want)) (ht : (ops[g]?).bind (·.dst) = some t) (hsz : t < size) (hF : ∀ w v, F t w v → v = .bool want)
    (hx : o.looksAt ops = xs) (h : ∀ (b : Act) (p : Regrown), allSeen F (gm W p) b xs → relUpon P (gm W p) (F d) ((execOp b.eval o).run P (gm W p))) : relAt P ops W size F o :=
  relAt_true hd g t want hg ht hsz hF fun b p hs => h b p (allSeen_of xs (by rw [← hx]; exact hs))

end Go.Proofs.Ytbhkcejjehgfcaa.Dn
