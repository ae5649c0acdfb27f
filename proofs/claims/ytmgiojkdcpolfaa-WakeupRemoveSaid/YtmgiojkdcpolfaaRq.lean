/- As wp_region_relL; with a relation between what two of the operations yield. -/
import Derived.Test.YtmgiojkdcpolfaaRp
namespace Go.Proofs.Ytmgiojkdcpolfaa
open Go.RowKit Go.Sort

/-- What an operation yields, and what it is to the yield of its mate. -/
def relAt2 (P : Program) (ops : Array Oper) (W : World) (size : Nat) (F : Tmp → World → Value → Prop) (x y : Tmp) (R : World → Value → Value → Prop) (o : Oper) : Prop :=
  x ≠ y ∧ ∀ d, o.dst = some d → ∀ (b : Act) (p : Regrown), b.tmps.size = size → (∀ z ∈ o.looksAt ops, F z (gw W p) (slot b z)) →
    if Region.wanted o (yielded ops b.tmps) = true then relUpon P (gw W p) (fun w' v => F d w' v ∧ (d = x → ∀ vy, F y (gw W p) vy → R w' v vy) ∧ (d = y → ∀ vx, F x (gw W p) vx → R w' vx v)) ((execOp b.eval o).run P (gw W p))
    else F d (gw W p) undef ∧ (d = x → ∀ vy, F y (gw W p) vy → R (gw W p) undef vy) ∧ (d = y → ∀ vx, F x (gw W p) vx → R (gw W p) vx undef)

theorem wp_region_rel2 {P : Program} {id : Nat} {Q : Exit → Act → World → Prop} {a : Act} {w : World} {l lt : List Oper} (n : Nat) (F : Tmp → World → Value → Prop) (hm : P.follows .mixedOrders = true) (hB : relB l.toArray n a.tmps.size = true) (ht : l.drop n = lt)
    (mono : ∀ t v w q, F t w v → F t (gw w q) v)
    (start : ∀ t, (∀ i, i < n → ((l[i]?).bind (·.dst)) ≠ some t) → ∀ p, F t (gw w.drew p) (slot a t))
    (x y : Tmp) (R : World → Value → Value → Prop) (monoR : ∀ w v u q, R w v u → R (gw w q) v u) (each : ∀ o ∈ l.take n, relAt2 P l.toArray w.drew a.tmps.size F x y R o)
    (tail : ∀ (b : Act) (p : Regrown), b.defers = a.defers → b.tmps.size = a.tmps.size → (∀ t, (∀ i, i < n → ((l[i]?).bind (·.dst)) ≠ some t) → slot b t = slot a t) → (∀ t, F t (gw w.drew p) (slot b t)) → ((∃ i, i < n ∧ ((l[i]?).bind (·.dst)) = some x) → (∃ i, i < n ∧ ((l[i]?).bind (·.dst)) = some y) → R (gw w.drew p) (slot b x) (slot b y)) → wpList P l.toArray Q lt b (gw w.drew p)) :
    (Code.region id l.toArray true).wp P Q a w := by
  subst ht
  simp only [relB, Bool.and_eq_true, decide_eq_true_eq, Bool.or_eq_true] at hB
  obtain ⟨⟨⟨⟨⟨⟨hlook, hsel⟩, hap⟩, hn⟩, hdep⟩, htail⟩, hseq⟩ := hB
  have hsel' := Region.noSelect_spec hsel
  have hdst : ∀ i o, i < n → l.toArray[i]? = some o → ∃ d, o.dst = some d ∧ d < a.tmps.size := fun i o hi ho => by
    have := List.all_eq_true.1 hlook i (List.mem_range.2 hi)
    rw [ho] at this
    simp only [Bool.and_eq_true] at this
    cases hd : o.dst with
    | none => simp [hd] at this
    | some d => simp [hd] at this; exact ⟨d, rfl, this.1⟩
  let I : Array Bool → Act → World → Prop := fun listed a' w' => ∃ q : Regrown, w' = gw w.drew q ∧ a'.defers = a.defers ∧ a'.tmps.size = a.tmps.size ∧ HeadInv .any l.toArray n listed ∧
    (∀ t, (∀ i, i < n → ((l[i]?).bind (·.dst)) ≠ some t) → slot a' t = slot a t) ∧
    (∀ i o d, i < n → l.toArray[i]? = some o → o.dst = some d → listed.getD i false = true → F d w' (slot a' d)) ∧
    (∀ i o j o2, i < n → l.toArray[i]? = some o → o.dst = some x → listed.getD i false = true → j < n → l.toArray[j]? = some o2 → o2.dst = some y → listed.getD j false = true → R w' (slot a' x) (slot a' y))
  have sees : ∀ {listed : Array Bool} {a' : Act} {w' : World} {i : Nat} {o : Oper}, I listed a' w' → i < n → i ∈ Region.ready .any l.toArray listed → l.toArray[i]? = some o → ∀ z ∈ o.looksAt l.toArray, F z w' (slot a' z) := by
    intro listed a' w' i o ⟨q, hw, _, _, hinv, s1, s2, s3⟩ hi hr ho z hx
    have hl := List.all_eq_true.1 hlook i (List.mem_range.2 hi)
    rw [ho] at hl
    simp only [Bool.and_eq_true] at hl
    have hl' := List.all_eq_true.1 hl.2 z hx
    simp only [Bool.or_eq_true, Bool.not_eq_true'] at hl'
    rcases hl' with hno | hxq
    · have hno' : ∀ i, i < n → ((l[i]?).bind (·.dst)) ≠ some z := fun j hj e => by
        have := List.any_eq_false.1 hno j (List.mem_range.2 hj)
        simp [e] at this
      rw [s1 z hno', hw]
      exact start z hno' q
    · obtain ⟨k, hk, he2⟩ := Array.any_eq_true.1 hxq
      simp only [Bool.and_eq_true, beq_iff_eq, decide_eq_true_eq] at he2
      obtain ⟨⟨hb, hdx⟩, hen⟩ := he2
      obtain ⟨_, o2, ho2, hall⟩ := mem_ready.1 hr
      have : o2 = o := Option.some.inj (ho2.symm.trans ho)
      subst this
      have hle := hall _ (Array.getElem_mem hk) hb
      cases hoe : (l.toArray)[o2.after[k].on]? with
      | none => rw [hoe] at hdx; cases hdx
      | some oe =>
        rw [hoe] at hdx
        exact s2 _ oe z hen hoe (by simpa using hdx) hle
  have after : ∀ {listed : Array Bool} {a' : Act} {w' w'' : World} {i : Nat} {o : Oper} {d : Tmp} {v : Value}, I listed a' w' → i < n → i ∈ Region.ready .any l.toArray listed → l.toArray[i]? = some o → o.dst = some d → d < a.tmps.size →
      (∃ q, w'' = gw w' q) → F d w'' v → (d = x → ∀ vy, F y w' vy → R w'' v vy) → (d = y → ∀ vx, F x w' vx → R w'' vx v) → (x ≠ y) → I (listed.setIfInBounds i true) (a'.put o.dst v) w'' := by
    intro listed a' w' w'' i o d v ⟨q, hw, hdef, hsz, hinv, s1, s2, s3⟩ hi hr ho hd hdlt ⟨q', hq'⟩ hF hRx hRy hxy
    have hdlt' : d < a'.tmps.size := hsz ▸ hdlt
    obtain ⟨q2, hq2⟩ := gw_two w.drew q q'
    rw [hd]
    refine ⟨q2, by rw [hq', hw, hq2], hdef, (size_put _ _ _).trans hsz, hinv.set hr hi, ?_, ?_, ?_⟩
    · intro t ht
      rw [slot_put a' d t v hdlt', if_neg]
      · exact s1 t ht
      · intro e
        subst e
        exact ht i hi (by rw [← hd]; simpa using congrArg (Option.bind · (·.dst)) ho)
    · intro j o' d' hj ho' hd' hl
      by_cases hij : i = j
      · subst hij
        have e1 : o' = o := Option.some.inj (ho'.symm.trans ho)
        subst e1
        have e2 : d' = d := Option.some.inj (hd'.symm.trans hd)
        subst e2
        rw [slot_put a' d' d' v hdlt', if_pos rfl]
        exact hF
      · have hne : d' ≠ d := fun e => by subst e; exact apart_of hap hi hj hij ho ho' (hd.trans hd'.symm)
        rw [getD_set_ne false hij] at hl
        rw [slot_put a' d d' v hdlt', if_neg hne, hq']
        exact mono _ _ _ _ (s2 j o' d' hj ho' hd' hl)
    · intro j oj k ok hj hoj hjx hlj hk hok hky hlk
      by_cases hij : i = j
      · subst hij
        obtain rfl : oj = o := Option.some.inj (hoj.symm.trans ho)
        obtain rfl : x = d := Option.some.inj (hjx.symm.trans hd)
        have hik : i ≠ k := fun e => by
          subst e
          obtain rfl : ok = oj := Option.some.inj (hok.symm.trans ho)
          exact hxy (Option.some.inj (hjx.symm.trans hky))
        rw [getD_set_ne false hik] at hlk
        rw [slot_put a' x x v hdlt', if_pos rfl, slot_put a' x y v hdlt', if_neg (fun e => hxy e.symm)]
        exact hRx rfl _ (s2 k ok y hk hok hky hlk)
      · rw [getD_set_ne false hij] at hlj
        have hxd : x ≠ d := fun e => by subst e; exact apart_of hap hi hj hij ho hoj (hd.trans hjx.symm)
        by_cases hik : i = k
        · subst hik
          obtain rfl : ok = o := Option.some.inj (hok.symm.trans ho)
          obtain rfl : y = d := Option.some.inj (hky.symm.trans hd)
          rw [slot_put a' y y v hdlt', if_pos rfl, slot_put a' y x v hdlt', if_neg hxd]
          exact hRy rfl _ (s2 j oj x hj hoj hjx hlj)
        · rw [getD_set_ne false hik] at hlk
          have hyd : y ≠ d := fun e => by subst e; exact apart_of hap hi hk hik ho hok (hd.trans hky.symm)
          rw [slot_put a' d x v hdlt', if_neg hxd, slot_put a' d y v hdlt', if_neg hyd, hq']
          exact monoR _ _ _ _ (s3 j oj k ok hj hoj hjx hlj hk hok hky hlk)
  have hstart : I (Array.replicate l.toArray.size false) a w.drew := by
    refine ⟨_, gw_self _, rfl, rfl, ⟨by simp, fun j oj _ hl => (by rw [getD_replicate_false] at hl; cases hl), fun t _ ht => getD_in (by simpa using ht) (getD_replicate_false _ _)⟩, fun _ _ => rfl, ?_, ?_⟩
    · intro i o d _ _ _ hl; rw [getD_replicate_false] at hl; cases hl
    · intro i o j o2 _ _ _ hl; rw [getD_replicate_false] at hl; cases hl
  refine wp_region_any hm ?_
  have hw0 : ({ w with drawn := w.drawn + 1 } : World) = w.drew := rfl
  rw [hw0]
  refine wpAny_head (n := n) (g := l.toArray.size - n) I (fun _ _ _ ⟨_, _, _, _, hinv, _⟩ => hinv) (fun listed inv h0 => head_waits hn hdep htail inv h0) ?_ ?_ _ _ _ _ ?_ hstart
  · -- a step
    intro listed a' w' i hI hi hr
    obtain ⟨_, o, ho, _⟩ := mem_ready.1 hr
    have hs := sees hI hi hr ho
    have hI' := hI
    obtain ⟨q, hw, hdef, hsz, hinv, s1, s2, s3⟩ := hI'
    obtain ⟨d, hd, hdlt⟩ := hdst i o hi ho
    have hmem : o ∈ l.take n := List.mem_iff_getElem?.2 ⟨i, by rw [List.getElem?_take, if_pos hi]; simpa using ho⟩
    obtain ⟨hxy, hat0⟩ := each o hmem
    have hat := hat0 d hd a' q hsz (by rw [← hw]; exact hs)
    unfold wpOp
    rw [ho]
    by_cases hwant : Region.wanted o (yielded l.toArray a'.tmps) = true
    · rw [if_pos hwant] at hat
      simp only [hwant, if_true]
      refine .inl ?_
      unfold Oper.wp
      rw [hw]
      generalize (execOp a'.eval o).run P (gw w.drew q) = res at hat
      cases res with
      | halt x w1 => exact hat.elim
      | ok nx w1 =>
        cases nx <;> simp only [relUpon] at hat <;> simp only [Oper.upon]
        case value u =>
          obtain ⟨⟨hF, h1, h2⟩, q1, rfl⟩ := hat
          exact after hI hi hr ho hd hdlt ⟨q1, by rw [hw]⟩ hF (fun e vy h => h1 e vy (hw ▸ h)) (fun e vy h => h2 e vy (hw ▸ h)) hxy
        case skip =>
          obtain ⟨rfl, hF, h1, h2⟩ := hat
          exact after hI hi hr ho hd hdlt ⟨_, by rw [hw]; exact gw_self _⟩ hF (fun e vy h => h1 e vy (hw ▸ h)) (fun e vy h => h2 e vy (hw ▸ h)) hxy
        case enter f args =>
          obtain ⟨rfl, hc⟩ := hat
          refine hc.mono fun e w2 he => ?_
          obtain ⟨u, rfl, ⟨hF, h1, h2⟩, q2, rfl⟩ := he
          exact after hI hi hr ho hd hdlt ⟨q2, by rw [hw]⟩ hF (fun e vy h => h1 e vy (hw ▸ h)) (fun e vy h => h2 e vy (hw ▸ h)) hxy
    · rw [if_neg hwant] at hat
      have hwant' : Region.wanted o (yielded l.toArray a'.tmps) = false := by simpa using hwant
      simp only [hwant', Bool.false_eq_true, if_false]
      exact after hI hi hr ho hd hdlt ⟨_, gw_self _⟩ (by rw [hw]; exact hat.1) (fun e vy h => by rw [hw]; exact hat.2.1 e vy (hw ▸ h)) (fun e vy h => by rw [hw]; exact hat.2.2 e vy (hw ▸ h)) hxy
  · -- the tail
    intro listed a' w' ⟨q, hw, hdef, hsz, hinv, s1, s2, s3⟩ h0 f hf
    have hl := headDone_eq hinv h0
    have hgd : ∀ i, i < n → listed.getD i false = true := by
      intro i hi
      rw [hl]
      have : i < l.length := by have := hn; simp at this; omega
      simp [headDone, this, hi]
    have hwl := tail a' q hdef hsz s1 (fun t => by
      by_cases ht : ∀ i, i < n → ((l[i]?).bind (·.dst)) ≠ some t
      · rw [s1 t ht]; exact start t ht q
      · have : ∃ i, i < n ∧ ((l[i]?).bind (·.dst)) = some t := by
          refine Classical.byContradiction fun h => ht fun i hi e => h ⟨i, hi, e⟩
        obtain ⟨i, hi, e⟩ := this
        cases ho : l[i]? with
        | none => rw [ho] at e; cases e
        | some o =>
          rw [ho] at e
          rw [← hw]
          exact s2 i o t hi (by simpa using ho) (by simpa using e) (hgd i hi)) (fun ⟨i, hi, e1⟩ ⟨j, hj, e2⟩ => by
        cases ho : l[i]? with
        | none => rw [ho] at e1; cases e1
        | some o =>
          cases ho2 : l[j]? with
          | none => rw [ho2] at e2; cases e2
          | some o2 =>
            rw [ho] at e1
            rw [ho2] at e2
            rw [← hw]
            exact s3 i o j o2 hi (by simpa using ho) (by simpa using e1) (hgd i hi) hj (by simpa using ho2) (by simpa using e2) (hgd j hj))
    rw [← hw] at hwl
    have hdl : (l.drop n).length = l.toArray.size - n := by simp
    have := wpAny_of_seq (md := .any) (Q' := Q) (l.drop n) n listed a' w' (fun j => by simp [List.getElem?_drop]) (by rw [hdl, hl]; exact hseq) hwl
    rw [hdl] at this
    have h2 := wpAny_more _ (f - (l.toArray.size - n)) _ _ _ this
    rwa [show l.toArray.size - n + (f - (l.toArray.size - n)) = f by omega] at h2
  · -- the fuel
    have : headLeft (Array.replicate l.toArray.size false) n ≤ n := by
      unfold headLeft
      exact Nat.le_trans (List.length_filter_le _ _) (by simp)
    omega


theorem relUpon_mono {P : Program} {w : World} {F G : World → Value → Prop} (h : ∀ w v, F w v → G w v) : ∀ {r : Result Next}, relUpon P w F r → relUpon P w G r
  | .ok (.value _) _, ⟨h1, h2⟩ => ⟨h _ _ h1, h2⟩
  | .ok .skip _, ⟨h1, h2⟩ => ⟨h1, h _ _ h2⟩
  | .ok (.enter _ _) _, ⟨h1, h2⟩ => ⟨h1, h2.mono fun _ _ ⟨u, h3, h4, h5⟩ => ⟨u, h3, h _ _ h4, h5⟩⟩
theorem relAt2_other {P : Program} {ops : Array Oper} {W : World} {size : Nat} {F : Tmp → World → Value → Prop} {x y : Tmp} {R : World → Value → Value → Prop} {o : Oper} {d : Tmp} (hd : o.dst = some d) (hxy : x ≠ y) (hx : d ≠ x) (hy : d ≠ y) (h : relAt P ops W size F o) : relAt2 P ops W size F x y R o := by
  refine ⟨hxy, fun d' hd' b p hb hs => ?_⟩
  obtain rfl : d = d' := Option.some.inj (hd.symm.trans hd')
  have h1 := h d hd b p hb hs
  by_cases hw : Region.wanted o (yielded ops b.tmps) = true
  · rw [if_pos hw] at h1 ⊢
    exact relUpon_mono (fun w v hv => ⟨hv, fun e => absurd e hx, fun e => absurd e hy⟩) h1
  · rw [if_neg hw] at h1 ⊢
    exact ⟨h1, fun e => absurd e hx, fun e => absurd e hy⟩
theorem relAt2_seen {P : Program} {ops : Array Oper} {W : World} {size : Nat} {F : Tmp → World → Value → Prop} {x y : Tmp} {R : World → Value → Value → Prop} {o : Oper} (xs : List Tmp) {d : Tmp} (hxy : x ≠ y) (hd : o.dst = some d) (hg : o.guard = none) (hx : o.looksAt ops = xs)
    (h : ∀ (b : Act) (p : Regrown), allSeen F (gw W p) b xs → relUpon P (gw W p) (fun w' v => F d w' v ∧ (d = x → ∀ vy, F y (gw W p) vy → R w' v vy) ∧ (d = y → ∀ vx, F x (gw W p) vx → R w' vx v)) ((execOp b.eval o).run P (gw W p))) : relAt2 P ops W size F x y R o := by
  refine ⟨hxy, fun d' hd' b p hb hs => ?_⟩
  obtain rfl : d = d' := Option.some.inj (hd.symm.trans hd')
  rw [if_pos (by simp [Region.wanted, hg])]
  exact h b p (allSeen_of xs (by rw [← hx]; exact hs))
def relAll2 (P : Program) (ops : Array Oper) (W : World) (size : Nat) (F : Tmp → World → Value → Prop) (x y : Tmp) (R : World → Value → Value → Prop) : List Oper → Prop
  | [] => True
  | o :: r => relAt2 P ops W size F x y R o ∧ relAll2 P ops W size F x y R r
theorem relAll2_mem {P : Program} {ops : Array Oper} {W : World} {size : Nat} {F : Tmp → World → Value → Prop} {x y : Tmp} {R : World → Value → Value → Prop} : ∀ {l : List Oper}, relAll2 P ops W size F x y R l → ∀ o ∈ l, relAt2 P ops W size F x y R o
  | [], _, _, ho => by cases ho
  | z :: r, ⟨h1, h2⟩, o, ho => (List.mem_cons.1 ho).elim (fun e => e ▸ h1) (fun h' => relAll2_mem h2 o h')
def lookL : List Tmp → List Value → Tmp → Value
  | d :: ds, v :: vs, x => if x = d then v else lookL ds vs x
  | _, _, _ => undef
theorem lookL_map (f : Tmp → Value) {x : Tmp} : ∀ {ds : List Tmp}, x ∈ ds → lookL ds (ds.map f) x = f x
  | d :: ds, h => by
    simp only [List.map_cons, lookL]
    by_cases e : x = d
    · rw [if_pos e, e]
    · rw [if_neg e]
      exact lookL_map f ((List.mem_cons.1 h).resolve_left e)
theorem wp_region_relP2 {P : Program} {id : Nat} {Q : Exit → Act → World → Prop} {a : Act} {w : World} {l lt lh : List Oper} (n : Nat) (ds : List Tmp) (Gs : List (World → Value → Prop)) (x y : Tmp) (R : World → Value → Value → Prop) (hm : P.follows .mixedOrders = true) (hB : relB l.toArray n a.tmps.size = true) (hd : dstsOf (l.take n) = ds)
    (hh : l.take n = lh) (ht : l.drop n = lt) (hnd : ds.Nodup) (hlen : ds.length = Gs.length) (hlt : ds.all (fun d => decide (d < a.tmps.size)) = true) (hx : x ∈ ds) (hy : y ∈ ds) (mono : allMono Gs) (monoR : ∀ w v u q, R w v u → R (gw w q) v u) (each : relAll2 P l.toArray w.drew a.tmps.size (FofL ds Gs a) x y R lh)
    (tail : ∀ (vs : List Value) (p : Regrown), vs.length = ds.length → relVals (gw w.drew p) Gs vs → R (gw w.drew p) (lookL ds vs x) (lookL ds vs y) → wpList P l.toArray Q lt (putL ds vs a) (gw w.drew p)) :
    (Code.region id l.toArray true).wp P Q a w := by
  subst hh
  have hmem : ∀ t, t ∈ ds ↔ ∃ i, i < n ∧ ((l[i]?).bind (·.dst)) = some t := by
    intro t
    rw [← hd, mem_dstsOf]
    constructor
    · rintro ⟨o, ho, e⟩
      obtain ⟨i, hi⟩ := List.mem_iff_getElem?.1 ho
      rw [List.getElem?_take] at hi
      split at hi
      · rename_i hlt
        exact ⟨i, hlt, by rw [hi]; simpa using e⟩
      · cases hi
    · rintro ⟨i, hi, e⟩
      cases ho : l[i]? with
      | none => rw [ho] at e; cases e
      | some o =>
        rw [ho] at e
        exact ⟨o, List.mem_iff_getElem?.2 ⟨i, by rw [List.getElem?_take, if_pos hi]; exact ho⟩, by simpa using e⟩
  refine wp_region_rel2 n (FofL ds Gs a) hm hB ht (FofL_mono ds Gs (allMono_mem mono)) (fun t h p => FofL_out ds Gs t _ (fun h' => ?_)) x y R monoR (relAll2_mem each) (fun b p h1 h2 h3 h4 h5 => ?_)
  · obtain ⟨i, hi, e⟩ := (hmem t).1 h'
    exact h i hi e
  · have hout : ∀ t, t ∉ ds → slot b t = slot a t := fun t h => h3 t (fun i hi e => h ((hmem t).2 ⟨i, hi, e⟩))
    have hb : b = putL ds (ds.map (slot b)) a := by
      refine act_ext ?_ ?_ fun t => ?_
      · rw [putL_size]; exact h2
      · rw [putL_defers]; exact h1
      · rw [putL_slot _ _ _ (fun d hd => by simpa using List.all_eq_true.1 hlt d hd)]
        by_cases h : t ∈ ds
        · rw [if_pos h]
        · rw [if_neg h]; exact hout t h
    have hR := h5 ((hmem x).1 hx) ((hmem y).1 hy)
    rw [hb]
    refine tail _ p (by simp) (relVals_of (slot b) ds Gs hlen hnd fun t _ => h4 t) ?_
    rw [lookL_map _ hx, lookL_map _ hy]
    exact hR

end Go.Proofs.Ytmgiojkdcpolfaa
