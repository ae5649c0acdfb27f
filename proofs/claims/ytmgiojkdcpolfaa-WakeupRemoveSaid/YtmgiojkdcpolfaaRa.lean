/- As wp_region_relP; an operation may write into what nobody looks at behind it. -/
import Derived.Test.YtmgiojkdcpolfaaRp
namespace Go.Proofs.Ytmgiojkdcpolfaa
open Go.RowKit Go.Sort

def uponX (P : Program) (w : World) (F : World → Value → Prop) : Result Next → Prop
  | .ok (.value u) w' => F w' u
  | .ok .skip w' => w' = w ∧ F w undef
  | .ok (.enter f args) w' => w' = w ∧ Calls P f args w fun e w'' => ∃ u, e = .returned u ∧ F w'' u
  | _ => False
/-- What an operation yields; G holds of the world on; what the others have yielded stays, but for what is dead behind it. -/
def relAtX (P : Program) (ops : Array Oper) (G : World → Prop) (size : Nat) (F : Tmp → World → Value → Prop) (dead later : Tmp → List Tmp) (o : Oper) : Prop :=
  ∀ d, o.dst = some d → ∀ (b : Act) (W : World), G W → b.tmps.size = size → (∀ x ∈ o.looksAt ops, F x W (slot b x)) →
    if Region.wanted o (yielded ops b.tmps) = true then uponX P W (fun w' v => G w' ∧ F d w' v ∧ ∀ t u, t ≠ d → t ∉ dead d → t ∉ later d → F t W u → F t w' u) ((execOp b.eval o).run P W) else F d W undef
def deadB (ops : Array Oper) (n : Nat) (dead : Tmp → List Tmp) : Bool :=
  (List.range n).all fun i => match ops[i]? with
    | none => false
    | some o => (o.looksAt ops).all fun x => (List.range n).all fun j => decide (i = j) || (match ops[j]? with | none => true | some oj => match oj.dst with | none => true | some e => !(dead e).contains x || oj.after.any (fun z => Region.binds .any z && decide (z.on = i)))
/-- What comes behind an operation, by a need that binds. -/
def laterB (ops : Array Oper) (n : Nat) (later : Tmp → List Tmp) : Bool :=
  (List.range n).all fun i => match (ops[i]?).bind (·.dst) with
    | none => true
    | some d => (List.range n).all fun j => match ops[j]? with
      | none => true
      | some oj => match oj.dst with
        | none => true
        | some e => !(later d).contains e || oj.after.any (fun x => Region.binds .any x && decide (x.on = i))
theorem laterB_at {ops : Array Oper} {n : Nat} {later : Tmp → List Tmp} (h : laterB ops n later = true) {i j : Nat} {o oj : Oper} {d e : Tmp} (hi : i < n) (hj : j < n) (ho : ops[i]? = some o) (hd : o.dst = some d) (hoj : ops[j]? = some oj) (he : oj.dst = some e) (hx : e ∈ later d) : ∃ x ∈ oj.after, Region.binds .any x = true ∧ x.on = i := by
  have h1 := List.all_eq_true.1 h i (List.mem_range.2 hi)
  rw [ho] at h1
  simp only [Option.bind_some, hd] at h1
  have h2 := List.all_eq_true.1 h1 j (List.mem_range.2 hj)
  rw [hoj] at h2
  simp only [he, Bool.or_eq_true, Bool.not_eq_true'] at h2
  rcases h2 with h2 | h2
  · simp [hx] at h2
  · obtain ⟨k, hk, h3⟩ := Array.any_eq_true.1 h2
    simp only [Bool.and_eq_true, decide_eq_true_eq] at h3
    exact ⟨oj.after[k], Array.getElem_mem hk, h3.1, h3.2⟩
theorem deadB_at {ops : Array Oper} {n : Nat} {dead : Tmp → List Tmp} (h : deadB ops n dead = true) {i j : Nat} {o oj : Oper} {e x : Tmp} (hi : i < n) (hj : j < n) (hne : i ≠ j) (ho : ops[i]? = some o) (hoj : ops[j]? = some oj) (he : oj.dst = some e) (hx : x ∈ o.looksAt ops) : x ∉ dead e ∨ ∃ z ∈ oj.after, Region.binds .any z = true ∧ z.on = i := by
  have h1 := List.all_eq_true.1 h i (List.mem_range.2 hi)
  rw [ho] at h1
  have h2 := List.all_eq_true.1 (List.all_eq_true.1 h1 x hx) j (List.mem_range.2 hj)
  rw [hoj] at h2
  simp only [he, Bool.or_eq_true, Bool.not_eq_true', decide_eq_true_eq, hne, false_or] at h2
  rcases h2 with h2 | h2
  · exact .inl (by simpa using h2)
  · obtain ⟨k, hk, h3⟩ := Array.any_eq_true.1 h2
    simp only [Bool.and_eq_true, decide_eq_true_eq] at h3
    exact .inr ⟨oj.after[k], Array.getElem_mem hk, h3.1, h3.2⟩

theorem wp_region_relX {P : Program} {id : Nat} {Q : Exit → Act → World → Prop} {a : Act} {w : World} {l lt : List Oper} (n : Nat) (F : Tmp → World → Value → Prop) (G : World → Prop) (dead later : Tmp → List Tmp) (hm : P.follows .mixedOrders = true) (hB : relB l.toArray n a.tmps.size = true) (hD : deadB l.toArray n dead = true) (hL : laterB l.toArray n later = true) (ht : l.drop n = lt)
    (hG : G w.drew)
    (start : ∀ t, (∀ i, i < n → ((l[i]?).bind (·.dst)) ≠ some t) → ∀ W, G W → F t W (slot a t))
    (each : ∀ o ∈ l.take n, relAtX P l.toArray G a.tmps.size F dead later o)
    (tail : ∀ (b : Act) (W : World), G W → b.defers = a.defers → b.tmps.size = a.tmps.size → (∀ t, (∀ i, i < n → ((l[i]?).bind (·.dst)) ≠ some t) → slot b t = slot a t) → (∀ t, (∀ i e, i < n → ((l[i]?).bind (·.dst)) = some e → t ∉ dead e) → F t W (slot b t)) → wpList P l.toArray Q lt b W) :
    (Code.region id l.toArray true).wp P Q a w := by
  subst ht
  have hB0 := hB
  simp only [relB, Bool.and_eq_true, decide_eq_true_eq, Bool.or_eq_true] at hB
  obtain ⟨⟨⟨⟨⟨⟨hlook, hsel⟩, hap⟩, hn⟩, hdep⟩, htail⟩, hseq⟩ := hB
  have hsel' := Region.noSelect_spec hsel
  have hdst : ∀ i o, i < n → l.toArray[i]? = some o → ∃ d, o.dst = some d ∧ d < a.tmps.size := fun i o hi ho => by
    have := List.all_eq_true.1 hlook i (List.mem_range.2 hi)
    rw [ho] at this
    simp only [Bool.and_eq_true] at this
    cases hd : o.dst with
    | none => simp [hd] at this
    | some d => simp [hd] at this; exact ⟨d, rfl, this.1⟩
  let I : Array Bool → Act → World → Prop := fun listed a' w' => G w' ∧ a'.defers = a.defers ∧ a'.tmps.size = a.tmps.size ∧ HeadInv .any l.toArray n listed ∧
    (∀ t, (∀ i, i < n → ((l[i]?).bind (·.dst)) ≠ some t) → slot a' t = slot a t) ∧
    (∀ i o d, i < n → l.toArray[i]? = some o → o.dst = some d → listed.getD i false = true → (∀ j oj e, j < n → l.toArray[j]? = some oj → oj.dst = some e → listed.getD j false = true → d ∉ dead e) → F d w' (slot a' d))
  have notl : ∀ {listed : Array Bool} {i : Nat}, i ∈ Region.ready .any l.toArray listed → listed.getD i false = false := by
    intro listed i hr
    exact getD_both (mem_ready.1 hr).1
  have sees : ∀ {listed : Array Bool} {a' : Act} {w' : World} {i : Nat} {o : Oper}, I listed a' w' → i < n → i ∈ Region.ready .any l.toArray listed → l.toArray[i]? = some o → ∀ x ∈ o.looksAt l.toArray, F x w' (slot a' x) := by
    intro listed a' w' i o ⟨hg, _, _, hinv, s1, s2⟩ hi hr ho x hx
    have hl := List.all_eq_true.1 hlook i (List.mem_range.2 hi)
    rw [ho] at hl
    simp only [Bool.and_eq_true] at hl
    have hl' := List.all_eq_true.1 hl.2 x hx
    simp only [Bool.or_eq_true, Bool.not_eq_true'] at hl'
    rcases hl' with hno | hxq
    · have hno' : ∀ i, i < n → ((l[i]?).bind (·.dst)) ≠ some x := fun j hj e => by
        have := List.any_eq_false.1 hno j (List.mem_range.2 hj)
        simp [e] at this
      rw [s1 x hno']
      exact start x hno' w' hg
    · obtain ⟨k, hk, he2⟩ := Array.any_eq_true.1 hxq
      simp only [Bool.and_eq_true, beq_iff_eq, decide_eq_true_eq] at he2
      obtain ⟨⟨hb, hdx⟩, hen⟩ := he2
      obtain ⟨_, o2, ho2, hall⟩ := mem_ready.1 hr
      have : o2 = o := Option.some.inj (ho2.symm.trans ho)
      subst this
      have hle := hall _ (Array.getElem_mem hk) hb
      cases hoe : (l.toArray)[o2.after[k].on]? with
      | none => rw [hoe] at hdx; cases hdx
      | some oe =>
        rw [hoe] at hdx
        refine s2 _ oe x hen hoe (by simpa using hdx) hle fun j oj e hj hoj he hlj => ?_
        have hij : i ≠ j := fun e => by
          subst e
          have := notl hr
          rw [this] at hlj; cases hlj
        rcases deadB_at hD hi hj hij ho hoj he hx with h | ⟨z, hz, hzb, hzi⟩
        · exact h
        · have := hinv.closed j oj hoj hlj z hz hzb
          rw [hzi, notl hr] at this
          cases this
  have after : ∀ {listed : Array Bool} {a' : Act} {w' w'' : World} {i : Nat} {o : Oper} {d : Tmp} {v : Value}, I listed a' w' → i < n → i ∈ Region.ready .any l.toArray listed → l.toArray[i]? = some o → o.dst = some d → d < a.tmps.size →
      G w'' → F d w'' v → (∀ t u, t ≠ d → t ∉ dead d → t ∉ later d → F t w' u → F t w'' u) → I (listed.setIfInBounds i true) (a'.put o.dst v) w'' := by
    intro listed a' w' w'' i o d v ⟨hg, hdef, hsz, hinv, s1, s2⟩ hi hr ho hd hdlt hg' hF hkeep
    have hdlt' : d < a'.tmps.size := hsz ▸ hdlt
    rw [hd]
    refine ⟨hg', hdef, (size_put _ _ _).trans hsz, hinv.set hr hi, ?_, ?_⟩
    · intro t ht
      rw [slot_put a' d t v hdlt', if_neg]
      · exact s1 t ht
      · intro e
        subst e
        exact ht i hi (by rw [← hd]; simpa using congrArg (Option.bind · (·.dst)) ho)
    · intro j o' d' hj ho' hd' hl hlive
      by_cases hij : i = j
      · subst hij
        have e1 : o' = o := Option.some.inj (ho'.symm.trans ho)
        subst e1
        have e2 : d' = d := Option.some.inj (hd'.symm.trans hd)
        subst e2
        rw [slot_put a' d' d' v hdlt', if_pos rfl]
        exact hF
      · have hne : d' ≠ d := fun e => by subst e; exact apart_of hap hi hj hij ho ho' (hd.trans hd'.symm)
        rw [getD_set_ne false hij] at hl
        rw [slot_put a' d d' v hdlt', if_neg hne]
        have hili : (listed.setIfInBounds i true).getD i false = true := by
          have hsize : i < listed.size := by
            have h := (mem_ready.1 hr).1
            simp only [Array.getD_eq_getD_getElem?] at h
            cases hh : listed[i]? with
            | none => rw [hh] at h; cases h
            | some v => exact (Array.getElem?_eq_some_iff.1 hh).1
          simp [Array.getD_eq_getD_getElem?, hsize]
        refine hkeep d' _ hne (hlive i o d hi ho hd hili) (fun hlat => ?_) (s2 j o' d' hj ho' hd' hl fun k ok e hk hok he hlk => hlive k ok e hk hok he ?_)
        · obtain ⟨x, hx, hxb, hxi⟩ := laterB_at hL hi hj ho hd ho' hd' hlat
          have := hinv.closed j o' ho' hl x hx hxb
          rw [hxi, notl hr] at this
          cases this
        · by_cases hik : i = k
          · subst hik; exact hili
          · rw [getD_set_ne false hik]; exact hlk
  have hstart : I (Array.replicate l.toArray.size false) a w.drew := by
    refine ⟨hG, rfl, rfl, ⟨by simp, fun j oj _ hl => (by rw [getD_replicate_false] at hl; cases hl), fun t _ ht => getD_in (by simpa using ht) (getD_replicate_false _ _)⟩, fun _ _ => rfl, ?_⟩
    intro i o d _ _ _ hl; rw [getD_replicate_false] at hl; cases hl
  refine wp_region_any hm ?_
  have hw0 : ({ w with drawn := w.drawn + 1 } : World) = w.drew := rfl
  rw [hw0]
  refine wpAny_head (n := n) (g := l.toArray.size - n) I (fun _ _ _ ⟨_, _, _, hinv, _⟩ => hinv) (fun listed inv h0 => head_waits hn hdep htail inv h0) ?_ ?_ _ _ _ _ ?_ hstart
  · -- a step
    intro listed a' w' i hI hi hr
    obtain ⟨_, o, ho, _⟩ := mem_ready.1 hr
    have hs := sees hI hi hr ho
    have hI' := hI
    obtain ⟨hg, hdef, hsz, hinv, s1, s2⟩ := hI'
    obtain ⟨d, hd, hdlt⟩ := hdst i o hi ho
    have hmem : o ∈ l.take n := List.mem_iff_getElem?.2 ⟨i, by rw [List.getElem?_take, if_pos hi]; simpa using ho⟩
    have hat := each o hmem d hd a' w' hg hsz hs
    unfold wpOp
    rw [ho]
    by_cases hwant : Region.wanted o (yielded l.toArray a'.tmps) = true
    · rw [if_pos hwant] at hat
      simp only [hwant, if_true]
      refine .inl ?_
      unfold Oper.wp
      generalize (execOp a'.eval o).run P w' = res at hat
      cases res with
      | halt x w1 => exact hat.elim
      | ok nx w1 =>
        cases nx <;> simp only [uponX] at hat <;> simp only [Oper.upon]
        case value u =>
          obtain ⟨hg1, hF, hk⟩ := hat
          exact after hI hi hr ho hd hdlt hg1 hF hk
        case skip =>
          obtain ⟨rfl, hg1, hF, hk⟩ := hat
          exact after hI hi hr ho hd hdlt hg1 hF hk
        case enter f args =>
          obtain ⟨rfl, hc⟩ := hat
          refine hc.mono fun e w2 he => ?_
          obtain ⟨u, rfl, hg1, hF, hk⟩ := he
          exact after hI hi hr ho hd hdlt hg1 hF hk
    · rw [if_neg hwant] at hat
      have hwant' : Region.wanted o (yielded l.toArray a'.tmps) = false := by simpa using hwant
      simp only [hwant', Bool.false_eq_true, if_false]
      exact after hI hi hr ho hd hdlt hg hat fun _ _ _ _ _ h => h
  · -- the tail
    intro listed a' w' ⟨hg, hdef, hsz, hinv, s1, s2⟩ h0 f hf
    have hl := headDone_eq hinv h0
    have hgd : ∀ i, i < n → listed.getD i false = true := by
      intro i hi
      rw [hl]
      have : i < l.length := by have := hn; simp at this; omega
      simp [headDone, this, hi]
    have hwl := tail a' w' hg hdef hsz s1 (fun t hlive => by
      by_cases ht : ∀ i, i < n → ((l[i]?).bind (·.dst)) ≠ some t
      · rw [s1 t ht]; exact start t ht w' hg
      · have : ∃ i, i < n ∧ ((l[i]?).bind (·.dst)) = some t := by
          refine Classical.byContradiction fun h => ht fun i hi e => h ⟨i, hi, e⟩
        obtain ⟨i, hi, e⟩ := this
        cases ho : l[i]? with
        | none => rw [ho] at e; cases e
        | some o =>
          rw [ho] at e
          exact s2 i o t hi (by simpa using ho) (by simpa using e) (hgd i hi) fun j oj e' hj hoj he' _ => hlive j e' hj (by
            have : l[j]? = some oj := by simpa using hoj
            rw [this]; simpa using he'))
    have hdl : (l.drop n).length = l.toArray.size - n := by simp
    have := wpAny_of_seq (md := .any) (Q' := Q) (l.drop n) n listed a' w' (fun j => by simp [List.getElem?_drop]) (by rw [hdl, hl]; exact hseq) hwl
    rw [hdl] at this
    have h2 := wpAny_more _ (f - (l.toArray.size - n)) _ _ _ this
    rwa [show l.toArray.size - n + (f - (l.toArray.size - n)) = f by omega] at h2
  · -- the fuel
    have : headLeft (Array.replicate l.toArray.size false) n ≤ n := by
      unfold headLeft
      exact Nat.le_trans (List.length_filter_le _ _) (by simp)
    omega

/-! ### One predicate an operation -/
def relAllX (P : Program) (ops : Array Oper) (G : World → Prop) (size : Nat) (F : Tmp → World → Value → Prop) (dead later : Tmp → List Tmp) : List Oper → Prop
  | [] => True
  | o :: r => relAtX P ops G size F dead later o ∧ relAllX P ops G size F dead later r
theorem relAllX_mem {P : Program} {ops : Array Oper} {G : World → Prop} {size : Nat} {F : Tmp → World → Value → Prop} {dead later : Tmp → List Tmp} : ∀ {l : List Oper}, relAllX P ops G size F dead later l → ∀ o ∈ l, relAtX P ops G size F dead later o
  | [], _, _, ho => by cases ho
  | x :: r, ⟨h1, h2⟩, o, ho => (List.mem_cons.1 ho).elim (fun e => e ▸ h1) (fun h' => relAllX_mem h2 o h')
/-- What each operation has yielded, but for the dead. -/
def relValsD (w : World) (dl : List Tmp) : List Tmp → List (World → Value → Prop) → List Value → Prop
  | d :: ds, G :: Gs, v :: vs => (if dl.contains d = true then True else G w v) ∧ relValsD w dl ds Gs vs
  | [], [], [] => True
  | _, _, _ => False
theorem relValsD_of {w : World} {a : Act} {dl : List Tmp} (g : Tmp → Value) : ∀ (ds : List Tmp) (Gs : List (World → Value → Prop)), ds.length = Gs.length → ds.Nodup → (∀ t ∈ ds, t ∉ dl → FofL ds Gs a t w (g t)) → relValsD w dl ds Gs (ds.map g)
  | [], [], _, _, _ => trivial
  | d :: ds, G :: Gs, hl, hn, h => by
    refine ⟨?_, relValsD_of (a := a) g ds Gs (by simpa using hl) (List.nodup_cons.1 hn).2 fun t ht hd => ?_⟩
    · by_cases hd : d ∈ dl
      · rw [if_pos (by simpa using hd)]; trivial
      · have h0 := h d (List.mem_cons.2 (.inl rfl)) hd
        simp only [FofL, if_true] at h0
        split
        · trivial
        · exact h0
    · have := h t (List.mem_cons.2 (.inr ht)) hd
      have hne : t ≠ d := fun e => (List.nodup_cons.1 hn).1 (e ▸ ht)
      simpa only [FofL, if_neg hne] using this

/-- sp: the operation that writes; dl: what nobody may look at behind it. -/
theorem wp_region_relPX {P : Program} {id : Nat} {Q : Exit → Act → World → Prop} {a : Act} {w : World} {l lt lh : List Oper} (n : Nat) (ds : List Tmp) (Gs : List (World → Value → Prop)) (G : World → Prop) (sp : Tmp) (dl ll : List Tmp) (hm : P.follows .mixedOrders = true) (hB : relB l.toArray n a.tmps.size = true)
    (hD : deadB l.toArray n (fun d => if d = sp then dl else []) = true) (hL : laterB l.toArray n (fun d => if d = sp then ll else []) = true) (hd : dstsOf (l.take n) = ds)
    (hh : l.take n = lh) (ht : l.drop n = lt) (hnd : ds.Nodup) (hlen : ds.length = Gs.length) (hlt : ds.all (fun d => decide (d < a.tmps.size)) = true) (hG : G w.drew)
    (each : relAllX P l.toArray G a.tmps.size (FofL ds Gs a) (fun d => if d = sp then dl else []) (fun d => if d = sp then ll else []) lh)
    (tail : ∀ (vs : List Value) (W : World), vs.length = ds.length → G W → relValsD W dl ds Gs vs → wpList P l.toArray Q lt (putL ds vs a) W) :
    (Code.region id l.toArray true).wp P Q a w := by
  subst hh
  have hmem : ∀ t, t ∈ ds ↔ ∃ i, i < n ∧ ((l[i]?).bind (·.dst)) = some t := by
    intro t
    rw [← hd, mem_dstsOf]
    constructor
    · rintro ⟨o, ho, e⟩
      obtain ⟨i, hi⟩ := List.mem_iff_getElem?.1 ho
      rw [List.getElem?_take] at hi
      split at hi
      · rename_i hlt
        exact ⟨i, hlt, by rw [hi]; simpa using e⟩
      · cases hi
    · rintro ⟨i, hi, e⟩
      cases ho : l[i]? with
      | none => rw [ho] at e; cases e
      | some o =>
        rw [ho] at e
        exact ⟨o, List.mem_iff_getElem?.2 ⟨i, by rw [List.getElem?_take, if_pos hi]; exact ho⟩, by simpa using e⟩
  refine wp_region_relX n (FofL ds Gs a) G (fun d => if d = sp then dl else []) (fun d => if d = sp then ll else []) hm hB hD hL ht hG (fun t h W _ => FofL_out ds Gs t W (fun h' => ?_)) (relAllX_mem each) (fun b W hg hdf hsz hout hF => ?_)
  · obtain ⟨i, hi, e⟩ := (hmem t).1 h'
    exact h i hi e
  · have hb : b = putL ds (ds.map (slot b)) a := by
      refine act_ext ?_ ?_ fun t => ?_
      · rw [putL_size]; exact hsz
      · rw [putL_defers]; exact hdf
      · rw [putL_slot _ _ _ (fun d hd => by simpa using List.all_eq_true.1 hlt d hd)]
        by_cases h : t ∈ ds
        · rw [if_pos h]
        · rw [if_neg h]; exact hout t fun i hi e => h ((hmem t).2 ⟨i, hi, e⟩)
    rw [hb]
    refine tail _ W (by simp) hg (relValsD_of (a := a) (slot b) ds Gs hlen hnd fun t _ hdl => hF t fun i e _ _ => ?_)
    show t ∉ (if e = sp then dl else [])
    split
    · exact hdl
    · simp

def allKeep (dl : List Tmp) (W V : World) : List Tmp → List (World → Value → Prop) → Prop
  | d :: ds, G :: Gs => (d ∈ dl ∨ ∀ v, G W v → G V v) ∧ allKeep dl W V ds Gs
  | _, _ => True
theorem FofL_keep {a : Act} {dl : List Tmp} {W V : World} : ∀ (ds : List Tmp) (Gs : List (World → Value → Prop)), allKeep dl W V ds Gs → ∀ t u, t ∉ dl → FofL ds Gs a t W u → FofL ds Gs a t V u
  | [], _, _, _, _, _, h => h
  | _ :: _, [], _, _, _, _, h => h
  | d :: ds, G :: Gs, hk, t, u, ht, h => by
    simp only [FofL] at h ⊢
    by_cases e : t = d
    · rw [if_pos e] at h ⊢
      rcases hk.1 with h1 | h1
      · exact absurd (e ▸ h1) ht
      · exact h1 _ h
    · rw [if_neg e] at h ⊢
      exact FofL_keep ds Gs hk.2 t u ht h
/-- An operation that only reads and makes memory of its own. -/
theorem relAtX_gw {P : Program} {ops : Array Oper} {G : World → Prop} {size : Nat} {F : Tmp → World → Value → Prop} {dead later : Tmp → List Tmp} {o : Oper} (hGm : ∀ W q, G W → G (gw W q)) (hmono : ∀ t w v q, F t w v → F t (gw w q) v) (xs : List Tmp) {d : Tmp} (hd : o.dst = some d) (hg : o.guard = none) (hx : o.looksAt ops = xs)
    (h : ∀ (b : Act) (W : World), G W → allSeen F W b xs → relUpon P W (F d) ((execOp b.eval o).run P W)) : relAtX P ops G size F dead later o := by
  intro d' hd' b W hG _ hs
  have : d = d' := Option.some.inj (hd.symm.trans hd')
  subst this
  rw [if_pos (by simp [Region.wanted, hg])]
  have h1 := h b W hG (allSeen_of xs (by rw [← hx]; exact hs))
  generalize (execOp b.eval o).run P W = res at h1
  cases res with
  | halt x w1 => exact h1.elim
  | ok nx w1 =>
    cases nx <;> simp only [relUpon] at h1 <;> simp only [uponX]
    case value u =>
      obtain ⟨hF, q, rfl⟩ := h1
      exact ⟨hGm _ _ hG, hF, fun t u _ _ _ ht => hmono _ _ _ _ ht⟩
    case skip =>
      obtain ⟨rfl, hF⟩ := h1
      exact ⟨rfl, hG, hF, fun t u _ _ _ ht => ht⟩
    case enter f args =>
      obtain ⟨rfl, hc⟩ := h1
      refine ⟨rfl, hc.mono fun e w2 he => ?_⟩
      obtain ⟨u, rfl, hF, q, rfl⟩ := he
      exact ⟨u, rfl, hGm _ _ hG, hF, fun t u _ _ _ ht => hmono _ _ _ _ ht⟩
/-- The operation that writes. -/
theorem relAtX_own {P : Program} {ops : Array Oper} {G : World → Prop} {size : Nat} {F : Tmp → World → Value → Prop} {dead later : Tmp → List Tmp} {o : Oper} (xs : List Tmp) {d : Tmp} (hd : o.dst = some d) (hg : o.guard = none) (hx : o.looksAt ops = xs)
    (h : ∀ (b : Act) (W : World), G W → allSeen F W b xs → uponX P W (fun w' v => G w' ∧ F d w' v ∧ ∀ t u, t ≠ d → t ∉ dead d → t ∉ later d → F t W u → F t w' u) ((execOp b.eval o).run P W)) : relAtX P ops G size F dead later o := by
  intro d' hd' b W hG _ hs
  have : d = d' := Option.some.inj (hd.symm.trans hd')
  subst this
  rw [if_pos (by simp [Region.wanted, hg])]
  exact h b W hG (allSeen_of xs (by rw [← hx]; exact hs))
end Go.Proofs.Ytmgiojkdcpolfaa
