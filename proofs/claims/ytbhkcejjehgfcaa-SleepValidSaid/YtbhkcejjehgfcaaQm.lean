/- A region that draws its order: operations that read or call what makes memory of its own ('quiet'), operations that lay one new block ('makers'), and a tail that waits for all of these: walked once. -/
import Derived.Test.YtbhkcejjehgfcaaInv
import Derived.StillTail
namespace Go.Proofs.Ytbhkcejjehgfcaa
open Go.RowKit Go.Sort

def gqUpon (P : Program) (w : World) (v : Value) : Result Next → Prop
  | .ok (.value u) w' => w' = w ∧ u = v
  | .ok .skip w' => w' = w ∧ v = undef
  | .ok (.enter f args) w' => w' = w ∧ Calls P f args w (Gives v w)
  | _ => False
/-- In world w the operation yields v, and no old block turns. -/
def gqAt (P : Program) (o : Oper) (a : Act) (w : World) (v : Value) : Prop := gqUpon P w v ((execOp a.eval o).run P w)
def gquiet (P : Program) (o : Oper) (a : Act) (W : World) (next : Act → Prop) : Prop := ∃ v, (∀ p : Regrown, gqAt P o a (gw W p) v) ∧ next (a.put o.dst v)
/-- The quiet operations, one behind the other. -/
def wpG (P : Program) (ops : Array Oper) (W : World) (R : Act → Prop) : List Oper → Act → Prop
  | [], a => R a
  | o :: rest, a => if Region.wanted o (yielded ops a.tmps) then gquiet P o a W (wpG P ops W R rest) else wpG P ops W R rest (a.put o.dst undef)
attribute [go_sem] gquiet gqAt gqUpon
theorem wpG_nil {P : Program} {ops : Array Oper} {W : World} {R : Act → Prop} {a : Act} (h : R a) : wpG P ops W R [] a := h
theorem wpG_step {P : Program} {ops : Array Oper} {W : World} {R : Act → Prop} {a : Act} {o : Oper} {rest : List Oper}
    (h : ∀ K : Act → Prop, (∀ a, wpG P ops W R rest a → K a) → if Region.wanted o (yielded ops a.tmps) then gquiet P o a W K else K (a.put o.dst undef)) : wpG P ops W R (o :: rest) a := h _ (fun _ h => h)
/-- The makers, at the frame that the quiet ones leave; then the tail, for all blocks that they may have laid. -/
def makes (P : Program) (o : Oper) (a : Act) (w : World) (f : Nat → Value) (ob : Obj) : Prop := (execOp a.eval o).run P w = .ok (.value (f w.heap.size)) (w.alloc ob)
def allMake (P : Program) (ops : Array Oper) (W : World) (A : Act) : List Oper → List ((Nat → Value) × Obj) → Prop
  | [], [] => True
  | o :: r, (f, ob) :: s => Region.wanted o (yielded ops A.tmps) = true ∧ (∀ p : Regrown, makes P o A (gw W p) f ob) ∧ allMake P ops W A r s
  | _, _ => False
def putMk : List Oper → List ((Nat → Value) × Obj) → List Nat → Act → Act
  | o :: r, (f, _) :: s, b :: bs, acc => putMk r s bs (acc.put o.dst (f b))
  | _, _, _, acc => acc
def heapMk : List ((Nat → Value) × Obj) → List Nat → World → Prop
  | (_, ob) :: s, b :: bs, w => w.heap[b]? = some ob ∧ heapMk s bs w
  | _, _, _ => True

/-! ### Frames by their slots -/
def slot (a : Act) (t : Tmp) : Value := a.tmps.getD t undef
theorem slot_put (a : Act) (d t : Tmp) (v : Value) (hd : d < a.tmps.size) : slot (a.put (some d) v) t = if t = d then v else slot a t := by
  unfold slot Act.put
  by_cases h : t = d
  · subst h; simp [hd]
  · simp [h, Array.getElem?_setIfInBounds_ne (fun e : d = t => h e.symm)]
theorem size_put (a : Act) (d : Option Tmp) (v : Value) : (a.put d v).tmps.size = a.tmps.size := by cases d <;> simp [Act.put]
theorem defers_put (a : Act) (d : Option Tmp) (v : Value) : (a.put d v).defers = a.defers := by cases d <;> rfl
theorem act_ext {a b : Act} (h1 : a.tmps.size = b.tmps.size) (h2 : a.defers = b.defers) (h3 : ∀ t, slot a t = slot b t) : a = b := by
  obtain ⟨ta, da⟩ := a
  obtain ⟨tb, db⟩ := b
  simp only at h1 h2
  subst h2
  congr 1
  apply Array.ext h1
  intro i hi hj
  have := h3 i
  simpa [slot, hi, hj] using this
theorem eval_of_slots {ops : Array Oper} {o : Oper} {a b : Act} (h : ∀ x ∈ o.looksAt ops, slot a x = slot b x) : ∀ x ∈ o.op.operands, a.eval x = b.eval x := by
  intro x hx
  cases x with
  | tmp t => exact h t (List.mem_append_left _ (List.mem_filterMap.2 ⟨.tmp t, by simpa using hx, rfl⟩))
  | _ => rfl
theorem yielded_of_slots {ops : Array Oper} {o : Oper} {a b : Act} (hs : a.tmps.size = b.tmps.size) (h : ∀ x ∈ o.looksAt ops, slot a x = slot b x) : Region.wanted o (yielded ops a.tmps) = Region.wanted o (yielded ops b.tmps) := by
  unfold Region.wanted
  cases hg : o.guard with
  | none => rfl
  | some gw =>
    obtain ⟨g, want⟩ := gw
    have hy : yielded ops a.tmps g = yielded ops b.tmps g := by
      unfold yielded
      cases ht : (ops[g]?).bind (·.dst) with
      | none => rfl
      | some t =>
        have hx := h t (List.mem_append_right _ (by simp [hg, ht]))
        have : a.tmps[t]? = b.tmps[t]? := by
          by_cases hlt : t < a.tmps.size
          · have hlt' : t < b.tmps.size := hs ▸ hlt
            simp only [slot, Array.getD_eq_getD_getElem?, Array.getElem?_eq_getElem hlt, Array.getElem?_eq_getElem hlt', Option.getD_some] at hx
            rw [Array.getElem?_eq_getElem hlt, Array.getElem?_eq_getElem hlt', hx]
          · rw [Array.getElem?_eq_none (Nat.le_of_not_lt hlt), Array.getElem?_eq_none (hs ▸ Nat.le_of_not_lt hlt)]
        simp [this]
    simp [hy]

/-! ### The quiet walk's trace -/
def dstsOf (l : List Oper) : List Tmp := l.filterMap (·.dst)
def okQ (ops : Array Oper) (all : List Tmp) (size : Nat) : List Oper → List Tmp → Bool
  | [], _ => true
  | o :: r, bef => match o.dst with
    | none => false
    | some d => decide (d < size) && !bef.contains d && !(dstsOf r).contains d && (o.looksAt ops).all (fun x => !all.contains x || bef.contains x) && okQ ops all size r (d :: bef)
def opAt (P : Program) (ops : Array Oper) (W : World) (o : Oper) (B : Act) (v : Value) : Prop :=
  if Region.wanted o (yielded ops B.tmps) = true then ∀ p : Regrown, gqAt P o B (gw W p) v else v = undef
theorem wpG_trace {P : Program} {ops : Array Oper} {W : World} {R : Act → Prop} {all : List Tmp} : ∀ (lq : List Oper) (bef : List Tmp) (a : Act), okQ ops all a.tmps.size lq bef = true → (∀ t, t ∈ bef ∨ t ∈ dstsOf lq → t ∈ all) → wpG P ops W R lq a →
    ∃ (ν : Tmp → Value) (A : Act), (∀ t, t ∈ bef → ν t = slot a t) ∧ R A ∧ A.defers = a.defers ∧ A.tmps.size = a.tmps.size ∧ (∀ t, slot A t = if t ∈ dstsOf lq then ν t else slot a t) ∧
      ∀ o ∈ lq, ∃ d, o.dst = some d ∧ ∃ B, B.tmps.size = a.tmps.size ∧ opAt P ops W o B (ν d) ∧ ∀ x ∈ o.looksAt ops, slot B x = if x ∈ bef ∨ x ∈ dstsOf lq then ν x else slot a x
  | [], bef, a, _, _, h => ⟨slot a, a, fun _ _ => rfl, h, rfl, rfl, fun t => by simp [dstsOf], fun o ho => by cases ho⟩
  | o :: r, bef, a, hB, hall, h => by
    cases hd : o.dst with
    | none => simp [okQ, hd] at hB
    | some d =>
      simp only [okQ, hd, Bool.and_eq_true, decide_eq_true_eq, Bool.not_eq_true', List.all_eq_true, Bool.or_eq_true] at hB
      obtain ⟨⟨⟨⟨hsz, hnb⟩, hnr⟩, hlook⟩, hrest⟩ := hB
      have hnb' : d ∉ bef := by simpa using hnb
      have hnr' : d ∉ dstsOf r := by simpa using hnr
      have hds : dstsOf (o :: r) = d :: dstsOf r := by simp [dstsOf, hd]
      have hall' : ∀ t, t ∈ d :: bef ∨ t ∈ dstsOf r → t ∈ all := by
        intro t ht
        apply hall
        rw [hds]
        simp only [List.mem_cons] at ht ⊢
        rcases ht with (h | h) | h
        · exact .inr (.inl h)
        · exact .inl h
        · exact .inr (.inr h)
      have key : ∃ v, opAt P ops W o a v ∧ wpG P ops W R r (a.put (some d) v) := by
        simp only [wpG] at h
        by_cases hw : Region.wanted o (yielded ops a.tmps) = true
        · rw [if_pos hw] at h
          obtain ⟨v, h1, h2⟩ := h
          exact ⟨v, by unfold opAt; rw [if_pos hw]; exact h1, by rw [← hd]; exact h2⟩
        · rw [if_neg hw] at h
          exact ⟨undef, by unfold opAt; rw [if_neg hw], by rw [← hd]; exact h⟩
      obtain ⟨v, hop, hnext⟩ := key
      obtain ⟨ν, A, h1, h2, h3, h4, h5, h6⟩ := wpG_trace r (d :: bef) (a.put (some d) v) (by rw [size_put]; exact hrest) hall' hnext
      have hνd : ν d = v := by rw [h1 d (List.mem_cons.2 (.inl rfl)), slot_put a d d v hsz, if_pos rfl]
      have hνb : ∀ t, t ∈ bef → ν t = slot a t := by
        intro t ht
        rw [h1 t (List.mem_cons.2 (.inr ht)), slot_put a d t v hsz, if_neg (fun e : t = d => hnb' (e ▸ ht))]
      refine ⟨ν, A, hνb, h2, h3.trans (defers_put _ _ _), h4.trans (size_put _ _ _), fun t => ?_, fun o' ho' => ?_⟩
      · rw [h5 t, hds]
        by_cases ht : t ∈ dstsOf r
        · rw [if_pos ht, if_pos (List.mem_cons.2 (.inr ht))]
        · rw [if_neg ht, slot_put a d t v hsz]
          by_cases e : t = d
          · subst e; rw [if_pos rfl, if_pos (List.mem_cons.2 (.inl rfl)), hνd]
          · rw [if_neg e, if_neg (fun h => (List.mem_cons.1 h).elim e ht)]
      · rcases List.mem_cons.1 ho' with rfl | ho''
        · refine ⟨d, hd, a, rfl, by rw [hνd]; exact hop, fun x hx => ?_⟩
          split
          · rename_i hin
            have hxa := hall x hin
            have := hlook x hx
            rcases this with h' | h'
            · simp [hxa] at h'
            · exact (hνb x (by simpa using h')).symm
          · rfl
        · obtain ⟨d', hd', B, hBs, hop', hlk⟩ := h6 o' ho''
          refine ⟨d', hd', B, hBs.trans (size_put _ _ _), hop', fun x hx => ?_⟩
          rw [hlk x hx, hds]
          by_cases hx1 : x ∈ d :: bef ∨ x ∈ dstsOf r
          · rw [if_pos hx1, if_pos]
            rcases hx1 with h | h
            · rcases List.mem_cons.1 h with e | e
              · exact .inr (List.mem_cons.2 (.inl e))
              · exact .inl e
            · exact .inr (List.mem_cons.2 (.inr h))
          · rw [if_neg hx1, slot_put a d x v hsz, if_neg (fun e => hx1 (.inl (List.mem_cons.2 (.inl e)))), if_neg]
            rintro (h | h)
            · exact hx1 (.inl (List.mem_cons.2 (.inr h)))
            · rcases List.mem_cons.1 h with e | e
              · exact hx1 (.inl (List.mem_cons.2 (.inl e)))
              · exact hx1 (.inr e)

/-! ### Any order -/
def quietOps (l : List Oper) (n : Nat) (ms : List Nat) : List Oper := ((List.range n).filter (fun i => !ms.contains i)).filterMap (l[·]?)
def makerOps (l : List Oper) (ms : List Nat) : List Oper := ms.filterMap (l[·]?)
/-- The slots that the head of the region writes are apart; what an operation looks at is written by a quiet one that it waits for, or by none. -/
def headB (ops : Array Oper) (n : Nat) (ms : List Nat) (size : Nat) : Bool :=
  let all := dstsOf (quietOps ops.toList n ms)
  let mk := dstsOf (makerOps ops.toList ms)
  okQ ops all size (quietOps ops.toList n ms) [] && ms.all (fun m => decide (m < n)) &&
  (makerOps ops.toList ms).all (fun o => match o.dst with | none => false | some d => decide (d < size) && !all.contains d) && mk.eraseDups.length == mk.length &&
  (List.range n).all (fun i => match ops[i]? with
    | none => false
    | some o => (o.looksAt ops).all (fun x => !mk.contains x && (!all.contains x || o.after.any (fun e => Region.binds .any e && ((ops[e.on]?).bind (·.dst)) == some x && decide (e.on < n) && !ms.contains e.on))))

theorem mem_dstsOf {l : List Oper} {t : Tmp} : t ∈ dstsOf l ↔ ∃ o ∈ l, o.dst = some t := by simp [dstsOf]
theorem mem_quietOps {ops : Array Oper} {n : Nat} {ms : List Nat} {o : Oper} : o ∈ quietOps ops.toList n ms ↔ ∃ i, i < n ∧ i ∉ ms ∧ ops[i]? = some o := by
  simp [quietOps, List.mem_filterMap, and_assoc]
theorem mem_makerOps {ops : Array Oper} {ms : List Nat} {o : Oper} : o ∈ makerOps ops.toList ms ↔ ∃ i, i ∈ ms ∧ ops[i]? = some o := by
  simp [makerOps, List.mem_filterMap]

def headLeft (listed : Array Bool) (n : Nat) : Nat := ((List.range n).filter (fun i => !listed.getD i true)).length
theorem headLeft_set {listed : Array Bool} {n i : Nat} (hi : i < n) (h : listed.getD i true = false) : headLeft (listed.setIfInBounds i true) n < headLeft listed n := by
  have key : ∀ l : List Nat, l.Nodup → (l.filter (fun j => !(listed.setIfInBounds i true).getD j true)).length + (if i ∈ l then 1 else 0) = (l.filter (fun j => !listed.getD j true)).length := by
    intro l
    induction l with
    | nil => intro _; simp
    | cons x l ih =>
      intro hnd
      have ⟨hx, hnd'⟩ := List.nodup_cons.1 hnd
      have ih' := ih hnd'
      by_cases e : i = x
      · subst e
        rw [if_neg hx] at ih'
        rw [if_pos (by simp)]
        have h1 : (listed.setIfInBounds i true).getD i true = true := by
          rcases Nat.lt_or_ge i listed.size with h' | h'
          · simp [h']
          · simp [h']
        simp only [List.filter_cons, h1, h, Bool.not_true, Bool.not_false, Bool.false_eq_true, if_false, if_true, List.length_cons]
        omega
      · have h1 : (listed.setIfInBounds i true).getD x true = listed.getD x true := getD_set_ne true e
        have h2 : (i ∈ x :: l) = (i ∈ l) := by simp [e]
        simp only [List.filter_cons, h1, h2]
        split
        · simp only [List.length_cons]; omega
        · exact ih'
  have := key (List.range n) List.nodup_range
  rw [if_pos (List.mem_range.2 hi)] at this
  unfold headLeft
  omega
def headDone (size n : Nat) : Array Bool := ((List.range size).map (fun i => decide (i < n))).toArray
theorem headDone_eq {ops : Array Oper} {n : Nat} {listed : Array Bool} (inv : HeadInv .any ops n listed) (h : headLeft listed n = 0) : listed = headDone ops.size n := by
  have hall : ∀ i, i < n → listed.getD i true = true := by
    intro i hi
    cases hb : listed.getD i true with
    | true => rfl
    | false =>
      have : i ∈ (List.range n).filter (fun i => !listed.getD i true) := by rw [List.mem_filter]; exact ⟨List.mem_range.2 hi, by rw [hb]; rfl⟩
      unfold headLeft at h
      rw [List.length_eq_zero_iff.1 h] at this
      cases this
  apply Array.ext
  · simp [headDone, inv.size]
  · intro i h1 h2
    simp only [headDone, List.getElem_toArray, List.getElem_map, List.getElem_range]
    by_cases hi : i < n
    · have := hall i hi
      simpa [h1, hi] using this
    · have := inv.tail i (by omega) (by rw [← inv.size]; exact h1)
      simpa [h1, hi] using this

/-- The head in whatever order, by an invariant; then the tail. -/
theorem wpAny_head {P : Program} {ops : Array Oper} {Q : Exit → Act → World → Prop} {n g : Nat} (I : Array Bool → Act → World → Prop) (inv : ∀ listed a w, I listed a w → HeadInv .any ops n listed)
    (hwait : ∀ listed, HeadInv .any ops n listed → headLeft listed n ≠ 0 → Region.ready .any ops listed ≠ [] ∧ ∀ i ∈ Region.ready .any ops listed, i < n)
    (step : ∀ listed a w i, I listed a w → i < n → i ∈ Region.ready .any ops listed → wpOp P ops Q i (I (listed.setIfInBounds i true)) a w)
    (done : ∀ listed a w, I listed a w → headLeft listed n = 0 → ∀ f, g ≤ f → wpAny P .any ops Q f listed a w) :
    ∀ (f : Nat) (listed : Array Bool) (a : Act) (w : World), headLeft listed n + g ≤ f → I listed a w → wpAny P .any ops Q f listed a w
  | 0, listed, a, w, hf, h => done _ _ _ h (by omega) _ (by omega)
  | f + 1, listed, a, w, hf, h => by
    by_cases h0 : headLeft listed n = 0
    · exact done _ _ _ h h0 _ (by omega)
    · obtain ⟨h1, h2⟩ := hwait listed (inv _ _ _ h) h0
      refine ⟨fun e => absurd e h1, fun i hi => ?_⟩
      refine wpOp_mono (fun a' w' h' => wpAny_head I inv hwait step done f _ a' w' ?_ h') (step _ _ _ i h (h2 i hi) hi)
      have := headLeft_set (h2 i hi) (mem_ready.1 hi).1
      omega
theorem wpAny_more {P : Program} {ops : Array Oper} {Q : Exit → Act → World → Prop} : ∀ (f : Nat) (k : Nat) (listed : Array Bool) (a : Act) (w : World), wpAny P .any ops Q f listed a w → wpAny P .any ops Q (f + k) listed a w
  | 0, 0, _, _, _, h => h
  | 0, k + 1, listed, a, w, h => by
    rw [Nat.zero_add]
    exact ⟨fun _ => h.2, fun i hi => by rw [h.1] at hi; cases hi⟩
  | f + 1, k, listed, a, w, h => by
    rw [show f + 1 + k = (f + k) + 1 by omega]
    exact ⟨h.1, fun i hi => wpOp_mono (fun a' w' h' => wpAny_more f k _ a' w' h') (h.2 i hi)⟩

/-! ### The main law -/
def apartB (ops : Array Oper) (n : Nat) : Bool := (List.range n).all (fun i => (List.range n).all (fun j => i == j || ((ops[i]?).bind (·.dst)) != ((ops[j]?).bind (·.dst))))
def qmB (ops : Array Oper) (n : Nat) (ms : List Nat) (size : Nat) : Bool :=
  headB ops n ms size && Region.noSelect ops && apartB ops n && decide (n ≤ ops.size) &&
  (List.range n).all (fun i => match ops[i]? with | none => false | some o => o.after.all (fun e => !Region.binds .any e || decide (e.on < i))) &&
  (decide (n = ops.size) || (Region.sinkB .any ops n && Region.chainB .any ops n)) && Region.seqB .any ops (ops.size - n) n (headDone ops.size n)

theorem mk_dsts {P : Program} {ops : Array Oper} {W : World} {A : Act} : ∀ (lm : List Oper) (fs : List ((Nat → Value) × Obj)), (∀ o ∈ lm, ∃ d, o.dst = some d) → (dstsOf lm).Nodup → allMake P ops W A lm fs →
    ∃ (F : Tmp → Nat → Value) (O : Tmp → Obj), (∀ o ∈ lm, ∀ d, o.dst = some d → Region.wanted o (yielded ops A.tmps) = true ∧ ∀ p : Regrown, makes P o A (gw W p) (F d) (O d)) ∧
      ∀ (β : Tmp → Nat) (acc : Act), (∀ d, d ∈ dstsOf lm → d < acc.tmps.size) → ∀ t, slot (putMk lm fs ((dstsOf lm).map β) acc) t = if t ∈ dstsOf lm then F t (β t) else slot acc t
  | [], [], _, _, _ => ⟨fun _ _ => undef, fun _ => default, fun o h => (by cases h), fun β acc _ t => by simp [putMk, dstsOf]⟩
  | [], _ :: _, _, _, h => h.elim
  | _ :: _, [], _, _, h => h.elim
  | o :: r, (f, ob) :: s, hd, hn, h => by
    obtain ⟨d, hdo⟩ := hd o (List.mem_cons.2 (.inl rfl))
    have hds : dstsOf (o :: r) = d :: dstsOf r := by simp [dstsOf, hdo]
    rw [hds] at hn
    obtain ⟨hnd, hn'⟩ := List.nodup_cons.1 hn
    obtain ⟨h1, h2, h3⟩ := h
    obtain ⟨F, O, k1, k2⟩ := mk_dsts r s (fun o' ho' => hd o' (List.mem_cons.2 (.inr ho'))) hn' h3
    refine ⟨fun t => if t = d then f else F t, fun t => if t = d then ob else O t, fun o' ho' d' hd' => ?_, fun β acc hsz t => ?_⟩
    · rcases List.mem_cons.1 ho' with rfl | ho''
      · have e : d' = d := Option.some.inj (hd'.symm.trans hdo)
        subst e
        simp only [if_true]
        exact ⟨h1, h2⟩
      · have hne : d' ≠ d := fun e => hnd (by rw [← e]; exact mem_dstsOf.2 ⟨o', ho'', hd'⟩)
        simp only [if_neg hne]
        exact k1 o' ho'' d' hd'
    · rw [hds]
      simp only [List.map_cons, putMk, hdo]
      rw [k2 β (acc.put (some d) (f (β d))) (fun d' hd' => by rw [size_put]; exact hsz d' (by rw [hds]; exact List.mem_cons.2 (.inr hd'))) t]
      have hsd : d < acc.tmps.size := hsz d (by rw [hds]; exact List.mem_cons.2 (.inl rfl))
      by_cases e : t = d
      · subst e
        rw [if_neg hnd, slot_put acc t t _ hsd, if_pos rfl, if_pos (List.mem_cons.2 (.inl rfl)), if_pos rfl]
      · by_cases ht : t ∈ dstsOf r
        · rw [if_pos ht, if_pos (List.mem_cons.2 (.inr ht)), if_neg e]
        · rw [if_neg ht, slot_put acc d t _ hsd, if_neg e, if_neg (fun h => (List.mem_cons.1 h).elim e ht)]
theorem putMk_shape : ∀ (lm : List Oper) (fs : List ((Nat → Value) × Obj)) (bs : List Nat) (acc : Act), (putMk lm fs bs acc).tmps.size = acc.tmps.size ∧ (putMk lm fs bs acc).defers = acc.defers
  | [], _, _, _ => ⟨rfl, rfl⟩
  | _ :: _, [], _, _ => ⟨rfl, rfl⟩
  | _ :: _, _ :: _, [], _ => ⟨rfl, rfl⟩
  | o :: r, (f, _) :: s, b :: bs, acc => by
    have := putMk_shape r s bs (acc.put o.dst (f b))
    exact ⟨this.1.trans (size_put _ _ _), this.2.trans (defers_put _ _ _)⟩
theorem heapMk_of {P : Program} {ops : Array Oper} {W : World} {A : Act} {w : World} {β : Tmp → Nat} {O : Tmp → Obj} : ∀ (lm : List Oper) (fs : List ((Nat → Value) × Obj)), (∀ o ∈ lm, ∃ d, o.dst = some d) → allMake P ops W A lm fs →
    (∀ o ∈ lm, ∀ d, o.dst = some d → w.heap[β d]? = some (O d) ∧ ∀ (f : Nat → Value) (ob : Obj), (∀ p : Regrown, makes P o A (gw W p) f ob) → ob = O d) → heapMk fs ((dstsOf lm).map β) w
  | [], [], _, _, _ => trivial
  | [], _ :: _, _, h, _ => h.elim
  | _ :: _, [], _, h, _ => h.elim
  | o :: r, (f, ob) :: s, hd, h, hh => by
    obtain ⟨d, hdo⟩ := hd o (List.mem_cons.2 (.inl rfl))
    have hds : dstsOf (o :: r) = d :: dstsOf r := by simp [dstsOf, hdo]
    obtain ⟨h1, h2, h3⟩ := h
    obtain ⟨k1, k2⟩ := hh o (List.mem_cons.2 (.inl rfl)) d hdo
    rw [hds]
    refine ⟨by rw [k1, k2 f ob h2], heapMk_of r s (fun o' ho' => hd o' (List.mem_cons.2 (.inr ho'))) h3 (fun o' ho' => hh o' (List.mem_cons.2 (.inr ho')))⟩
theorem alloc_inj {w : World} {a b : Obj} (h : w.alloc a = w.alloc b) : a = b := by
  have := congrArg (fun w' : World => w'.heap[w.heap.size]?) h
  simp only [heap_alloc_new] at this
  exact Option.some.inj this
theorem makes_inj {P : Program} {o : Oper} {A : Act} {w : World} {f g : Nat → Value} {a b : Obj} (h : makes P o A w f a) (k : makes P o A w g b) : a = b := by
  unfold makes at h k
  rw [h] at k
  have := (Result.ok.inj k).2
  exact alloc_inj this

theorem head_waits {ops : Array Oper} {n : Nat} (hn : n ≤ ops.size) (hdep : ((List.range n).all fun i => match ops[i]? with | none => false | some o => o.after.all (fun e => !Region.binds .any e || decide (e.on < i))) = true)
    (htail : n = ops.size ∨ (Region.sinkB .any ops n = true ∧ Region.chainB .any ops n = true)) {listed : Array Bool} (inv : HeadInv .any ops n listed) (h : headLeft listed n ≠ 0) :
    Region.ready .any ops listed ≠ [] ∧ ∀ i ∈ Region.ready .any ops listed, i < n := by
  have hex : ∃ i, i < n ∧ listed.getD i true = false ∧ ∀ j, j < i → listed.getD j true = true := by
    have hne : ((List.range n).filter (fun i => !listed.getD i true)) ≠ [] := fun e => h (by unfold headLeft; rw [e]; rfl)
    have hsome : ∃ i, i < n ∧ listed.getD i true = false := by
      obtain ⟨i, hi⟩ := List.exists_mem_of_ne_nil _ hne
      rw [List.mem_filter] at hi
      exact ⟨i, List.mem_range.1 hi.1, by simpa using hi.2⟩
    have : ∀ k, ∀ i, i < k → i < n → listed.getD i true = false → ∃ i, i < n ∧ listed.getD i true = false ∧ ∀ j, j < i → listed.getD j true = true := by
      intro k
      induction k with
      | zero => intro i hi; omega
      | succ k ih =>
        intro i hik hin hf
        by_cases hc : ∃ j, j < i ∧ listed.getD j true = false
        · obtain ⟨j, hj, hjf⟩ := hc
          exact ih j (by omega) (by omega) hjf
        · refine ⟨i, hin, hf, fun j hj => ?_⟩
          cases hb : listed.getD j true with
          | true => rfl
          | false => exact absurd ⟨j, hj, hb⟩ hc
    obtain ⟨i, hi, hf⟩ := hsome
    exact this (i + 1) i (by omega) hi hf
  obtain ⟨i0, hi0, hun, hleast⟩ := hex
  have hr : i0 ∈ Region.ready .any ops listed := by
    have hd := List.all_eq_true.1 hdep i0 (List.mem_range.2 hi0)
    cases ho : ops[i0]? with
    | none => rw [ho] at hd; cases hd
    | some o =>
      rw [ho] at hd
      refine mem_ready.2 ⟨hun, o, ho, fun e he hb => ?_⟩
      have hlt := Array.all_eq_true_iff_forall_mem.1 hd e he
      simp only [hb, Bool.not_true, Bool.false_or, decide_eq_true_eq] at hlt
      have ht := hleast e.on hlt
      have hsz : e.on < listed.size := by rw [inv.size]; omega
      simpa [hsz] using ht
  refine ⟨fun e => (by rw [e] at hr; cases hr), fun i hi => ?_⟩
  rcases Nat.lt_or_ge i n with hlt | hge
  · exact hlt
  · exfalso
    obtain ⟨_, o, ho, _⟩ := mem_ready.1 hi
    have hio : i < ops.size := (Array.getElem?_eq_some_iff.1 ho).1
    rcases htail with e | ⟨hs, hc⟩
    · omega
    · exact tail_waits hs hc (by omega) inv _ i0 rfl hi0 hun i hge hi

theorem apart_of {ops : Array Oper} {n i j : Nat} (h : apartB ops n = true) (hi : i < n) (hj : j < n) (hne : i ≠ j) {o o' : Oper} (ho : ops[i]? = some o) (ho' : ops[j]? = some o') : o.dst ≠ o'.dst := by
  have h1 := List.all_eq_true.1 h i (List.mem_range.2 hi)
  have h2 := List.all_eq_true.1 h1 j (List.mem_range.2 hj)
  rw [ho, ho'] at h2
  simp only [Option.bind_some, Bool.or_eq_true, beq_iff_eq, bne_iff_ne] at h2
  rcases h2 with h2 | h2
  · exact absurd h2 hne
  · exact h2
theorem dstsOf_length : ∀ {lm : List Oper}, (∀ o ∈ lm, ∃ d, o.dst = some d) → (dstsOf lm).length = lm.length
  | [], _ => rfl
  | o :: r, h => by
    obtain ⟨d, hd⟩ := h o (List.mem_cons.2 (.inl rfl))
    have := dstsOf_length (lm := r) (fun o' ho' => h o' (List.mem_cons.2 (.inr ho')))
    simp only [dstsOf, List.filterMap_cons, hd, List.length_cons] at this ⊢
    omega
theorem nodup_of_eraseDups {l : List Nat} (h : (l.eraseDups.length == l.length) = true) : l.Nodup := by
  have key : ∀ (k : Nat) (l : List Nat), l.length ≤ k → l.eraseDups.length ≤ l.length ∧ (l.eraseDups.length = l.length → l.Nodup) := by
    intro k
    induction k with
    | zero => intro l hl; have : l = [] := List.length_eq_zero_iff.1 (by omega); subst this; simp
    | succ k ih =>
      intro l hl
      cases l with
      | nil => simp
      | cons x l =>
        rw [List.eraseDups_cons]
        have hf : (l.filter (fun b => !b == x)).length ≤ l.length := List.length_filter_le _ _
        obtain ⟨h1, h2⟩ := ih (l.filter (fun b => !b == x)) (by simp at hl; omega)
        simp only [List.length_cons]
        refine ⟨by omega, fun e => ?_⟩
        have e1 : (l.filter (fun b => !b == x)).length = l.length := by omega
        have e2 : l.filter (fun b => !b == x) = l := List.filter_eq_self.2 (fun y hy => by
          have := List.length_filter_eq_length_iff.1 e1 y hy
          exact this)
        have hx : x ∉ l := by
          intro hx
          have := List.filter_eq_self.1 e2 x hx
          simp at this
        have hn : l.Nodup := by
          have := h2 (by omega)
          rwa [e2] at this
        exact List.nodup_cons.2 ⟨hx, hn⟩
  exact (key l.length l (Nat.le_refl _)).2 (by simpa using h)

theorem wp_region_qm {P : Program} {id : Nat} {Q : Exit → Act → World → Prop} {a : Act} {w : World} {l lq lm lt : List Oper} (n : Nat) (ms : List Nat) (hm : P.follows .mixedOrders = true) (hB : qmB l.toArray n ms a.tmps.size = true)
    (hq : quietOps l n ms = lq) (hmk : makerOps l ms = lm) (ht : l.drop n = lt)
    (h : wpG P l.toArray w.drew (fun A => ∃ fs, allMake P l.toArray w.drew A lm fs ∧ ∀ bs : List Nat, bs.length = lm.length → bs.Nodup → (∀ b ∈ bs, w.drew.heap.size ≤ b) → ∀ p : Regrown, heapMk fs bs (gw w.drew p) → wpList P l.toArray Q lt (putMk lm fs bs A) (gw w.drew p)) lq a) :
    (Code.region id l.toArray true).wp P Q a w := by
  subst hq; subst hmk; subst ht
  simp only [qmB, Bool.and_eq_true, decide_eq_true_eq, Bool.or_eq_true] at hB
  obtain ⟨⟨⟨⟨⟨⟨hhead, hsel⟩, hap⟩, hn⟩, hdep⟩, htail⟩, hseq⟩ := hB
  simp only [headB, Bool.and_eq_true] at hhead
  obtain ⟨⟨⟨⟨hokq, hmsn⟩, hmkd⟩, hmkn⟩, hlook⟩ := hhead
  have hsel' := Region.noSelect_spec hsel
  have hmsn' : ∀ m ∈ ms, m < n := fun m h => by have := List.all_eq_true.1 hmsn m h; simpa using this
  have hmkd' : ∀ o ∈ makerOps l ms, ∃ d, o.dst = some d ∧ d < a.tmps.size ∧ d ∉ dstsOf (quietOps l n ms) := fun o ho => by
    have := List.all_eq_true.1 hmkd o (by simpa using ho)
    cases hd : o.dst with
    | none => simp [hd] at this
    | some d => simp [hd] at this; exact ⟨d, rfl, by simpa using this⟩
  have hmkdst : ∀ o ∈ makerOps l ms, ∃ d, o.dst = some d := fun o ho => let ⟨d, h1, _⟩ := hmkd' o ho; ⟨d, h1⟩
  have hnodup : (dstsOf (makerOps l ms)).Nodup := nodup_of_eraseDups (by simpa using hmkn)
  obtain ⟨ν, A, _, hR, hAd, hAs, hAslot, htr⟩ := wpG_trace (all := dstsOf (quietOps l n ms)) (quietOps l n ms) [] a (by simpa using hokq) (fun t ht => by simpa using ht) h
  obtain ⟨fs, hmake, hfin⟩ := hR
  obtain ⟨F, O, hFO, hput⟩ := mk_dsts _ _ hmkdst hnodup hmake
  have hmemq : ∀ i o, i < n → i ∉ ms → l.toArray[i]? = some o → o ∈ quietOps l n ms := fun i o h1 h2 h3 => by
    have := (mem_quietOps (ops := l.toArray)).2 ⟨i, h1, h2, h3⟩
    simpa using this
  have hmemm : ∀ i o, i ∈ ms → l.toArray[i]? = some o → o ∈ makerOps l ms := fun i o h1 h2 => by
    have := (mem_makerOps (ops := l.toArray)).2 ⟨i, h1, h2⟩
    simpa using this
  let I : Array Bool → Act → World → Prop := fun listed a' w' => ∃ (β : Tmp → Nat) (q : Regrown), w' = gw w.drew q ∧ a'.defers = a.defers ∧ a'.tmps.size = a.tmps.size ∧ HeadInv .any l.toArray n listed ∧
    (∀ t, t ∉ dstsOf (quietOps l n ms) → t ∉ dstsOf (makerOps l ms) → slot a' t = slot a t) ∧
    (∀ i o d, i < n → i ∉ ms → l.toArray[i]? = some o → o.dst = some d → slot a' d = if listed.getD i false = true then ν d else slot a d) ∧
    (∀ i o d, i ∈ ms → l.toArray[i]? = some o → o.dst = some d → slot a' d = if listed.getD i false = true then F d (β d) else slot a d) ∧
    (∀ i o d, i ∈ ms → l.toArray[i]? = some o → o.dst = some d → listed.getD i false = true → w.heap.size ≤ β d ∧ w'.heap[β d]? = some (O d)) ∧
    (∀ i o d j o' d', i ∈ ms → l.toArray[i]? = some o → o.dst = some d → listed.getD i false = true → j ∈ ms → l.toArray[j]? = some o' → o'.dst = some d' → listed.getD j false = true → i ≠ j → β d ≠ β d')
  -- what an operation sees
  have sees : ∀ {listed : Array Bool} {a' : Act} {w' : World} {i : Nat} {o : Oper}, I listed a' w' → i < n → i ∈ Region.ready .any l.toArray listed → l.toArray[i]? = some o →
      ∀ x ∈ o.looksAt l.toArray, slot a' x = if x ∈ dstsOf (quietOps l n ms) then ν x else slot a x := by
    intro listed a' w' i o ⟨β, q, _, _, _, hinv, s1, s2, s3, s4, s5⟩ hi hr ho x hx
    have hl := List.all_eq_true.1 hlook i (List.mem_range.2 hi)
    rw [ho] at hl
    have hl' := List.all_eq_true.1 hl x hx
    simp only [Bool.and_eq_true, Bool.not_eq_true', Bool.or_eq_true] at hl'
    obtain ⟨hxm, hxq⟩ := hl'
    have hxm' : x ∉ dstsOf (makerOps l ms) := by simpa using hxm
    by_cases hxin : x ∈ dstsOf (quietOps l n ms)
    · rw [if_pos hxin]
      rcases hxq with hxq | hxq
      · have : x ∉ dstsOf (quietOps l n ms) := by simpa using hxq
        exact absurd hxin this
      · obtain ⟨k, hk, he2⟩ := Array.any_eq_true.1 hxq
        simp only [Bool.and_eq_true, beq_iff_eq, decide_eq_true_eq, Bool.not_eq_true'] at he2
        obtain ⟨⟨⟨hb, hdx⟩, hen⟩, hems⟩ := he2
        obtain ⟨_, o2, ho2, hall⟩ := mem_ready.1 hr
        have : o2 = o := Option.some.inj (ho2.symm.trans ho)
        subst this
        have hle := hall _ (Array.getElem_mem hk) hb
        cases hoe : (l.toArray)[o2.after[k].on]? with
        | none => rw [hoe] at hdx; cases hdx
        | some oe =>
          rw [hoe] at hdx
          rw [s2 _ oe x hen (by simpa using hems) hoe (by simpa using hdx), if_pos hle]
    · rw [if_neg hxin]; exact s1 x hxin hxm'
  -- the frame behind an operation
  have after : ∀ {listed : Array Bool} {a' : Act} {w' w'' : World} {i : Nat} {o : Oper} {d : Tmp} {v : Value}, I listed a' w' → i < n → i ∈ Region.ready .any l.toArray listed → l.toArray[i]? = some o → o.dst = some d → d < a.tmps.size →
      (i ∉ ms → v = ν d ∧ ∃ q, w'' = gw w' q) → (i ∈ ms → v = F d w'.heap.size ∧ w'' = w'.alloc (O d)) → I (listed.setIfInBounds i true) (a'.put o.dst v) w'' := by
    intro listed a' w' w'' i o d v ⟨β, q, hw, hdef, hsz, hinv, s1, s2, s3, s4, s5⟩ hi hr ho hd hdlt hq hmm
    have hdlt' : d < a'.tmps.size := hsz ▸ hdlt
    have hilt : i < listed.size := by rw [hinv.size]; exact (Array.getElem?_eq_some_iff.1 ho).1
    have hself : (listed.setIfInBounds i true).getD i false = true := by simp [hilt]
    have hoth : ∀ j, i ≠ j → (listed.setIfInBounds i true).getD j false = listed.getD j false := fun j hj => getD_set_ne false hj
    have hdd : ∀ j o' d', j < n → i ≠ j → l.toArray[j]? = some o' → o'.dst = some d' → d' ≠ d := fun j o' d' hj hij ho' hd' e => by
      subst e; exact apart_of hap hi hj hij ho ho' (hd.trans hd'.symm)
    have hgrow : ∃ q', w'' = gw w.drew q' := by
      by_cases him : i ∈ ms
      · obtain ⟨_, e⟩ := hmm him
        rw [e, hw]
        exact gw_of_below ((gw_below w.drew q).alloc (by simp) _)
      · obtain ⟨_, q', e⟩ := hq him
        rw [e, hw]
        exact gw_two _ q q'
    have hkeep : ∀ (b : Nat) (ob : Obj), w'.heap[b]? = some ob → w''.heap[b]? = some ob := by
      intro b ob hb
      have hlt : b < w'.heap.size := by
        rcases Nat.lt_or_ge b w'.heap.size with h | h
        · exact h
        · rw [Array.getElem?_eq_none h] at hb; cases hb
      by_cases him : i ∈ ms
      · obtain ⟨_, e⟩ := hmm him
        rw [e, heap_alloc_old _ _ hlt]; exact hb
      · obtain ⟨_, q', e⟩ := hq him
        rw [e, gw_heap _ _ _ hlt]; exact hb
    obtain ⟨q', hq'⟩ := hgrow
    rw [hd]
    refine ⟨if i ∈ ms then (fun t => if t = d then w'.heap.size else β t) else β, q', hq', hdef, (size_put _ _ _).trans hsz, hinv.set hr hi, ?_, ?_, ?_, ?_, ?_⟩
    · intro t ht1 ht2
      rw [slot_put a' d t v hdlt', if_neg]
      · exact s1 t ht1 ht2
      · intro e
        subst e
        by_cases him : i ∈ ms
        · exact ht2 (mem_dstsOf.2 ⟨o, hmemm i o him ho, hd⟩)
        · exact ht1 (mem_dstsOf.2 ⟨o, hmemq i o hi him ho, hd⟩)
    · intro j o' d' hj hjm ho' hd'
      by_cases hij : i = j
      · subst hij
        have e1 : o' = o := Option.some.inj (ho'.symm.trans ho)
        subst e1
        have e2 : d' = d := Option.some.inj (hd'.symm.trans hd)
        subst e2
        rw [hself, if_pos rfl, slot_put a' d' d' v hdlt', if_pos rfl]
        exact (hq hjm).1
      · rw [hoth j hij, slot_put a' d d' v hdlt', if_neg (hdd j o' d' hj hij ho' hd')]
        exact s2 j o' d' hj hjm ho' hd'
    · intro j o' d' hjm ho' hd'
      by_cases hij : i = j
      · subst hij
        have e1 : o' = o := Option.some.inj (ho'.symm.trans ho)
        subst e1
        have e2 : d' = d := Option.some.inj (hd'.symm.trans hd)
        subst e2
        rw [hself, if_pos rfl, slot_put a' d' d' v hdlt', if_pos rfl, if_pos hjm]
        simp only [if_true]
        exact (hmm hjm).1
      · have hne := hdd j o' d' (hmsn' j hjm) hij ho' hd'
        rw [hoth j hij, slot_put a' d d' v hdlt', if_neg hne, s3 j o' d' hjm ho' hd']
        split
        · split
          · simp only [if_neg hne]
          · rfl
        · rfl
    · intro j o' d' hjm ho' hd' hl
      by_cases hij : i = j
      · subst hij
        have e1 : o' = o := Option.some.inj (ho'.symm.trans ho)
        subst e1
        have e2 : d' = d := Option.some.inj (hd'.symm.trans hd)
        subst e2
        rw [if_pos hjm]
        simp only [if_true]
        refine ⟨by rw [hw]; simp, ?_⟩
        rw [(hmm hjm).2]; exact heap_alloc_new w' _
      · have hne := hdd j o' d' (hmsn' j hjm) hij ho' hd'
        rw [hoth j hij] at hl
        obtain ⟨k1, k2⟩ := s4 j o' d' hjm ho' hd' hl
        have e : (if i ∈ ms then (fun t => if t = d then w'.heap.size else β t) else β) d' = β d' := by
          split
          · simp only [if_neg hne]
          · rfl
        rw [e]
        exact ⟨k1, hkeep _ _ k2⟩
    · intro j o1 d1 k o2 d2 hjm ho1 hd1 hl1 hkm ho2 hd2 hl2 hjk
      have lt : ∀ m o3 d3, m ∈ ms → l.toArray[m]? = some o3 → o3.dst = some d3 → listed.getD m false = true → β d3 < w'.heap.size := by
        intro m o3 d3 hm3 ho3 hd3 hl3
        have := (s4 m o3 d3 hm3 ho3 hd3 hl3).2
        rcases Nat.lt_or_ge (β d3) w'.heap.size with h | h
        · exact h
        · rw [Array.getElem?_eq_none h] at this; cases this
      by_cases hij : i = j
      · subst hij
        have e1 : o1 = o := Option.some.inj (ho1.symm.trans ho)
        subst e1
        have e2 : d1 = d := Option.some.inj (hd1.symm.trans hd)
        subst e2
        rw [hoth k hjk] at hl2
        have hne := hdd k o2 d2 (hmsn' k hkm) hjk ho2 hd2
        rw [if_pos hjm]
        simp only [if_true, if_neg hne]
        have := lt k o2 d2 hkm ho2 hd2 hl2
        omega
      · rw [hoth j hij] at hl1
        have hne1 := hdd j o1 d1 (hmsn' j hjm) hij ho1 hd1
        by_cases hik : i = k
        · subst hik
          have e1 : o2 = o := Option.some.inj (ho2.symm.trans ho)
          subst e1
          have e2 : d2 = d := Option.some.inj (hd2.symm.trans hd)
          subst e2
          rw [if_pos hkm]
          simp only [if_true, if_neg hne1]
          have := lt j o1 d1 hjm ho1 hd1 hl1
          omega
        · rw [hoth k hik] at hl2
          have hne2 := hdd k o2 d2 (hmsn' k hkm) hik ho2 hd2
          split
          · simp only [if_neg hne1, if_neg hne2]
            exact s5 j o1 d1 k o2 d2 hjm ho1 hd1 hl1 hkm ho2 hd2 hl2 hjk
          · exact s5 j o1 d1 k o2 d2 hjm ho1 hd1 hl1 hkm ho2 hd2 hl2 hjk
  have hstart : I (Array.replicate l.toArray.size false) a w.drew := by
    refine ⟨fun _ => 0, _, gw_self _, rfl, rfl, ⟨by simp, fun j oj _ hl => (by rw [getD_replicate_false] at hl; cases hl), fun t _ ht => getD_in (by simpa using ht) (getD_replicate_false _ _)⟩, fun _ _ _ => rfl, ?_, ?_, ?_, ?_⟩
    · intro i o d _ _ _ _; rw [getD_replicate_false]; simp
    · intro i o d _ _ _; rw [getD_replicate_false]; simp
    · intro i o d _ _ _ hl; rw [getD_replicate_false] at hl; cases hl
    · intro i o d j o' d' _ _ _ hl; rw [getD_replicate_false] at hl; cases hl
  refine wp_region_any hm ?_
  have hw0 : ({ w with drawn := w.drawn + 1 } : World) = w.drew := rfl
  rw [hw0]
  refine wpAny_head (n := n) (g := l.toArray.size - n) I (fun _ _ _ ⟨_, _, _, _, _, hinv, _⟩ => hinv) (fun listed inv h0 => head_waits hn hdep htail inv h0) ?_ ?_ _ _ _ _ ?_ hstart
  · -- a step
    intro listed a' w' i hI hi hr
    obtain ⟨_, o, ho, _⟩ := mem_ready.1 hr
    have hs := sees hI hi hr ho
    have hI' := hI
    obtain ⟨β, q, hw, hdef, hsz, hinv, s1, s2, s3, s4, s5⟩ := hI'
    unfold wpOp
    rw [ho]
    by_cases him : i ∈ ms
    · obtain ⟨d, hd, hdlt, hdq⟩ := hmkd' o (hmemm i o him ho)
      obtain ⟨hwant, hmakes⟩ := hFO o (hmemm i o him ho) d hd
      have hag : ∀ x ∈ o.looksAt l.toArray, slot a' x = slot A x := fun x hx => by rw [hs x hx, hAslot x]
      have hwant' : Region.wanted o (yielded l.toArray a'.tmps) = true := by rw [yielded_of_slots (hsz.trans hAs.symm) hag]; exact hwant
      have hrun : (execOp a'.eval o).run P w' = .ok (.value (F d w'.heap.size)) (w'.alloc (O d)) := by
        rw [execOp_congr o (fun cs b => hsel' i o cs b ho) (eval_of_slots hag), hw]
        exact hmakes q
      simp only [hwant', if_true]
      refine .inl ?_
      unfold Oper.wp
      rw [hrun]
      exact after hI hi hr ho hd hdlt (fun h => absurd him h) (fun _ => ⟨rfl, rfl⟩)
    · have hmem := hmemq i o hi him ho
      obtain ⟨d, hd, B, hBs, hop, hBl⟩ := htr o hmem
      have hdlt : d < a.tmps.size := by
        have hk : ∀ (lq : List Oper) (bef : List Tmp), okQ l.toArray (dstsOf (quietOps l n ms)) a.tmps.size lq bef = true → o ∈ lq → d < a.tmps.size := by
          intro lq
          induction lq with
          | nil => intro _ _ h; cases h
          | cons o' r ih =>
            intro bef hb hmem'
            cases hd' : o'.dst with
            | none => simp [okQ, hd'] at hb
            | some d' =>
              simp only [okQ, hd', Bool.and_eq_true, decide_eq_true_eq] at hb
              rcases List.mem_cons.1 hmem' with e | e
              · subst e
                have : d' = d := Option.some.inj (hd'.symm.trans hd)
                subst this; exact hb.1.1.1.1
              · exact ih _ hb.2 e
        exact hk _ [] (by simpa using hokq) hmem
      have hag : ∀ x ∈ o.looksAt l.toArray, slot a' x = slot B x := fun x hx => by rw [hs x hx, hBl x hx]; simp
      have hww := yielded_of_slots (o := o) (hsz.trans hBs.symm) hag
      have hex := execOp_congr o (fun cs b => hsel' i o cs b ho) (eval_of_slots hag)
      unfold opAt at hop
      by_cases hwant : Region.wanted o (yielded l.toArray B.tmps) = true
      · rw [if_pos hwant] at hop
        have hat := hop q
        unfold gqAt at hat
        simp only [hww.trans hwant, if_true]
        refine .inl ?_
        unfold Oper.wp
        rw [hex, hw]
        generalize (execOp B.eval o).run P (gw w.drew q) = res at hat
        cases res with
        | halt x w1 => exact hat.elim
        | ok nx w1 =>
          cases nx <;> simp only [gqUpon] at hat <;> simp only [Oper.upon]
          case value u =>
            obtain ⟨rfl, rfl⟩ := hat
            exact after hI hi hr ho hd hdlt (fun _ => ⟨rfl, by rw [hw]; exact ⟨_, gw_self _⟩⟩) (fun h => absurd h him)
          case skip =>
            obtain ⟨rfl, e⟩ := hat
            exact after hI hi hr ho hd hdlt (fun _ => ⟨e.symm, by rw [hw]; exact ⟨_, gw_self _⟩⟩) (fun h => absurd h him)
          case enter f args =>
            obtain ⟨rfl, hc⟩ := hat
            refine hc.mono fun e w2 he => ?_
            obtain ⟨rfl, q2, rfl⟩ := he
            exact after hI hi hr ho hd hdlt (fun _ => ⟨rfl, q2, by rw [hw]⟩) (fun h => absurd h him)
      · rw [if_neg hwant] at hop
        have hwant' : Region.wanted o (yielded l.toArray a'.tmps) = false := by rw [hww]; simpa using hwant
        simp only [hwant', Bool.false_eq_true, if_false]
        exact after hI hi hr ho hd hdlt (fun _ => ⟨hop.symm, ⟨_, gw_self _⟩⟩) (fun h => absurd h him)
  · -- the tail
    intro listed a' w' ⟨β, q, hw, hdef, hsz, hinv, s1, s2, s3, s4, s5⟩ h0 f hf
    have hl := headDone_eq hinv h0
    have hgd : ∀ i, i < n → listed.getD i false = true := by
      intro i hi
      rw [hl]
      have : i < l.length := by have := hn; simp at this; omega
      simp [headDone, this, hi]
    have hact : a' = putMk (makerOps l ms) fs ((dstsOf (makerOps l ms)).map β) A := by
      have hsh := putMk_shape (makerOps l ms) fs ((dstsOf (makerOps l ms)).map β) A
      refine act_ext (hsz.trans (hAs.symm.trans hsh.1.symm)) (hdef.trans (hAd.symm.trans hsh.2.symm)) fun t => ?_
      rw [hput β A (fun d hd => by
        obtain ⟨o, ho, hod⟩ := mem_dstsOf.1 hd
        obtain ⟨d', hd', hlt, _⟩ := hmkd' o ho
        have : d' = d := Option.some.inj (hd'.symm.trans hod)
        subst this
        exact hAs.symm ▸ hlt) t]
      by_cases htm : t ∈ dstsOf (makerOps l ms)
      · rw [if_pos htm]
        obtain ⟨o, ho, hod⟩ := mem_dstsOf.1 htm
        obtain ⟨i, him, hio⟩ := (mem_makerOps (ops := l.toArray)).1 (by simpa using ho)
        rw [s3 i o t him hio hod, if_pos (hgd i (hmsn' i him))]
      · rw [if_neg htm, hAslot t]
        by_cases htq : t ∈ dstsOf (quietOps l n ms)
        · rw [if_pos htq]
          obtain ⟨o, ho, hod⟩ := mem_dstsOf.1 htq
          obtain ⟨i, hi, him, hio⟩ := (mem_quietOps (ops := l.toArray)).1 (by simpa using ho)
          rw [s2 i o t hi him hio hod, if_pos (hgd i hi)]
        · rw [if_neg htq]; exact s1 t htq htm
    have hheap : heapMk fs ((dstsOf (makerOps l ms)).map β) w' := by
      refine heapMk_of (w := w') (β := β) (O := O) _ _ hmkdst hmake fun o ho d hd => ?_
      obtain ⟨i, him, hio⟩ := (mem_makerOps (ops := l.toArray)).1 (by simpa using ho)
      refine ⟨(s4 i o d him hio hd (hgd i (hmsn' i him))).2, fun g ob hg => ?_⟩
      exact makes_inj (hg ⟨0, #[]⟩) ((hFO o ho d hd).2 ⟨0, #[]⟩)
    have hbn : ((dstsOf (makerOps l ms)).map β).Nodup := by
      have key : ∀ d ∈ dstsOf (makerOps l ms), ∀ d' ∈ dstsOf (makerOps l ms), d ≠ d' → β d ≠ β d' := by
        intro d hd d' hd' hne
        obtain ⟨o, ho, hod⟩ := mem_dstsOf.1 hd
        obtain ⟨o', ho', hod'⟩ := mem_dstsOf.1 hd'
        obtain ⟨i, him, hio⟩ := (mem_makerOps (ops := l.toArray)).1 (by simpa using ho)
        obtain ⟨j, hjm, hjo⟩ := (mem_makerOps (ops := l.toArray)).1 (by simpa using ho')
        refine s5 i o d j o' d' him hio hod (hgd i (hmsn' i him)) hjm hjo hod' (hgd j (hmsn' j hjm)) ?_
        intro e
        subst e
        have e1 : o = o' := Option.some.inj (hio.symm.trans hjo)
        subst e1
        exact hne (Option.some.inj (hod.symm.trans hod'))
      have map_nodup : ∀ L : List Tmp, L.Nodup → (∀ d ∈ L, ∀ d' ∈ L, d ≠ d' → β d ≠ β d') → (L.map β).Nodup := by
        intro L
        induction L with
        | nil => intro _ _; simp
        | cons x L ih =>
          intro hL hk
          obtain ⟨hx, hL'⟩ := List.nodup_cons.1 hL
          rw [List.map_cons, List.nodup_cons]
          refine ⟨fun hm => ?_, ih hL' (fun d hd d' hd' => hk d (List.mem_cons.2 (.inr hd)) d' (List.mem_cons.2 (.inr hd')))⟩
          obtain ⟨y, hy, e⟩ := List.mem_map.1 hm
          exact hk y (List.mem_cons.2 (.inr hy)) x (List.mem_cons.2 (.inl rfl)) (fun e' => hx (e' ▸ hy)) e
      exact map_nodup _ hnodup key
    have hwl := hfin ((dstsOf (makerOps l ms)).map β) (by rw [List.length_map, dstsOf_length hmkdst]) hbn (fun b hb => by
      obtain ⟨d, hd, rfl⟩ := List.mem_map.1 hb
      obtain ⟨o, ho, hod⟩ := mem_dstsOf.1 hd
      obtain ⟨i, him, hio⟩ := (mem_makerOps (ops := l.toArray)).1 (by simpa using ho)
      exact (s4 i o d him hio hod (hgd i (hmsn' i him))).1) q (by rw [← hw]; exact hheap)
    rw [← hact, ← hw] at hwl
    have hdl : (l.drop n).length = l.toArray.size - n := by simp
    have := wpAny_of_seq (md := .any) (Q' := Q) (l.drop n) n listed a' w' (fun j => by simp [List.getElem?_drop]) (by rw [hdl, hl]; exact hseq) hwl
    rw [hdl] at this
    have h2 := wpAny_more _ (f - (l.toArray.size - n)) _ _ _ this
    rwa [show l.toArray.size - n + (f - (l.toArray.size - n)) = f by omega] at h2
  · -- the fuel
    have : headLeft (Array.replicate l.toArray.size false) n ≤ n := by
      unfold headLeft
      exact Nat.le_trans (List.length_filter_le _ _) (by simp)
    omega

/-- A whole row stored into a row of the call's own. -/
theorem wpList_store_row {P : Program} {ops : Array Oper} {Q : Exit → Act → World → Prop} {a : Act} {w : World} {rest : List Oper} {o : Oper} (hgd : o.guard = none) (ty : TypeId) (x y : Operand) (ho : o.op = .store ty x y) (hdst : o.dst = none)
    (g : Nat) (hx : a.eval x = .pointer (some ⟨g, 0, none⟩)) (cs : Array Value) (hy : a.eval y = .agg cs) (t : TypeId) (old : Array Value) (hg : w.heap[g]? = some (.cells old t (0, 0)))
    (hs : cs.size = old.size) (hi : (P.info? ty).map (·.size) = some cs.size) (hone : ∀ v ∈ cs.toList, v.oneCell' = true) (h : wpList P ops Q rest a (w.setRow g cs)) : wpList P ops Q (o :: rest) a w := by
  refine wpList_plain hgd fun K hK => ?_
  have hst : (storeCells ⟨g, 0, none⟩ cs.toList).run P w = .ok () (w.setRow g cs) := by
    have := run_storeCells_at (P := P) g 0 t cs.toList 0 old w hg (by simp; omega) hone
    rw [this]
    congr 2
    simp only [Nat.zero_add, List.take_zero, List.nil_append]
    have e : old.toList.drop cs.toList.length = [] := by rw [List.drop_eq_nil_iff]; simp; omega
    first
      | (rw [e]; simp)
      | simp [e]
  cases hq : P.info? ty with
  | none => simp [hq] at hi
  | some inf =>
    have hsz : inf.size = cs.size := by simpa [hq] using hi
    unfold Oper.wp execOp
    simp only [ho, hx, hy, Instr.storeAt, Instr.sureAddr, Sem.run_bind, Sem.run_pure, Result.andThen_ok, storeVar, Value.cells]
    simp [sizeOf, typeInfo, hq, hsz, hst, Oper.upon, hdst, Act.put]
    exact hK _ _ h

theorem below_setRow' {B g : Nat} {w0 w : World} (hb : Below B w0 w) (hBg : B ≤ g) (cs : Array Value) : Below B w0 (w.setRow g cs) :=
  hb.trans ⟨rfl, rfl, rfl, by simp, fun k hk => setRow_other w g k cs (by omega)⟩
theorem one_row (W : World) (q : Regrown) (b : Nat) (hb : W.heap.size ≤ b) (old cs : Array Value) (t : TypeId) (hh : (gw W q).heap[b]? = some (.cells old t (0, 0))) :
    ∃ q', (gw W q).setRow b cs = gw W q' ∧ (gw W q').heap[b]? = some (.cells cs t (0, 0)) ∧ ∀ k : Nat, k ≠ b → (gw W q').heap[k]? = (gw W q).heap[k]? := by
  obtain ⟨q', hq'⟩ := gw_of_below (below_setRow' (gw_below W q) hb cs)
  refine ⟨q', hq', ?_, fun k hk => ?_⟩
  · rw [← hq']; exact setRow_heap _ _ _ _ _ _ hh
  · rw [← hq']; exact setRow_other _ _ _ _ hk
theorem row_cells {W : World} {b : Nat} {cs : Array Value} {t : TypeId} {fr : Nat × Nat} (h : W.heap[b]? = some (.cells cs t fr)) : ∀ o, W.cell? ⟨b, o, none⟩ = cs[o]? := fun o => cell_of_row W b o cs t fr h
theorem oldIn_of {W : World} {q : Regrown} {b : Nat} {ob : Obj} (hb : W.heap.size ≤ b) (h : (gw W q).heap[b]? = some ob) : OldIn b W q := by
  refine ⟨hb, ?_⟩
  rcases Nat.lt_or_ge b (gw W q).heap.size with h' | h'
  · simpa using h'
  · rw [Array.getElem?_eq_none h'] at h; cases h

/-- A whole row loaded, in a region of quiet operations. -/
theorem wpG_load_row {P : Program} {ops : Array Oper} {W : World} {R : Act → Prop} {a : Act} {o : Oper} {rest : List Oper} (hgd : o.guard = none) (ty : TypeId) (x : Operand) (ho : o.op = .load ty x)
    (g : Nat) (hx : a.eval x = .pointer (some ⟨g, 0, none⟩)) (t : TypeId) (cs : Array Value) (fr : Nat × Nat) (hg : W.heap[g]? = some (.cells cs t fr))
    (hu : (match P.underlying ty with | some (.struct _) | some (.array _ _) => true | _ => false) = true) (hi : (P.info? ty).map (·.size) = some cs.size)
    (h : wpG P ops W R rest (a.put o.dst (.agg cs))) : wpG P ops W R (o :: rest) a := by
  refine wpG_step fun K hK => ?_
  rw [if_pos (by simp [Region.wanted, hgd])]
  refine ⟨.agg cs, fun p => ?_, hK _ h⟩
  have hlt : g < W.heap.size := by
    rcases Nat.lt_or_ge g W.heap.size with h' | h'
    · exact h'
    · rw [Array.getElem?_eq_none h'] at hg; cases hg
  have hg' : (gw W p).heap[g]? = some (.cells cs t fr) := by rw [gw_heap W p g hlt]; exact hg
  cases hd : P.underlying ty with
  | none => simp [hd] at hu
  | some d =>
    have hu' : (match d with | .struct _ | .array _ _ => true | _ => false) = true := by
      rw [hd] at hu; cases d <;> simp_all
    unfold gqAt execOp
    simp only [ho, hx, Instr.loadAt, Instr.sureAddr, Sem.run_bind, Sem.run_pure, Result.andThen_ok, run_loadVar_row (gw W p) g t ty cs fr d hg' hd hu' hi]
    exact ⟨rfl, rfl⟩
/-- Part of a row stored. -/
def splice (old : Array Value) (off : Nat) (cs : Array Value) : Array Value := (old.toList.take off ++ cs.toList ++ old.toList.drop (off + cs.toList.length)).toArray
theorem wpList_store_at {P : Program} {ops : Array Oper} {Q : Exit → Act → World → Prop} {a : Act} {w : World} {rest : List Oper} {o : Oper} (hgd : o.guard = none) (ty : TypeId) (x y : Operand) (ho : o.op = .store ty x y) (hdst : o.dst = none)
    (g off : Nat) (hx : a.eval x = .pointer (some ⟨g, off, none⟩)) (cs : Array Value) (hy : a.eval y = .agg cs) (t : TypeId) (old : Array Value) (hg : w.heap[g]? = some (.cells old t (0, 0)))
    (hs : off + cs.size ≤ old.size) (hi : (P.info? ty).map (·.size) = some cs.size) (hone : ∀ v ∈ cs.toList, v.oneCell' = true) (h : wpList P ops Q rest a (w.setRow g (splice old off cs))) : wpList P ops Q (o :: rest) a w := by
  refine wpList_plain hgd fun K hK => ?_
  have hst : (storeCells ⟨g, off, none⟩ cs.toList).run P w = .ok () (w.setRow g (splice old off cs)) := by
    have := run_storeCells_at (P := P) g off t cs.toList 0 old w hg (by simp; omega) hone
    rw [this]
    rfl
  cases hq : P.info? ty with
  | none => simp [hq] at hi
  | some inf =>
    have hsz : inf.size = cs.size := by simpa [hq] using hi
    unfold Oper.wp execOp
    simp only [ho, hx, hy, Instr.storeAt, Instr.sureAddr, Sem.run_bind, Sem.run_pure, Result.andThen_ok, storeVar, Value.cells]
    simp [sizeOf, typeInfo, hq, hsz, hst, Oper.upon, hdst, Act.put]
    exact hK _ _ h
theorem splice_get (old cs : Array Value) (off i : Nat) (h : off + cs.size ≤ old.size) : (splice old off cs)[i]? = if off ≤ i ∧ i < off + cs.size then cs[i - off]? else old[i]? := by
  unfold splice
  simp only [List.getElem?_toArray, List.append_assoc]
  have hl : (old.toList.take off).length = off := by simp; omega
  by_cases h1 : i < off
  · rw [List.getElem?_append_left (by omega), if_neg (by omega)]
    simp [h1]
  · rw [List.getElem?_append_right (by omega), hl]
    by_cases h2 : i < off + cs.size
    · rw [List.getElem?_append_left (by simp; omega), if_pos ⟨by omega, h2⟩]
      simp
    · rw [List.getElem?_append_right (by simp; omega), if_neg (by omega)]
      simp only [Array.length_toList, List.getElem?_drop]
      rw [show off + cs.size + (i - off - cs.size) = i by omega]
      simp
theorem splice_size (old cs : Array Value) (off : Nat) (h : off + cs.size ≤ old.size) : (splice old off cs).size = old.size := by
  unfold splice
  simp; omega

end Go.Proofs.Ytbhkcejjehgfcaa
