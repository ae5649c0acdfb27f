/- Lists of operations; calls of functions that only compute; new variables; stores; slices that grow. -/
import Derived.Test.YtbhkcejjehgfcaaAd
namespace Go.Proofs.Ytbhkcejjehgfcaa
open Go.RowKit Go.Sort
set_option linter.unusedVariables false

/-! ### Functions that only compute -/
/-- The function is one with a body. -/
def Ent (P : Program) (f : FuncId) : Prop := ∀ (args : Array Value) (w : World), (callFunc f args).run P w = .ok (.enter f args) w
def ARs (N : Nat) (D : Nat → Prop) (loc : Nat → Option Value) (w : World) (xs : List AV) (vs : List Value) : Prop := vs.length = xs.length ∧ ∀ (j : Nat) x v, xs[j]? = some x → vs[j]? = some v → AR N D loc w x v
abbrev noLoc : Nat → Option Value := fun _ => none
def PureC (P : Program) (f : FuncId) (xs : List AV) (r : AV) : Prop := ∀ L w vs, (∀ b, L b → b < w.heap.size) → ARs 0 L noLoc w xs vs →
  Calls P f vs.toArray w fun e w' => ∃ v, e = .returned v ∧ Blw w.heap.size w w' ∧ AR 0 L noLoc w' r v
/-- The result is data of its own: in blocks that were not there. -/
def PureF (P : Program) (f : FuncId) (xs : List AV) (x : PV) : Prop := ∀ L w vs, (∀ b, L b → b < w.heap.size) → ARs 0 L noLoc w xs vs →
  Calls P f vs.toArray w fun e w' => ∃ v, e = .returned v ∧ Blw w.heap.size w w' ∧ PR (fun b => b < w.heap.size) w' x v
theorem AR.bare {N : Nat} {D L : Nat → Prop} {loc : Nat → Option Value} {w : World} {x : AV} {v : Value} (h : AR N D loc w x v) (hx : x.okB 0 = true) (hD : ∀ b, L b → D b) : AR 0 L noLoc w x v :=
  (h.low hx).mono (Nat.le_refl _) (Kp.refl _ _) (fun k _ hk => hD k hk) (fun _ _ h => by omega)
theorem AR.dress {N : Nat} {D : Nat → Prop} {loc : Nat → Option Value} {w : World} {x : AV} {v : Value} (h : AR 0 D noLoc w x v) : AR N D loc w x v :=
  h.mono (Nat.zero_le _) (Kp.refl _ _) (fun _ _ h => h) (fun _ _ h => by omega)

section
variable {P : Program} {ops : Array Oper} {o : Oper} {s : ASt}
theorem op_call (f : FuncId) (args : Array Operand) (tys : Array TypeId) (r : AV) (h : o.op = .call { callee := .value (.func f), args := args, argTypes := tys }) (he : Ent P f) (hp : PureC P f (args.toList.map s.ev) r)
    (hok : ((args.toList.map s.ev).all (·.okB 0)) = true) : OpVal P ops o s r := fun L loc a w hr => by
  refine .inr ⟨f, args.map a.eval, ?_, ?_⟩
  · have := he (args.map a.eval) w
    simp [execOp, h, resolve, Act.eval, Deferred.ofValue, invoke, this]
  · have := hp (Dm L loc) w (args.toList.map a.eval) (fun b hb => hr.hp.dm_lt hb) ⟨by simp, fun j x v hx hv => by
      simp only [List.getElem?_map, Option.map_eq_some_iff] at hx hv
      obtain ⟨y, hy, rfl⟩ := hx
      obtain ⟨y', hy', rfl⟩ := hv
      rw [hy] at hy'
      cases hy'
      have hm : y ∈ o.op.operands.toList := by
        simp only [h, Op.operands, Call.operands, Array.toList_append, List.mem_append]
        exact .inr (List.mem_of_getElem? hy)
      exact (hr.ev y (looks_mem hm)).bare (List.all_eq_true.1 hok _ (List.mem_map_of_mem (List.mem_of_getElem? hy))) (fun _ h => h)⟩
    have e : (args.toList.map a.eval).toArray = args.map a.eval := by apply Array.ext'; simp
    rw [e] at this
    exact this.mono fun e w' ⟨v, h1, h2, h3⟩ => ⟨v, h1, h2, h3.dress⟩
/-- The walk's own slices, as the callee sees them. -/
def AV.view (s : ASt) : AV → AV
  | .own t => match s.hp.lookup t with
    | some (.row _ n rows) => .p (.seq n rows)
    | _ => .own t
  | x => x
def AV.scal : AV → Bool
  | .p (.val _) => true
  | .tup cs => cs.all fun c => match c with
    | .p (.val _) => true
    | _ => false
  | _ => false
theorem AR.scal {N : Nat} {D D' : Nat → Prop} {loc loc' : Nat → Option Value} {w : World} {x : AV} {v : Value} (h : AR 0 D loc w x v) (hx : x.scal = true) : AR N D' loc' w x v := by
  cases h with
  | p y v hp => cases hp <;> first | (exact .of_val _ (by assumption)) | cases hx
  | tup cs vs hl ha =>
    refine .tup cs vs hl fun j x hx' => ?_
    have h1 := List.all_eq_true.1 hx x (List.mem_of_getElem? hx')
    have h2 := ha j x hx'
    cases x <;> try cases h1
    rename_i y
    cases y <;> try cases h1
    cases h2 with
    | p _ _ hp => cases hp; exact .of_val _ (by assumption)
  | _ => cases hx
theorem OR.seq {N : Nat} {D L : Nat → Prop} {loc : Nat → Option Value} {w : World} {u : Value} {e n : Nat} {rows : List (List PV)} (h : OR N D loc w u (.row e n rows)) (hL : ∀ b, L b → D b) (hb : ∀ b, blkOf u = some b → ¬ L b) : PR L w (.seq n rows) u := by
  obtain ⟨flat, hown, hn, hf, h1⟩ := h
  rcases hown.2 with ⟨rfl, h0⟩ | ⟨g, cap, cur, rfl, _, hg, hle, hmx, hcs, htk⟩
  · have : rows = [] := List.eq_nil_of_length_eq_zero h0
    subst this
    exact .nil n none 0 (fun _ => rfl)
  · have hlt := (Array.getElem?_eq_some_iff.1 hg).1
    refine .seq n g 0 cap rows (fun k j => flat.getD (k * n + j) undef) hlt (hb g rfl) hle hmx hn (fun k r j x hk hx => ?_) (fun k r j x hk hx => ?_)
    · obtain ⟨v, h5, h6⟩ := hf k r j x hk hx
      rw [List.getD_eq_getElem?_getD, h5, Nat.zero_add]
      exact own_cell hown h5
    · obtain ⟨v, h5, h6⟩ := hf k r j x hk hx
      rw [List.getD_eq_getElem?_getD, h5]
      exact h6.mono (Kp.refl _ _) (fun b _ h => hL b h)
theorem op_callV (f : FuncId) (args : Array Operand) (tys : Array TypeId) (r : AV) (h : o.op = .call { callee := .value (.func f), args := args, argTypes := tys }) (he : Ent P f) (hp : PureC P f (args.toList.map fun x => (s.ev x).view s) r)
    (hok : ((args.toList.map fun x => (s.ev x).view s).all (·.okB 0)) = true) (hs : r.scal = true) : OpVal P ops o s r := fun L loc a w hr => by
  refine .inr ⟨f, args.map a.eval, ?_, ?_⟩
  · have := he (args.map a.eval) w
    simp [execOp, h, resolve, Act.eval, Deferred.ofValue, invoke, this]
  · have := hp L w (args.toList.map a.eval) (fun b hb => hr.hp.inL b hb) ⟨by simp, fun j x v hx hv => by
      simp only [List.getElem?_map, Option.map_eq_some_iff] at hx hv
      obtain ⟨y, hy, rfl⟩ := hx
      obtain ⟨y', hy', rfl⟩ := hv
      rw [hy] at hy'
      cases hy'
      have hm : y ∈ o.op.operands.toList := by
        simp only [h, Op.operands, Call.operands, Array.toList_append, List.mem_append]
        exact .inr (List.mem_of_getElem? hy)
      have hok' := List.all_eq_true.1 hok ((s.ev y).view s) (List.mem_map.2 ⟨y, List.mem_of_getElem? hy, rfl⟩)
      have h1 := hr.ev y (looks_mem hm)
      generalize s.ev y = ay at *
      by_cases hv : ∃ t, ay = .own t
      · obtain ⟨t, rfl⟩ := hv
        simp only [AV.view] at hok' ⊢
        split
        · rename_i e n rows hlk
          obtain ⟨_, u, hu, hor⟩ := hr.hp.at' t _ hlk
          generalize a.eval y = v at *
          cases h1 with
          | own _ _ _ _ hv2 =>
            obtain rfl := hv2 u hu
            exact .p _ _ (hor.seq (fun b hb => .inl hb) (fun b hb => hr.hp.notL t _ b hu hb))
        · rename_i hno
          split at hok'
          · rename_i e n rows hlk; exact absurd hlk (hno e n rows)
          · simp [AV.okB] at hok'
      · have e : ay.view s = ay := by
          cases ay <;> first | rfl | exact absurd ⟨_, rfl⟩ hv
        rw [e] at hok' ⊢
        exact h1.bare hok' (fun b hb => .inl hb)⟩
    have e : (args.toList.map a.eval).toArray = args.map a.eval := by apply Array.ext'; simp
    rw [e] at this
    exact this.mono fun e w' ⟨v, h1, h2, h3⟩ => ⟨v, h1, h2, h3.scal hs⟩
theorem op_callVF (f : FuncId) (args : Array Operand) (tys : Array TypeId) (r : PV) (h : o.op = .call { callee := .value (.func f), args := args, argTypes := tys }) (he : Ent P f) (hp : PureF P f (args.toList.map fun x => (s.ev x).view s) r)
    (hok : ((args.toList.map fun x => (s.ev x).view s).all (·.okB 0)) = true) : OpVal P ops o s (.p r) := fun L loc a w hr => by
  refine .inr ⟨f, args.map a.eval, ?_, ?_⟩
  · have := he (args.map a.eval) w
    simp [execOp, h, resolve, Act.eval, Deferred.ofValue, invoke, this]
  · have := hp L w (args.toList.map a.eval) (fun b hb => hr.hp.inL b hb) ⟨by simp, fun j x v hx hv => by
      simp only [List.getElem?_map, Option.map_eq_some_iff] at hx hv
      obtain ⟨y, hy, rfl⟩ := hx
      obtain ⟨y', hy', rfl⟩ := hv
      rw [hy] at hy'
      cases hy'
      have hm : y ∈ o.op.operands.toList := by
        simp only [h, Op.operands, Call.operands, Array.toList_append, List.mem_append]
        exact .inr (List.mem_of_getElem? hy)
      have hok' := List.all_eq_true.1 hok ((s.ev y).view s) (List.mem_map.2 ⟨y, List.mem_of_getElem? hy, rfl⟩)
      have h1 := hr.ev y (looks_mem hm)
      generalize s.ev y = ay at *
      by_cases hv : ∃ t, ay = .own t
      · obtain ⟨t, rfl⟩ := hv
        simp only [AV.view] at hok' ⊢
        split
        · rename_i e n rows hlk
          obtain ⟨_, u, hu, hor⟩ := hr.hp.at' t _ hlk
          generalize a.eval y = v at *
          cases h1 with
          | own _ _ _ _ hv2 =>
            obtain rfl := hv2 u hu
            exact .p _ _ (hor.seq (fun b hb => .inl hb) (fun b hb => hr.hp.notL t _ b hu hb))
        · rename_i hno
          split at hok'
          · rename_i e n rows hlk; exact absurd hlk (hno e n rows)
          · simp [AV.okB] at hok'
      · have e : ay.view s = ay := by
          cases ay <;> first | rfl | exact absurd ⟨_, rfl⟩ hv
        rw [e] at hok' ⊢
        exact h1.bare hok' (fun b hb => .inl hb)⟩
    have e : (args.toList.map a.eval).toArray = args.map a.eval := by apply Array.ext'; simp
    rw [e] at this
    exact this.mono fun e w' ⟨v, h1, h2, h3⟩ => ⟨v, h1, h2, (.p _ _ (h3.mono (Kp.refl _ _) fun k _ hk => hr.hp.dm_lt hk))⟩
/-- A call of a function value. -/
theorem op_callF (t : Tmp) (f : FuncId) (caps : List AV) (args : Array Operand) (tys : Array TypeId) (r : AV) (h : o.op = .call { callee := .value (.tmp t), args := args, argTypes := tys }) (hf : s.get t = .fn (.func f) caps) (he : Ent P f)
    (hp : PureC P f (args.toList.map s.ev ++ caps) r) (hok : ((args.toList.map s.ev ++ caps).all (·.okB 0)) = true) : OpVal P ops o s r := fun L loc a w hr => by
  have h0 := hr.ev (.tmp t) (looks_mem (by simp [h, Op.operands, Call.operands]))
  simp only [ASt.ev, hf] at h0
  generalize hu : a.eval (.tmp t) = u at h0
  cases h0 with
  | fn _ _ vs hvl hva =>
  refine .inr ⟨f, args.map a.eval ++ vs, ?_, ?_⟩
  · have := he (args.map a.eval ++ vs) w
    simp [execOp, h, resolve, hu, Deferred.ofValue, invoke, this]
  · have := hp (Dm L loc) w (args.toList.map a.eval ++ vs.toList) (fun b hb => hr.hp.dm_lt hb) ⟨by simp [hvl], fun j x v hx hv => by
      have hkb : x.okB 0 = true := List.all_eq_true.1 hok _ (List.mem_of_getElem? hx)
      rw [List.getElem?_append] at hx hv
      simp only [List.length_map] at hx hv
      split at hx
      · rename_i hlt
        rw [if_pos hlt] at hv
        simp only [List.getElem?_map, Option.map_eq_some_iff] at hx hv
        obtain ⟨y, hy, rfl⟩ := hx
        obtain ⟨y', hy', rfl⟩ := hv
        rw [hy] at hy'
        cases hy'
        have hm : y ∈ o.op.operands.toList := by
          simp only [h, Op.operands, Call.operands, Array.toList_append, List.mem_append]
          exact .inr (List.mem_of_getElem? hy)
        exact (hr.ev y (looks_mem hm)).bare hkb (fun _ h => h)
      · rename_i hlt
        rw [if_neg hlt] at hv
        have h5 := hva _ x hx
        have h6 : vs[j - args.toList.length]? = some v := by simpa using hv
        rw [Array.getD_eq_getD_getElem?, h6] at h5
        exact h5.bare hkb (fun _ h => h)⟩
    have e : (args.toList.map a.eval ++ vs.toList).toArray = args.map a.eval ++ vs := by simp
    rw [e] at this
    exact this.mono fun e w' ⟨v, h1, h2, h3⟩ => ⟨v, h1, h2, h3.dress⟩
end

/-! ### Lists of operations -/
section
variable {P : Program} {ops : Array Oper} {Q : Exit → ASt → Prop} {rest : List Oper} {o : Oper} {s : ASt}
theorem Rel.sub {X X' : Nat → Prop} {L : Lim} {s : ASt} {loc : Nat → Option Value} {a : Act} {w : World} (h : Rel X L s loc a w) (hX : ∀ t, X' t → X t) : Rel X' L s loc a w := ⟨h.defers, h.size, fun t ht => h.fr t (hX t ht), h.hp⟩
/-- The guard says yes, or there is none. -/
def Wants (ops : Array Oper) (o : Oper) (s : ASt) : Prop := match o.guard with
  | none => True
  | some (g, want) => match (ops[g]?).bind (·.dst) with
    | some t => s.get t = .bool want
    | none => False
def Unwanted (ops : Array Oper) (o : Oper) (s : ASt) : Prop := match o.guard with
  | none => False
  | some (g, want) => match (ops[g]?).bind (·.dst) with
    | some t => s.get t = .bool (!want) ∨ s.get t = .tup []
    | none => False
theorem guard_slot {X : Nat → Prop} {L : Lim} {loc : Nat → Option Value} {a : Act} {w : World} (hr : Rel X L s loc a w) {t : Nat} {b : Bool} (hX : X t) (h : s.get t = .bool b) : a.tmps[t]? = some (.bool b) := by
  have h1 := hr.fr t hX
  rw [h] at h1
  have h2 := h1.val
  unfold slot at h2
  rw [Array.getD_eq_getD_getElem?] at h2
  cases h3 : a.tmps[t]? with
  | none => rw [h3] at h2; cases h2
  | some v => rw [h3] at h2; simpa using h2
theorem Wants.spec {L : Lim} {loc : Nat → Option Value} {a : Act} {w : World} (h : Wants ops o s) (hr : Rel (looks ops o) L s loc a w) : Region.wanted o (yielded ops a.tmps) = true := by
  unfold Wants at h
  cases hg : o.guard with
  | none => simp [Region.wanted, hg]
  | some gw =>
    obtain ⟨g, want⟩ := gw
    rw [hg] at h
    simp only at h
    cases hd : (ops[g]?).bind (·.dst) with
    | none => rw [hd] at h; exact h.elim
    | some t =>
      rw [hd] at h
      have := guard_slot hr (t := t) (List.mem_append.2 (.inr (by simp [hg, hd]))) h
      simp [Region.wanted, hg, yielded, hd, this]
theorem Unwanted.spec {L : Lim} {loc : Nat → Option Value} {a : Act} {w : World} (h : Unwanted ops o s) (hr : Rel (looks ops o) L s loc a w) : Region.wanted o (yielded ops a.tmps) = false := by
  unfold Unwanted at h
  cases hg : o.guard with
  | none => rw [hg] at h; exact h.elim
  | some gw =>
    obtain ⟨g, want⟩ := gw
    rw [hg] at h
    simp only at h
    cases hd : (ops[g]?).bind (·.dst) with
    | none => rw [hd] at h; exact h.elim
    | some t =>
      rw [hd] at h
      rcases h with h | h
      · have := guard_slot hr (t := t) (List.mem_append.2 (.inr (by simp [hg, hd]))) h
        simp only [Region.wanted, hg, yielded, hd, this, Option.bind_some]
        cases want <;> rfl
      · have h1 := hr.fr t (List.mem_append.2 (.inr (by simp [hg, hd])))
        rw [h] at h1
        generalize hv : slot a t = v at h1
        cases h1 with
        | tup _ vs hl _ =>
        have h2 : vs = #[] := Array.eq_empty_of_size_eq_zero hl
        subst h2
        simp only [Region.wanted, hg, yielded, hd, Option.bind_some]
        cases h3 : a.tmps[t]? with
        | none => cases want <;> rfl
        | some v =>
          unfold slot at hv
          rw [Array.getD_eq_getD_getElem?, h3] at hv
          simp only [Option.getD_some] at hv
          subst hv
          cases want <;> rfl
theorem TL.nil (h : Q .normal s) : TL P ops Q [] s := fun _ loc _ _ hr => .of h hr (Ext.refl _ _)
theorem TL.skip (h : Unwanted ops o s) (k : TL P ops Q rest (s.put o.dst (.tup []))) (hd : ∀ t, o.dst = some t → t < s.n) : TL P ops Q (o :: rest) s := fun L loc a w hr => by
  unfold wpList
  rw [h.spec (hr.sub fun _ _ => trivial), if_neg (by simp)]
  exact k L loc _ w (hr.put' hd (show AR _ _ _ _ (.tup []) undef from .tup [] #[] rfl (fun j x hx => by simp at hx)))
/-- The operation turns s into s'. -/
def OpEff (P : Program) (o : Oper) (s : ASt) (s' : ASt) : Prop := ∀ L loc a w, Rel All L s loc a w → o.wp P a w (fun a' w' => ∃ loc', Rel All L s' loc' a' w' ∧ Ext loc w loc' w') (fun _ _ _ => False)
theorem TL.eff (hw : Wants ops o s) {s' : ASt} (h : OpEff P o s s') (k : TL P ops Q rest s') : TL P ops Q (o :: rest) s := fun L loc a w hr => by
  unfold wpList
  rw [hw.spec (hr.sub fun _ _ => trivial), if_pos rfl]
  refine .inl (oper_mono (fun a' w' ⟨loc', h1, h2⟩ => ?_) (fun _ _ _ h => h.elim) (h L loc a w hr))
  exact wpList_mono (fun _ _ _ k => k.ext h2) rest a' w' (k L loc' a' w' h1)
theorem OpVal.eff {av : AV} (h : OpVal P ops o s av) (hd : ∀ t, o.dst = some t → t < s.n) : OpEff P o s (s.put o.dst av) := fun L loc a w hr => by
  unfold Oper.wp
  rcases h L loc a w (hr.sub fun _ _ => trivial) with ⟨v, w', h1, h2, h3⟩ | ⟨f, args, h1, h2⟩
  · rw [h1]
    exact ⟨loc, (hr.below h2).put' hd h3, .of_below h2⟩
  · rw [h1]
    refine h2.mono fun e w' ⟨v, he, hb, ha⟩ => ?_
    subst he
    exact ⟨loc, (hr.below hb).put' hd ha, .of_below hb⟩
theorem TL.val (hw : Wants ops o s) (av : AV) (h : OpVal P ops o s av) (hd : ∀ t, o.dst = some t → t < s.n) (k : TL P ops Q rest (s.put o.dst av)) : TL P ops Q (o :: rest) s := TL.eff hw (h.eff hd) k
/-- A region ends as every list of operations does. -/
def NQ (Q : Exit → ASt → Prop) (e : Exit) (s : ASt) : Prop := e = .normal ∧ Q .normal s
theorem NQ.out {L : Lim} {loc : Nat → Option Value} {w : World} {Q : Exit → ASt → Prop} (a : Act) (w' : World) : ¬ TPost L loc w (NQ Q) .outgrown a w' := fun ⟨_, _, h, _⟩ => by cases h.1
theorem NQ.post {L : Lim} {loc : Nat → Option Value} {w : World} {Q : Exit → ASt → Prop} {e : Exit} {a : Act} {w' : World} (h : TPost L loc w (NQ Q) e a w') : TPost L loc w Q e a w' := by
  obtain ⟨s', loc', ⟨rfl, h1⟩, h2, h3⟩ := h
  exact ⟨s', loc', h1, h2, h3⟩
theorem NQ.normal (Q : Exit → ASt → Prop) (s : ASt) : NQ Q .normal s = Q .normal s := by simp [NQ]
def noDefB (l : List Oper) : Bool := l.all noDef1
theorem noDefB_spec {l : List Oper} (h : noDefB l = true) : ∀ o ∈ l, noDef1 o = true := List.all_eq_true.1 h
theorem T.region {F : Fence} [FOk F] {id : Nat} {l : List Oper} (hd : noDefB l = true) (h : TL P l.toArray (NQ Q) l s) : T F P (.region id l.toArray false) Q s := fun L loc a w hr =>
  wpIn_mono (wpIn_region_lit (list_in NQ.out l a w (noDefB_spec hd) (h L loc a w hr))) fun _ _ _ k => NQ.post k
end
end Go.Proofs.Ytbhkcejjehgfcaa
