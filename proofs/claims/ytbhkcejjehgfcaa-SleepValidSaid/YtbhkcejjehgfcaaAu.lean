/- yield, and ranges over functions. -/
import Derived.Test.YtbhkcejjehgfcaaAt
import Derived.RangeFuncOwn
namespace Go.Proofs.Ytbhkcejjehgfcaa
open Go.RowKit Go.Sort
set_option linter.unusedSimpArgs false
set_option linter.unusedVariables false

/-! ### Calls of yield -/
/-- yield of the loop l, called with xs where the objects of hp lie. -/
def YldC (P : Program) (l : Nat) (n : Nat) (hp : Hp) (xs : List AV) (Q : Hp → AV → Prop) : Prop := ∀ L loc w vs, HRel L n hp loc w → ARs n (Dm L loc) loc w xs vs →
  ∃ f tmps assign body, (Instr.yield l vs.toArray).run P w = .ok (.round l f tmps assign body) w ∧ RoundIn Fence.wide 0 P l f tmps assign body w fun e w' => ∃ v loc' hp' r, e = .returned v ∧ Q hp' r ∧ HRel L n hp' loc' w' ∧ AR n (Dm L loc') loc' w' r v ∧ Ext loc w loc' w'
def CallY (P : Program) (s : ASt) (y : Nat) (xs : List AV) (d : Option Nat) (K : ASt → Prop) : Prop := ∃ n hp Q ks l sp fr, YldC P l n hp xs Q ∧ s.hp.lookup y = some (.lrec l sp fr) ∧ Passes s n hp ∧ (xs.all (·.okB n)) = true ∧ ∀ hp' r, Q hp' r → (∀ t ∈ ks, t < n → Kept hp hp' t) ∧ K ((s.callM n ks hp').put d r)
def OpEffI (F : Fence) (P : Program) (o : Oper) (s : ASt) (K : ASt → Prop) : Prop := ∀ L loc a w, Rel All L s loc a w → o.wpIn F 0 P a w (fun a' w' => ∃ s' loc', K s' ∧ Rel All L s' loc' a' w' ∧ Ext loc w loc' w') (fun _ _ _ => False)
theorem FOk.round {F : Fence} [k : FOk F] {n : Nat} {P : Program} {l : Nat} {f : FuncId} {tmps : Array Value} {assign body : Code} {w : World} {R : Ending → World → Prop} (h : RoundIn Fence.wide n P l f tmps assign body w R) : RoundIn F n P l f tmps assign body w R := by
  rcases k.h with rfl | ⟨l, rfl⟩
  · exact h
  · exact h
theorem op_yield {F : Fence} [FOk F] {P : Program} {o : Oper} {s : ASt} (t : Tmp) (y : Nat) (args : Array Operand) (tys : Array TypeId) {K : ASt → Prop} (h : o.op = .call { callee := .value (.tmp t), args := args, argTypes := tys }) (hy : s.get t = .own y) (hc : CallY P s y (args.toList.map s.ev) o.dst K) (hd : ∀ t, o.dst = some t → t < s.n) : OpEffI F P o s K := fun L loc a w hr => by
  obtain ⟨n, hp, Q, ks, l, sp, fr, hyc, hlk, hps, hok, hq⟩ := hc
  obtain ⟨_, u, hu, hax, hor⟩ := look_map hr (x := .tmp t) (fun _ _ => trivial) hy hlk
  obtain ⟨rfl, _⟩ := hor
  obtain ⟨LC, locC, h1, h2, h3⟩ := mem_call hr hps ks
  obtain ⟨f, tmps, assign, body, hrun, hround⟩ := hyc LC locC w (args.toList.map a.eval) h1 ⟨by simp, fun j x v hx hv => by
    simp only [List.getElem?_map, Option.map_eq_some_iff] at hx hv
    obtain ⟨z, hz, rfl⟩ := hx
    obtain ⟨z', hz', rfl⟩ := hv
    rw [hz] at hz'
    cases hz'
    exact h2 _ _ (List.all_eq_true.1 hok _ (List.mem_map_of_mem (List.mem_of_getElem? hz))) (hr.ev z (fun _ _ => trivial))⟩
  refine ⟨fun _ _ => FOk.fn _, ?_⟩
  rw [Oper.semAt_eq F.round a.eval o (fun c e => by rw [h] at e; cases e)]
  have e : (args.toList.map a.eval).toArray = args.map a.eval := by apply Array.ext'; simp
  rw [e] at hrun
  have hx : (execOp a.eval o).run P w = .ok (.round l f tmps assign body) w := by
    simp [execOp, h, resolve, hax, Deferred.ofValue, invoke, hrun]
  rw [hx]
  refine ⟨(by rw [FOk.depth (F := F)]; intro h; cases h), FOk.round (hround.mono fun e w' ⟨v, loc', hp', r, he, hQ, g1, g2, g3⟩ => ?_)⟩
  subst he
  obtain ⟨q1, q2⟩ := hq hp' r hQ
  obtain ⟨loc2, g4, g5, g6⟩ := h3 w' loc' hp' g1 g3 q1
  exact ⟨_, loc2, q2, Rel.put' g4 (s := s.callM n ks hp') hd (g6 r v g2), g5⟩
theorem operIn_mono {F : Fence} {n : Nat} {P : Program} {o : Oper} {a : Act} {w : World} {K K' : Act → World → Prop} {Q Q' : Exit → Act → World → Prop} (hK : ∀ a w, K a w → K' a w) (h : ∀ e a w, e ≠ .normal → Q e a w → Q' e a w) (hh : o.wpIn F n P a w K Q) : o.wpIn F n P a w K' Q' := by
  refine ⟨hh.1, ?_⟩
  have h2 := hh.2
  generalize (o.semAt F.round a.eval).run P w = r at *
  have lo : LetsOut Q → LetsOut Q' := fun ⟨a, w, k⟩ => ⟨a, w, h _ _ _ (by simp) k⟩
  cases r with
  | ok x w' =>
    cases x <;> simp only [Oper.uponIn] at h2 ⊢ <;>
      first
        | exact hK _ _ h2
        | exact ⟨h2.1, h2.2.mono fun e w'' he => by cases e <;> first | exact hK _ _ he | exact h _ _ _ (by simp) he | exact lo he⟩
        | exact ⟨h2.1, h2.2.mono fun _ _ he => hK _ _ he⟩
        | exact h2
  | halt x w' => cases x <;> simp only [Oper.uponIn] at h2 ⊢ <;> first | exact h _ _ _ (by simp) h2 | exact h2
def TLI (F : Fence) (P : Program) (ops : Array Oper) (Q : Exit → ASt → Prop) (l : List Oper) (s : ASt) : Prop := ∀ L loc a w, Rel All L s loc a w → wpListIn F 0 P ops (TPost L loc w Q) l a w
def WY (P : Program) (o : Oper) (s : ASt) (K : ASt → Prop) : Prop := match o.op with
  | .call { callee := .value (.tmp t), args := args, .. } => match s.get t with
    | .own y => CallY P s y (args.toList.map s.ev) o.dst K
    | _ => False
  | _ => False
/-- An operation that may call yield. -/
def WSY (P : Program) (ds : List (Option Nat)) (o : Oper) (s : ASt) (K : ASt → Prop) : Prop := dstOk o s ∧ match o.guard with
  | none => WY P o s K
  | some (g, want) => match ds[g]? with
    | some (some t) => s.get t = .p (.val (.bool want)) ∧ WY P o s K
    | _ => False
def WLI (P : Program) (ds : List (Option Nat)) (Q : ASt → Prop) : List Oper → ASt → Prop
  | [], s => Q s
  | o :: rest, s => ∃ s', Weak s s' ∧ (WS P ds o s' (WLI P ds Q rest) ∨ WSY P ds o s' (WLI P ds Q rest))
theorem WLI.sound {F : Fence} [FOk F] {P : Program} {ops : Array Oper} {Q : Exit → ASt → Prop} : ∀ {l : List Oper} {s : ASt}, (∀ o ∈ l, noDef1 o = true) → WLI P (ops.toList.map (·.dst)) (Q .normal) l s → TLI F P ops (NQ Q) l s
  | [], s, _, h => fun L loc a w hr => .of (show NQ Q .normal s from ⟨rfl, h⟩) hr (Ext.refl _ _)
  | o :: rest, s, hd, h => by
    have ih : ∀ {s : ASt}, WLI P (ops.toList.map (·.dst)) (Q .normal) rest s → TLI F P ops (NQ Q) rest s := fun k => WLI.sound (fun x hx => hd x (List.mem_cons.2 (.inr hx))) k
    obtain ⟨s0, hw0, h⟩ := h
    suffices main : TLI F P ops (NQ Q) (o :: rest) s0 from fun L loc a w hr => let ⟨loc', h1, h2⟩ := hw0 L loc a w hr; listIn_mono (fun _ _ _ k => k.ext h2) _ a w (main L loc' a w h1)
    intro L loc a w hr
    rcases h with h | h
    · have h1 : TL P ops (NQ fun _ s => WLI P (ops.toList.map (·.dst)) (Q .normal) rest s) [o] s0 := WL.sound (by rw [show NQ (fun _ s => WLI P (ops.toList.map (·.dst)) (Q .normal) rest s) .normal = fun s => WLI P (ops.toList.map (·.dst)) (Q .normal) rest s from funext fun s => by simp [NQ]]; exact h)
      have h2 := list_in (F := F) NQ.out [o] a w (fun x hx => hd x (List.mem_cons.2 (.inl (List.mem_singleton.1 hx)))) (h1 L loc a w hr)
      have go : ∀ a' w', TPost L loc w (NQ fun _ s => WLI P (ops.toList.map (·.dst)) (Q .normal) rest s) .normal a' w' → wpListIn F 0 P ops (TPost L loc w (NQ Q)) rest a' w' := fun a' w' ⟨s', loc', hq, ⟨L1, h3, h4⟩, h5⟩ =>
        listIn_mono (fun _ _ _ k => k.go h3 h4 h5) rest a' w' (ih hq.2 L1 loc' a' w' h3)
      unfold wpListIn at h2 ⊢
      split
      · rename_i hw
        rw [if_pos hw] at h2
        exact operIn_mono go (fun e a w he ⟨s', loc', hq, _⟩ => absurd hq.1 he) h2
      · rename_i hw
        rw [if_neg hw] at h2
        exact ⟨h2.1, go _ _ h2.2⟩
    · obtain ⟨hdo, h⟩ := h
      have main : ∀ {K : ASt → Prop}, WY P o s0 K → OpEffI F P o s0 K := fun {K} hy => by
        obtain ⟨dst, op, ty, pos, aft, gd⟩ := o
        unfold WY at hy
        simp only at hy
        split at hy
        · rename_i t args tys
          split at hy
          · rename_i y hg
            exact op_yield t y args tys rfl hg hy hdo.h
          · exact hy.elim
        · exact hy.elim
      have fin : OpEffI F P o s0 (WLI P (ops.toList.map (·.dst)) (Q .normal) rest) → Region.wanted o (yielded ops a.tmps) = true → wpListIn F 0 P ops (TPost L loc w (NQ Q)) (o :: rest) a w := fun hy hw => by
        unfold wpListIn
        rw [if_pos hw]
        refine operIn_mono (fun a' w' ⟨s', loc', h1, h2, h3⟩ => ?_) (fun _ _ _ _ h => h.elim) (hy L loc a w hr)
        exact listIn_mono (fun _ _ _ k => k.go h2 (.refl _ _ _) h3) rest a' w' (ih h1 L loc' a' w' h2)
      split at h
      · rename_i hg
        exact fin (main h) (by simp [Region.wanted, hg])
      · rename_i g want hg
        split at h
        · rename_i t ht
          have ht' : (ops[g]?).bind (·.dst) = some t := by
            simp only [List.getElem?_map, Option.map_eq_some_iff, Array.getElem?_toList] at ht
            obtain ⟨o', h1, h2⟩ := ht
            rw [h1]; exact h2
          refine fin (main h.2) ?_
          have h5 := guard_slot hr (t := t) trivial h.1
          simp [Region.wanted, hg, yielded, ht', h5]
        · exact h.elim
where
  listIn_mono {F : Fence} {P : Program} {ops : Array Oper} {Q Q' : Exit → Act → World → Prop} (h : ∀ e a w, Q e a w → Q' e a w) : ∀ (l : List Oper) (a : Act) (w : World), wpListIn F 0 P ops Q l a w → wpListIn F 0 P ops Q' l a w
    | [], a, w, k => h _ _ _ k
    | o :: l, a, w, k => by
      unfold wpListIn at k ⊢
      split
      · rename_i hw
        rw [if_pos hw] at k
        exact operIn_mono (listIn_mono h l) (fun e a w _ k => h e a w k) k
      · rename_i hw
        rw [if_neg hw] at k
        exact ⟨k.1, listIn_mono h l _ _ k.2⟩
theorem T.regI {F : Fence} [FOk F] {P : Program} {Q : Exit → ASt → Prop} {s : ASt} {id : Nat} {l : List Oper} (hd : noDefB l = true) (h : ∀ K : ASt → Prop, (∀ s, Q .normal s → K s) → WLI P (l.map (·.dst)) K l s) : T F P (.region id l.toArray false) Q s := fun L loc a w hr =>
  wpIn_mono (wpIn_region_lit (WLI.sound (ops := l.toArray) (noDefB_spec hd) (by simpa using h _ fun _ h => h) L loc a w hr)) fun _ _ _ k => NQ.post k
theorem WLI.stepP {P : Program} {ds : List (Option Nat)} {Q : ASt → Prop} {o : Oper} {rest : List Oper} {s : ASt} (h : ∀ K : ASt → Prop, (∀ s, WLI P ds Q rest s → K s) → WS P ds o s K) : WLI P ds Q (o :: rest) s := ⟨s, Weak.refl s, .inl (h _ fun _ h => h)⟩
theorem WLI.stepY {P : Program} {ds : List (Option Nat)} {Q : ASt → Prop} {o : Oper} {rest : List Oper} {s : ASt} (h : ∀ K : ASt → Prop, (∀ s, WLI P ds Q rest s → K s) → WSY P ds o s K) : WLI P ds Q (o :: rest) s := ⟨s, Weak.refl s, .inr (h _ fun _ h => h)⟩
theorem WLI.weak {P : Program} {ds : List (Option Nat)} {Q : ASt → Prop} {o : Oper} {rest : List Oper} {s s' : ASt} (hw : Weak s s') (h : WLI P ds Q (o :: rest) s') : WLI P ds Q (o :: rest) s := let ⟨s2, h1, h2⟩ := h; ⟨s2, hw.trans h1, h2⟩
theorem WLI.fin {P : Program} {ds : List (Option Nat)} {Q : ASt → Prop} {s : ASt} (h : Q s) : WLI P ds Q [] s := h

/-! ### A round -/
def frPut : List Nat → List AV → List (Nat × AV) → List (Nat × AV)
  | p :: ps, x :: xs, fr => frPut ps xs ((p, x) :: fr)
  | _, _, fr => fr
def putsV : List Nat → List Value → Array Value → Array Value
  | p :: ps, v :: vs, t => putsV ps vs (t.setIfInBounds p v)
  | _, _, t => t
theorem putsV_size : ∀ (ps : List Nat) (vs : List Value) (t : Array Value), (putsV ps vs t).size = t.size
  | [], _, _ => rfl
  | _ :: _, [], _ => rfl
  | p :: ps, v :: vs, t => by rw [putsV, putsV_size ps vs]; simp
theorem foldl_putsV : ∀ (ps : List Nat) (vs : List Value) (t : Array Value), (ps.zip vs).foldl (fun t (p : Nat × Value) => t.setIfInBounds p.1 p.2) t = putsV ps vs t
  | [], _, _ => rfl
  | _ :: _, [], _ => rfl
  | p :: ps, v :: vs, t => by rw [List.zip_cons_cons, List.foldl_cons, foldl_putsV ps vs, putsV]
theorem frPut_ok {N : Nat} {D : Nat → Prop} {loc : Nat → Option Value} {w : World} : ∀ (ps : List Nat) (xs : List AV) (vs : List Value) (fr : List (Nat × AV)) (t : Array Value), (∀ p ∈ ps, p < t.size) → vs.length = xs.length → (∀ (j : Nat) x v, xs[j]? = some x → vs[j]? = some v → AR N D loc w x v) →
    (∀ k, AR N D loc w ((fr.lookup k).getD .junk) (t.getD k undef)) → ∀ k, AR N D loc w (((frPut ps xs fr).lookup k).getD .junk) ((putsV ps vs t).getD k undef)
  | [], xs, vs, fr, t, _, _, _, h => by cases vs <;> exact h
  | p :: ps, [], vs, fr, t, _, hl, _, h => by
    have : vs = [] := List.eq_nil_of_length_eq_zero (by simpa using hl)
    subst this; exact h
  | p :: ps, x :: xs, vs, fr, t, hp, hl, ha, h => by
    cases vs with
    | nil => cases hl
    | cons v vs =>
      refine frPut_ok ps xs vs _ _ (fun q hq => by simpa using hp q (List.mem_cons.2 (.inr hq))) (by simpa using hl) (fun j y u hy hu => ha (j + 1) y u (by simpa using hy) (by simpa using hu)) fun k => ?_
      have hps := hp p (List.mem_cons.2 (.inl rfl))
      by_cases e : k = p
      · subst e
        rw [lookup_cons_eq]
        have := ha 0 x v rfl rfl
        simpa [hps] using this
      · rw [lookup_cons_ne e]
        have := h k
        rw [Array.getD_eq_getD_getElem?, Array.getElem?_setIfInBounds_ne (Ne.symm e), ← Array.getD_eq_getD_getElem?]
        exact this
/-- Behind a round: on to the next. -/
def FinR (n y : Nat) (Q : Hp → Prop) (e : Exit) (s : ASt) : Prop := e = .normal ∧ ∃ s', Weak s s' ∧ s'.N = n ∧ s'.hp.lookup y = none ∧ Q s'.hp
theorem Rel.thin {X : Nat → Prop} {L L' : Lim} {s : ASt} {loc : Nat → Option Value} {a : Act} {w : World} (h : Rel X L s loc a w) (hb : ∀ b, L' b → L b) (hd : a.defers = L'.ds) : Rel X L' s loc a w :=
  have hD : ∀ k, Dm L' loc k → Dm L loc k := fun k h => h.imp (hb k) id
  ⟨hd, h.size, fun t ht => (h.fr t ht).mono (Nat.le_refl _) (Kp.refl _ _) (fun k _ h => hD k h) (fun _ _ _ h => h),
    ⟨fun t o ho => let ⟨g1, u, g2, g3⟩ := h.hp.at' t o ho; ⟨g1, u, g2, g3.mono (Nat.le_refl _) (Kp.refl _ _) (fun k _ h => hD k h) (fun _ _ _ h => h) (fun _ _ => rfl)⟩, h.hp.dead, h.hp.apart, fun b hb' => h.hp.inL b (hb b hb'), fun t u b g1 g2 g3 => h.hp.notL t u b g1 g2 (hb b g3)⟩⟩
theorem YldC.of {P : Program} {l : Nat} {n : Nat} {hp : Hp} {xs : List AV} {Q : Hp → AV → Prop} {sp : LSpec} {fr : List (Nat × AV)} (y : Nat) (ks : List Nat) (Qb : Hp → Prop) (hy : hp.lookup y = some (.lrec l sp fr)) (hps : sp.ps.size = xs.length) (hpb : ∀ p ∈ sp.ps.toList, p < sp.n)
    (hfr : ∀ p ∈ fr, p.2.keep n ks = p.2)
    (hT : T (Fence.wide.inRound l) P sp.assign (ThenA (fun s1 => T (Fence.wide.inRound l) P sp.body (FinR n y Qb) s1) (fun _ _ => False)) ⟨frPut sp.ps.toList xs fr, hp.filter fun p => p.1 != y, sp.n, n⟩)
    (hQ : ∀ hp3, Qb hp3 → (∀ t ∈ ks, Kept hp hp3 t) ∧ (∀ p ∈ hp3, p.2.sub y .junk = p.2) ∧ Q ((y, .lrec l sp fr) :: hp3) (.p (.val (.bool true)))) (hxs : (xs.all (·.okB n)) = true) : YldC P l n hp xs Q := fun L loc w vs hh hvs => by
  obtain ⟨hyn, u, hu, rfl, tmps, hl, htn, htf⟩ := hh.at' y _ hy
  have hll := (Array.getElem?_eq_some_iff.1 hl).1
  have hsz : vs.toArray.size = sp.ps.size := by simp [hvs.1, hps]
  have hrun := run_yield (P := P) (args := vs.toArray) hl hsz
  refine ⟨_, _, _, _, hrun, roundIn_of_wpIn trivial ?_⟩
  have hfold : (sp.ps.zip vs.toArray).foldl (fun tmps (t, a) => tmps.setIfInBounds t a) tmps = putsV sp.ps.toList vs tmps := by
    rw [← foldl_putsV, ← Array.foldl_toList, Array.toList_zip]
  simp only [hfold]
  -- the memory of the round
  let loc1 : Nat → Option Value := fun t => if t = y then none else loc t
  let L1 : Nat → Prop := fun b => L b ∨ b = l
  have l1 : ∀ t u, loc1 t = some u → t ≠ y ∧ loc t = some u := fun t u h => by
    simp only [loc1] at h
    split at h
    · cases h
    · exact ⟨by assumption, h⟩
  have d1 : ∀ k, Dm L1 loc1 k → Dm L loc k := fun k h => by
    rcases h with (h | h) | ⟨t, u, h1, h2⟩
    · exact .inl h
    · subst h; exact .inr ⟨y, _, hu, rfl⟩
    · exact .inr ⟨t, u, (l1 t u h1).2, h2⟩
  have hh1 : HRel L1 n (hp.filter fun p => p.1 != y) loc1 w := ⟨fun t o ho => by
    rw [lookup_filter] at ho
    split at ho
    · cases ho
    · rename_i e
      obtain ⟨g1, u, g2, g3⟩ := hh.at' t o ho
      exact ⟨g1, u, by simp [loc1, e, g2], g3.mono (Nat.le_refl _) (Kp.refl _ _) (fun k _ h => d1 k h) (fun t u _ h => (l1 t u h).2) (fun _ _ => rfl)⟩, fun t ho => by
    rw [lookup_filter] at ho
    simp only [loc1]
    split
    · rfl
    · rename_i e; rw [if_neg e] at ho; exact hh.dead t ho, fun t t' u u' b h1 h2 => hh.apart t t' u u' b (l1 t u h1).2 (l1 t' u' h2).2, fun b hb => hh.dm_lt (d1 b (.inl hb)), fun t u b h1 h2 h3 => by
    rcases h3 with h3 | h3
    · exact hh.notL t u b (l1 t u h1).2 h2 h3
    · subst h3; exact (l1 t u h1).1 (hh.apart t y u _ b (l1 t u h1).2 hu h2 rfl)⟩
  have hrel : Rel All ⟨L1, []⟩ ⟨frPut sp.ps.toList xs fr, hp.filter fun p => p.1 != y, sp.n, n⟩ loc1 { tmps := putsV sp.ps.toList vs tmps, defers := [] } w := by
    refine ⟨rfl, by show (putsV _ _ _).size = sp.n; rw [putsV_size, htn], fun t _ => ?_, hh1⟩
    have := frPut_ok (N := n) (D := Dm L1 loc1) (loc := loc1) (w := w) sp.ps.toList xs vs fr tmps (fun p hp' => by rw [htn]; exact hpb p hp') hvs.1 (fun j x v hx hv => (hvs.2 j x v hx hv).mono (Nat.le_refl _) (Kp.refl _ _) (fun k _ h => d1 k h) (fun t u _ h => (l1 t u h).2)) (fun k => (htf k).mono (Nat.le_refl _) (Kp.refl _ _) (fun k _ h => d1 k h) (fun t u _ h => (l1 t u h).2)) t
    exact this
  refine wpIn_mono (hT ⟨L1, []⟩ loc1 _ w hrel) fun e a1 w1 ⟨s1, loc2, hq, ⟨L2, hr2, hlx2⟩, hx2⟩ => ?_
  cases e with
  | normal =>
    have hlL2 : L2 l := hlx2.sub l (.inr rfl)
    have nown : ∀ {M : Lim} {s : ASt} {lc : Nat → Option Value} {a : Act} {W : World}, Rel All M s lc a W → M l → ¬ Dm (fun _ => False) lc l := fun hr hM h => by
      rcases h with h | ⟨t, u, h1, h2⟩
      · exact h
      · exact hr.hp.notL t u l h1 h2 hM
    have hl2 := (hx2.kp.block l hll (nown hrel (.inr rfl))).trans hl
    have hl2l := (Array.getElem?_eq_some_iff.1 hl2).1
    refine ⟨_, run_beginRound hl2 rfl, ?_⟩
    obtain ⟨ob, hob⟩ : ∃ ob, ob = Obj.loop { state := .busy, pending := none, fn := sp.fn, tmps := tmps, params := sp.ps, assign := sp.assign, body := sp.body, defers := sp.D } := ⟨_, rfl⟩
    rw [← hob]
    have hr3 : Rel All L2 s1 loc2 a1 (w1.putObj l ob) := hr2.shut1 hlL2 (kp_putObj _ _)
    refine wpIn_mono (hq L2 loc2 a1 _ hr3) fun e a4 w4 ⟨s4, loc4, ⟨he, s5, hwk, hN, hy5, hqb⟩, ⟨L4, hr4, hlx4⟩, hx4⟩ => ?_
    subst he
    obtain ⟨loc5, hr5, hx5⟩ := hwk L4 loc4 a4 w4 hr4
    have hl3 : (w1.putObj l ob).heap[l]? = some ob := World.putObj_heap_same hl2l
    have hl4 : w4.heap[l]? = some ob := (hx4.kp.block l (Array.getElem?_eq_some_iff.1 hl3).1 (nown hr3 hlL2)).trans hl3
    rw [hob] at hl4
    have hlL4 : L4 l := hlx4.sub l hlL2
    have hl4l := (Array.getElem?_eq_some_iff.1 hl4).1
    obtain ⟨ob2, hob2⟩ : ∃ ob2, ob2 = Obj.loop { state := .ready, pending := none, fn := sp.fn, tmps := tmps, params := sp.ps, assign := sp.assign, body := sp.body, defers := sp.D } := ⟨_, rfl⟩
    have hr6 : Rel All L4 s5 loc5 a4 (w4.putObj l ob2) := hr5.shut1 hlL4 (kp_putObj _ _)
    obtain ⟨W, hW⟩ : ∃ W, W = w4.putObj l ob2 := ⟨_, rfl⟩
    have hend : (Instr.endRound l none).run P w4 = .ok (.bool true) W := by rw [hW, hob2]; exact run_endRound none hl4
    refine ⟨_, _, hend, ?_⟩
    have hWl : W.heap[l]? = some ob2 := by rw [hW]; exact World.putObj_heap_same hl4l
    rw [← hW] at hr6
    have fr2 : ∀ b, Dm (fun _ => False) loc2 b → Dm (fun _ => False) loc1 b ∨ w.heap.size ≤ b := hx2.fresh
    have fr5 : ∀ b, Dm (fun _ => False) loc5 b → Dm (fun _ => False) loc1 b ∨ w.heap.size ≤ b := fun b h => by
      rcases hx5.fresh b h with h | h
      · rcases hx4.fresh b h with h | h
        · exact fr2 b h
        · have := hx2.kp.size; simp at h; exact .inr (by omega)
      · have := hx2.kp.size; have := hx4.kp.size; simp at this; exact .inr (by omega)
    have k1 : Kp (fun k => Dm (fun _ => False) loc1 k ∨ k = l) w (w1.putObj l ob) := (hx2.kp.wide fun k h => .inl h).trans ((kp_putObj w1 ob).wide (D' := fun k => k = l) fun k h => h) fun x hx => .inl (.inr hx)
    have k2 : Kp (fun k => Dm (fun _ => False) loc1 k ∨ k = l) w w4 := k1.trans hx4.kp fun x hx => (fr2 x hx).imp (fun h => .inl h) id
    have kW : Kp (fun k => Dm (fun _ => False) loc1 k ∨ k = l) w W := by
      rw [hW]
      exact k2.trans ((kp_putObj w4 ob2).wide (D' := fun k => k = l) fun k h => h) fun x hx => .inl (.inr hx)
    have kF : Kp (Dm (fun _ => False) loc) w W := kW.wide fun k h => by
      rcases h with (h | ⟨t, u, h1, h2⟩) | h
      · exact h.elim
      · exact .inr ⟨t, u, (l1 t u h1).2, h2⟩
      · exact .inr ⟨y, _, hu, by rw [h]; rfl⟩
    have kL : Kp (Dm L loc) w W := kF.wide fun k h => h.imp (fun h => h.elim) id
    have sub4 : ∀ b, L b → L4 b := fun b h => hlx4.sub b (hlx2.sub b (.inl h))
    let loc' : Nat → Option Value := fun t => if t = y then some (.func (.yield l) #[] #[]) else loc5 t
    have ly : loc' y = some (.func (.yield l) #[] #[]) := by simp [loc']
    have lo : ∀ t, t ≠ y → loc' t = loc5 t := fun t h => by simp [loc', h]
    have dm5 : ∀ k, k < W.heap.size → Dm L loc' k → Dm L4 loc5 k := fun k _ h => by
      rcases h with h | ⟨t, u, h1, h2⟩
      · exact .inl (sub4 k h)
      · by_cases e : t = y
        · subst e; rw [ly] at h1; cases h1; cases h2; exact .inl hlL4
        · exact .inr ⟨t, u, (lo t e) ▸ h1, h2⟩
    have dmF : ∀ b, Dm (fun _ => False) loc' b → Dm (fun _ => False) loc b ∨ w.heap.size ≤ b := fun b h => by
      rcases h with h | ⟨t, u, h1, h2⟩
      · exact h.elim
      · by_cases e : t = y
        · subst e; rw [ly] at h1; cases h1; exact .inl (.inr ⟨_, _, hu, h2⟩)
        · rcases fr5 b (.inr ⟨t, u, (lo t e) ▸ h1, h2⟩) with (h | ⟨t, u, h3, h4⟩) | h
          · exact h.elim
          · exact .inl (.inr ⟨t, u, (l1 t u h3).2, h4⟩)
          · exact .inr h
    have hDw : ∀ k, k < w.heap.size → Dm L loc' k → Dm L loc k := fun k hk h => by
      rcases h with h | h
      · exact .inl h
      · rcases dmF k (.inr h) with h | h
        · exact h.imp (fun h => h.elim) id
        · omega
    obtain ⟨hks, hsub, hQQ⟩ := hQ s5.hp hqb
    have keepx : ∀ k, AR n (Dm L loc') loc' W ((fr.lookup k).getD .junk) (tmps.getD k undef) := fun k => by
      have h1 := (htf k).keep (n := n) (ks := ks) (N' := n) (loc' := loc') (Nat.le_refl _) kL hDw fun t u ht hc h => by
        rcases hc with hc | hc
        · omega
        · obtain ⟨o, o', v, g1, g2, g3, g4⟩ := (hks t hc).spec
          obtain ⟨_, u1, g5, g6⟩ := hh.at' t o g1
          by_cases e : t = y
          · subst e; rw [hy5] at g2; cases g2
          · obtain ⟨_, u2, g7, g8⟩ := hr6.hp.at' t o' g2
            rw [lo t e, g7] at h; cases h
            rw [g5, g6.handle g3, g8.handle g4]
      cases hf : fr.lookup k with
      | none => exact .junk _
      | some x =>
        rw [hf] at h1
        have := hfr _ (mem_of_look hf)
        simp only at this
        simp only [Option.getD_some] at h1 ⊢
        rw [this] at h1; exact h1
    refine ⟨.bool true, loc', (y, .lrec l sp fr) :: s5.hp, _, rfl, hQQ, ⟨fun t o ho => ?_, fun t ho => ?_, fun t t' u u' b h1 h2 h3 h4 => ?_, fun b hb => hr6.hp.inL b (sub4 b hb), fun t u b h1 h2 h3 => ?_⟩, .of_val _ rfl, ⟨kF, dmF⟩⟩
    · by_cases e : t = y
      · subst e
        rw [lookup_cons_eq] at ho
        cases ho
        exact ⟨hyn, _, ly, rfl, tmps, by rw [hWl, hob2], htn, keepx⟩
      · rw [lookup_cons_ne e] at ho
        obtain ⟨g1, u, g2, g3⟩ := hr6.hp.at' t o ho
        rw [hN] at g1 g3
        refine ⟨g1, u, (lo t e).trans g2, ?_⟩
        have := g3.sub (t := y) (y := .junk) (N' := n) (D' := Dm L loc') (loc' := loc') (w' := W) (Nat.le_refl _) (Kp.refl _ _) dm5 (fun k z _ hk hz => (lo k hk) ▸ hz) (fun v _ _ => .junk v) (fun _ _ => rfl)
        rwa [hsub _ (mem_of_look ho)] at this
    · by_cases e : t = y
      · subst e; rw [lookup_cons_eq] at ho; cases ho
      · rw [lookup_cons_ne e] at ho
        rw [lo t e]; exact hr6.hp.dead t ho
    · by_cases e : t = y
      · by_cases e' : t' = y
        · rw [e, e']
        · subst e
          rw [ly] at h1; cases h1; cases h3
          rw [lo t' e'] at h2
          exact (hr6.hp.notL t' u' _ h2 h4 hlL4).elim
      · by_cases e' : t' = y
        · subst e'
          rw [ly] at h2; cases h2; cases h4
          rw [lo t e] at h1
          exact (hr6.hp.notL t u _ h1 h3 hlL4).elim
        · rw [lo t e] at h1
          rw [lo t' e'] at h2
          exact hr6.hp.apart t t' u u' b h1 h2 h3 h4
    · by_cases e : t = y
      · subst e
        rw [ly] at h1; cases h1
        exact hh.notL _ _ b hu h2 h3
      · rw [lo t e] at h1
        exact hr6.hp.notL t u b h1 h2 (sub4 b h3)
  | _ => exact hq.elim

/-! ### The statement -/
theorem T.rangeF {P : Program} {Q : Exit → ASt → Prop} {s : ASt} {g : Operand} {ps : Array Tmp} {assign body : Code} (gf : FuncId) (caps : List AV) (fr : List (Nat × AV)) (hg : s.ev g = .fn (.func gf) caps) (he : Ent P gf) (hfr : ∀ p ∈ fr, s.get p.1 = p.2)
    (hc : ∀ l fn D, ∃ n hp I ks, MemC P gf n hp (.own s.N :: caps) I ∧ Passes (s.add (.lrec l ⟨s.n, fn, ps, assign, body, D⟩ fr)) n hp ∧ ((AV.own s.N :: caps).all (·.okB n)) = true ∧ ∀ hp' r, I hp' r → (∀ t ∈ ks, t < n → Kept hp hp' t) ∧ (∃ fr', hp'.lookup s.N = some (.lrec l ⟨s.n, fn, ps, assign, body, D⟩ fr')) ∧
      ∀ ob, Q .normal { (s.add (.lrec l ⟨s.n, fn, ps, assign, body, D⟩ fr)).callM n ks hp' with hp := setHp ((s.add (.lrec l ⟨s.n, fn, ps, assign, body, D⟩ fr)).callM n ks hp').hp s.N (.raw (.func (.yield l) #[] #[]) ob) }) : T Fence.wide P (.rangeFunc g ps assign body) Q s := fun L loc a w hr => by
  have h0 := hr.ev g (fun _ _ => trivial)
  rw [hg] at h0
  generalize hu : a.eval g = u at h0
  cases h0 with
  | fn _ _ lb hlb hla =>
  refine wpIn_rangeFunc fun fn _ => ?_
  obtain ⟨D, hD⟩ : ∃ D, D = w.heap.size := ⟨_, rfl⟩
  obtain ⟨W0, hW0⟩ : ∃ W0, W0 = w.alloc (.deferred (some [])) := ⟨_, rfl⟩
  have hs0 : W0.heap.size = D + 1 := by rw [hW0, hD]; simp
  obtain ⟨l, hl⟩ : ∃ l, l = W0.heap.size := ⟨_, rfl⟩
  obtain ⟨rec, hrec⟩ : ∃ rec, rec = Obj.loop { state := .ready, pending := none, fn, tmps := a.tmps, params := ps, assign, body, defers := D } := ⟨_, rfl⟩
  obtain ⟨W1, hW1⟩ : ∃ W1, W1 = W0.alloc rec := ⟨_, rfl⟩
  have b0 : Blw w.heap.size w W0 := by rw [hW0]; exact (Blw.refl _ _).alloc (Nat.le_refl _) _
  have b1 : Blw W0.heap.size W0 W1 := by rw [hW1]; exact (Blw.refl _ _).alloc (Nat.le_refl _) _
  have hD0 : W0.heap[D]? = some (.deferred (some [])) := by rw [hW0, hD]; exact World.alloc_heap_new _ _
  obtain ⟨n, hp, I, ks, hm, hps, hok, hI⟩ := hc l fn D
  -- the limits behind the statement's beginning
  let L1 : Lim := ⟨fun b => L b ∨ b = D, mark D :: L.ds⟩
  have dm1 : ∀ k, k < w.heap.size → Dm L1 loc k → Dm L loc k := fun k hk h => by
    rcases h with (h | h) | h
    · exact .inl h
    · omega
    · exact .inr h
  have notD : ∀ t u, loc t = some u → blkOf u ≠ some D := fun t u h e => by
    obtain ⟨o, _, ho⟩ := hr.hp.loc_obj h
    have := ho.blk_lt e
    omega
  have hr0 : Rel All L1 s loc { a with defers := mark D :: a.defers } W0 := ⟨by show mark D :: a.defers = mark D :: L.ds; rw [hr.defers], hr.size, fun t _ => (hr.fr t trivial).mono (Nat.le_refl _) (.of_below b0) dm1 (fun _ _ _ h => h),
    ⟨fun t o ho => let ⟨g1, u, g2, g3⟩ := hr.hp.at' t o ho; ⟨g1, u, g2, g3.mono (Nat.le_refl _) (.of_below b0) dm1 (fun _ _ _ h => h) (fun b hb => b0.block b (g3.blk_lt hb))⟩, hr.hp.dead, hr.hp.apart, fun b hb => by
      rcases hb with hb | hb
      · have := hr.hp.inL b hb; omega
      · omega, fun t u b h1 h2 h3 => by
      rcases h3 with h3 | h3
      · exact hr.hp.notL t u b h1 h2 h3
      · exact notD t u h1 (h3 ▸ h2)⟩⟩
  have hup : ∀ b, blkOf (.func (.yield l) #[] #[]) = some b → W0.heap.size ≤ b := fun b e => by cases e; rw [hl]; exact Nat.le_refl _
  have hWl : W1.heap[l]? = some rec := by rw [hW1, hl]; exact World.alloc_heap_new _ _
  let sp : LSpec := ⟨s.n, fn, ps, assign, body, D⟩
  have hr1 : Rel All L1 (s.add (.lrec l sp fr)) (setLoc loc s.N (.func (.yield l) #[] #[])) { a with defers := mark D :: a.defers } W1 := by
    refine hr0.add b1 (.func (.yield l) #[] #[]) (.lrec l sp fr) hup ⟨rfl, a.tmps, by rw [hWl, hrec], hr.size, fun t => ?_⟩
    cases hf : fr.lookup t with
    | none => exact .junk _
    | some x =>
      have h1 := hr0.fr t trivial
      rw [hfr _ (mem_of_look hf)] at h1
      exact h1.mono (Nat.le_succ _) (.of_below b1) (fun k hk hd => (dm_set hd).resolve_left fun e => by have := hup k e; omega) (fun k v hk hv => by rwa [setLoc_other _ _ (by omega)] at hv)
  have x1 : Ext loc w (setLoc loc s.N (.func (.yield l) #[] #[])) W1 := (Ext.of_below b0).trans (.add b1 _ _ hup)
  obtain ⟨LC, locC, h1, h2, h3⟩ := mem_call hr1 hps ks
  have hcall := hm LC locC W1 (.func (.yield l) #[] #[] :: lb.toList) h1 ⟨by simp [hlb], fun j x v hx hv => by
    refine h2 x v (List.all_eq_true.1 hok x (List.mem_of_getElem? hx)) ?_
    cases j with
    | zero =>
      cases hx; cases hv
      exact .own _ _ (Nat.lt_succ_self _) rfl fun z hz => by rw [setLoc_same] at hz; cases hz; rfl
    | succ j =>
      have h5 := hla j x hx
      have h6 : lb[j]? = some v := by simpa using hv
      rw [Array.getD_eq_getD_getElem?, h6] at h5
      exact (h5.mono (D' := Dm L1 loc) (Nat.le_refl _) (.of_below b0) dm1 (fun _ _ _ h => h)).mono (Nat.le_succ _) (.of_below b1) (fun k hk hd => (dm_set hd).resolve_left fun e => by have := hup k e; omega) (fun k v hk hv => by rwa [setLoc_other _ _ (by omega)] at hv)⟩
  refine ⟨l, [mark D], W1, { target := .fn (.func gf) lb, args := #[.func (.yield l) #[] #[]] }, W1, gf, (.func (.yield l) #[] #[] :: lb.toList).toArray, W1, ?_, ?_, fun _ _ => trivial, ?_, (by intro h; cases h), callsIn_wide.2 (hcall.mono ?_)⟩
  · rw [hW1, hrec, hl, hs0, hD, hW0]
    exact run_enterLoop_outer _ _ _ _ _
  · simp only [resolve, hu]
    simp [go_sem]
  · have e : (Value.func (.yield l) #[] #[] :: lb.toList).toArray = #[.func (.yield l) #[] #[]] ++ lb := by apply Array.ext'; simp
    rw [e]
    have := he (#[.func (.yield l) #[] #[]] ++ lb) W1
    simp [invoke, go_sem, this]
  · rintro e W2 ⟨v, loc', hp', r, rfl, hQ, g1, g2, g3⟩
    obtain ⟨q1, ⟨fr', q2⟩, q3⟩ := hI hp' r hQ
    obtain ⟨loc2, g4, g5, _⟩ := h3 W2 loc' hp' g1 g3 q1
    have hlk : ((s.add (.lrec l sp fr)).callM n ks hp').hp.lookup s.N = some (.lrec l sp fr') := by
      simp only [ASt.callM]
      rw [lookup_apd, q2]; rfl
    obtain ⟨_, u2, hu2, rfl, tmps2, hW2, _⟩ := g4.hp.at' s.N _ hlk
    have hW2l := (Array.getElem?_eq_some_iff.1 hW2).1
    refine ⟨none, _, run_endLoop hW2 (by simp), ?_⟩
    obtain ⟨ob, hob⟩ : ∃ ob, ob = Obj.loop { state := .exhausted, pending := none, fn := sp.fn, tmps := tmps2, params := sp.ps, assign := sp.assign, body := sp.body, defers := sp.D } := ⟨_, rfl⟩
    rw [← hob]
    have hr4 := g4.turn (o' := .raw (.func (.yield l) #[] #[]) ob) hlk hu2 rfl (kp_putObj W2 ob) ⟨l, rfl, rfl, World.putObj_heap_same hW2l⟩
    have x4 : Ext loc2 W2 loc2 (W2.putObj l ob) := .turn hu2 rfl (kp_putObj W2 ob)
    have x5 := (x1.trans g5).trans x4
    have hDl : D ≠ l := by omega
    have hW1D : W1.heap[D]? = some (.deferred (some [])) := (b1.block D (by omega)).trans hD0
    have hW2D : W2.heap[D]? = some (.deferred (some [])) := (g5.kp.block D (Array.getElem?_eq_some_iff.1 hW1D).1 (fun h => by
      rcases h with h | ⟨t, u, h5, h6⟩
      · exact h
      · exact hr1.hp.notL t u D h5 h6 (.inr rfl))).trans hW1D
    exact ⟨_, loc2, q3 ob, ⟨L1, hr4, ⟨⟨[D], rfl, by simp, fun x hx => by
      rw [List.mem_singleton] at hx
      subst hx
      exact ⟨by omega, .inr rfl, by rw [World.putObj_heap_other hDl]; exact hW2D⟩⟩, fun b hb => .inl hb, fun b hb => hb.imp id fun e => by omega⟩⟩, x5⟩
end Go.Proofs.Ytbhkcejjehgfcaa
