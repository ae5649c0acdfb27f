/- States of a walk: what is known of the slots, and the walk's own objects; what a piece of code does to them. -/
import Derived.Test.YtbhkcejjehgfcaaAa
import Derived.Maps.Own
import Derived.Maps.OwnSet
import Derived.Maps.Views
import Derived.Maps.Range
import Derived.TacticsIn
import Derived.OrdersIn
import Derived.LoopIn
import Derived.RangeFuncOwn
namespace Go.Proofs.Ytbhkcejjehgfcaa
open Go.RowKit Go.Sort
set_option linter.unusedVariables false

/-- A range over a function under way: what its record says. -/
structure LSpec where
  n : Nat
  fn : FuncId
  ps : Array Tmp
  assign : Code
  body : Code
  D : Nat
/-- An object of the walk's own: a variable of its own (its cells); a slice that grows (its rows of n cells). -/
inductive AO where
  | boxP (pin : Option Nat) (ty : TypeId) (cs : List AV)
  | row (e : TypeId) (n : Nat) (rows : List (List PV))
  | map (pin : Option Nat) (P : Program) (k : TypeId) (n : Nat) (f : Lit → Option Value)
  | raw (u : Value) (ob : Obj)
  | lrec (l : Nat) (sp : LSpec) (fr : List (Nat × AV))
/-- A variable at a place that nobody has named. -/
@[reducible] def AO.box (ty : TypeId) (cs : List AV) : AO := .boxP none ty cs
theorem AO.box_def (ty : TypeId) (cs : List AV) : AO.box ty cs = .boxP none ty cs := rfl
/-- An element of a map is kept as it is. -/
def heldR (v : Value) : Option (DataW Value × List MemPlace) := some (.held v, [])
/-- The datum D reads as the function f. -/
def MapOk (D : DataW Value) (f : Lit → Option Value) : Prop := ∀ kl, WideAt.IsKeyLit kl → ∀ z, D.atKey kl z = match f kl with
  | some v => .held v
  | none => z

def blkOf : Value → Option Nat
  | .pointer (some a) => some a.block
  | .slice (some a) _ _ => some a.block
  | .map (some r) => some r
  | .func (.yield l) _ _ => some l
  | _ => none
/-- The blocks that data must not lie in: those of L and those of the walk's own objects. -/
def Dm (L : Nat → Prop) (loc : Nat → Option Value) (b : Nat) : Prop := L b ∨ ∃ t u, loc t = some u ∧ blkOf u = some b

/-- The object whose handle is u. -/
def OR (N : Nat) (D : Nat → Prop) (loc : Nat → Option Value) (w : World) (u : Value) : AO → Prop
  | .boxP pin ty cs => ∃ b arr, u = .pointer (some ⟨b, 0, none⟩) ∧ w.heap[b]? = some (.cells arr ty (0, 0)) ∧ arr.size = cs.length ∧ (∀ j x, cs[j]? = some x → AR N D loc w x (arr.getD j undef)) ∧ (∀ j, j < arr.size → (arr.getD j undef).oneCell' = true) ∧ ∀ p, pin = some p → p = b
  | .row e n rows => ∃ flat, w.ownsRow 0 e n u rows.length flat ∧ (∀ r ∈ rows, r.length = n) ∧ (∀ k r j x, rows[k]? = some r → r[j]? = some x → ∃ v, flat[k * n + j]? = some v ∧ PR D w x v) ∧ ∀ v ∈ flat, v.oneCell' = true
  | .map pin P k n f => ∃ b D, u = .map (some b) ∧ w.ownsMap (H := Value) P k heldR b n D ∧ MapOk D f ∧ ∀ p, pin = some p → p = b
  | .raw v ob => ∃ b, u = v ∧ blkOf v = some b ∧ w.heap[b]? = some ob
  | .lrec l sp fr => u = .func (.yield l) #[] #[] ∧ ∃ tmps : Array Value, w.heap[l]? = some (.loop { state := .ready, pending := none, fn := sp.fn, tmps := tmps, params := sp.ps, assign := sp.assign, body := sp.body, defers := sp.D }) ∧ tmps.size = sp.n ∧ ∀ t, AR N D loc w ((fr.lookup t).getD .junk) (tmps.getD t undef)

abbrev Hp := List (Nat × AO)
/-- The walk's own objects lie as told. -/
structure HRel (L : Nat → Prop) (N : Nat) (hp : Hp) (loc : Nat → Option Value) (w : World) : Prop where
  at' : ∀ t o, hp.lookup t = some o → t < N ∧ ∃ u, loc t = some u ∧ OR N (Dm L loc) loc w u o
  dead : ∀ t, hp.lookup t = none → loc t = none
  apart : ∀ t t' u u' b, loc t = some u → loc t' = some u' → blkOf u = some b → blkOf u' = some b → t = t'
  inL : ∀ b, L b → b < w.heap.size
  notL : ∀ t u b, loc t = some u → blkOf u = some b → ¬ L b

/-- What a walk is not to touch; its deferred calls. -/
structure Lim where
  blk : Nat → Prop
  ds : List Deferred
instance : CoeFun Lim (fun _ => Nat → Prop) := ⟨Lim.blk⟩
instance : Coe Lim (Nat → Prop) := ⟨Lim.blk⟩
structure ASt where
  fr : List (Nat × AV)
  hp : Hp
  n : Nat
  N : Nat
def ASt.get (s : ASt) (t : Nat) : AV := (s.fr.lookup t).getD .junk
def ASt.put (s : ASt) (d : Option Nat) (x : AV) : ASt := match d with
  | some t => { s with fr := (t, x) :: s.fr }
  | none => s
/-- A constant of the code. -/
def cv (v : Value) : AV := if v.oneCell' then .p (.val v) else match v with
  | .agg vs => if vs.all (·.oneCell') then .agg (vs.toList.map fun v => .p (.val v)) else .junk
  | _ => .junk
def ASt.ev (s : ASt) : Operand → AV
  | .tmp t => s.get t
  | .const v => cv v
  | .func f => .fn (.func f) []
  | .global _ => .junk

/-- The frame a and the world w are as told; of the slots only those of X. -/
structure Rel (X : Nat → Prop) (L : Lim) (s : ASt) (loc : Nat → Option Value) (a : Act) (w : World) : Prop where
  defers : a.defers = L.ds
  size : a.tmps.size = s.n
  fr : ∀ t, X t → AR s.N (Dm L loc) loc w (s.get t) (slot a t)
  hp : HRel L s.N s.hp loc w

abbrev All : Nat → Prop := fun _ => True

/-- What has become of memory: what was there and is no object of the walk's own stands as it was; new objects lie in new blocks. -/
structure Ext (loc : Nat → Option Value) (w : World) (loc' : Nat → Option Value) (w' : World) : Prop where
  kp : Kp (Dm (fun _ => False) loc) w w'
  fresh : ∀ b, Dm (fun _ => False) loc' b → Dm (fun _ => False) loc b ∨ w.heap.size ≤ b
theorem Ext.refl (loc : Nat → Option Value) (w : World) : Ext loc w loc w := ⟨Kp.refl _ _, fun _ h => .inl h⟩
theorem Ext.trans {l1 l2 l3 : Nat → Option Value} {a b c : World} (h : Ext l1 a l2 b) (k : Ext l2 b l3 c) : Ext l1 a l3 c :=
  ⟨h.kp.trans k.kp h.fresh, fun x hx => (k.fresh x hx).elim (h.fresh x) (fun h2 => .inr (Nat.le_trans h.kp.size h2))⟩
theorem Ext.of_below {loc : Nat → Option Value} {w w' : World} (h : Blw w.heap.size w w') : Ext loc w loc w' := ⟨.of_below h, fun _ h => .inl h⟩

theorem OR.mono {N N' : Nat} {D D' : Nat → Prop} {loc loc' : Nat → Option Value} {w w' : World} {u : Value} {o : AO} (h : OR N D loc w u o) (hN : N ≤ N') (hk : Kp D w w') (hD : ∀ k, k < w.heap.size → D' k → D k)
    (hl : ∀ t u, t < N → loc' t = some u → loc t = some u) (hb : ∀ b, blkOf u = some b → w'.heap[b]? = w.heap[b]?) : OR N' D' loc' w' u o := by
  cases o with
  | map pin P k n f =>
    obtain ⟨b, D, rfl, ⟨es, ck, h1, h2⟩, h3⟩ := h
    exact ⟨b, D, rfl, ⟨es, ck, (hb b rfl).trans h1, h2⟩, h3⟩
  | raw v ob =>
    obtain ⟨b, rfl, h1, h2⟩ := h
    exact ⟨b, rfl, h1, (hb b h1).trans h2⟩
  | lrec l sp fr =>
    obtain ⟨rfl, tmps, h1, h2, h3⟩ := h
    exact ⟨rfl, tmps, (hb l rfl).trans h1, h2, fun t => (h3 t).mono hN hk hD hl⟩
  | boxP pin ty cs =>
    obtain ⟨b, arr, rfl, h1, h2, h3, h4⟩ := h
    exact ⟨b, arr, rfl, (hb b rfl).trans h1, h2, fun j x hx => (h3 j x hx).mono hN hk hD hl, h4⟩
  | row e n rows =>
    obtain ⟨flat, h1, h2, h3, h4⟩ := h
    refine ⟨flat, own_of_block h1 fun g hg => hb g ?_, h2, fun k r j x hr hx => ?_, h4⟩
    · cases u <;> simp [Value.ownBlock] at hg
      rename_i ad _ _
      cases ad <;> simp at hg
      simp [blkOf, hg]
    · obtain ⟨v, h5, h6⟩ := h3 k r j x hr hx
      exact ⟨v, h5, h6.mono hk hD⟩
theorem OR.blk_lt {N : Nat} {D : Nat → Prop} {loc : Nat → Option Value} {w : World} {u : Value} {o : AO} (h : OR N D loc w u o) {b : Nat} (hb : blkOf u = some b) : b < w.heap.size := by
  cases o with
  | map pin P k n f =>
    obtain ⟨b', D, rfl, ⟨es, ck, h1, h2⟩, h3⟩ := h
    cases hb
    exact (Array.getElem?_eq_some_iff.1 h1).1
  | raw v ob =>
    obtain ⟨b', rfl, h1, h2⟩ := h
    rw [h1] at hb
    cases hb
    exact (Array.getElem?_eq_some_iff.1 h2).1
  | lrec l sp fr =>
    obtain ⟨rfl, tmps, h1, _⟩ := h
    cases hb
    exact (Array.getElem?_eq_some_iff.1 h1).1
  | boxP pin ty cs =>
    obtain ⟨b', arr, rfl, h1, _⟩ := h
    cases hb
    exact (Array.getElem?_eq_some_iff.1 h1).1
  | row e n rows =>
    obtain ⟨flat, h1, _⟩ := h
    refine (h1.lt b ?_).2
    rcases h1.2 with ⟨rfl, _⟩ | ⟨g, c, cur, rfl, _⟩
    · cases hb
    · cases hb; rfl
theorem HRel.loc_obj {L : Nat → Prop} {N : Nat} {hp : Hp} {loc : Nat → Option Value} {w : World} (h : HRel L N hp loc w) {t : Nat} {u : Value} (hu : loc t = some u) : ∃ o, hp.lookup t = some o ∧ OR N (Dm L loc) loc w u o := by
  cases ho : hp.lookup t with
  | none => rw [h.dead t ho] at hu; cases hu
  | some o =>
    obtain ⟨_, u', h1, h2⟩ := h.at' t o ho
    rw [hu] at h1
    cases h1
    exact ⟨o, rfl, h2⟩
theorem HRel.dm_lt {L : Nat → Prop} {N : Nat} {hp : Hp} {loc : Nat → Option Value} {w : World} (h : HRel L N hp loc w) {b : Nat} (hb : Dm L loc b) : b < w.heap.size := by
  rcases hb with hb | ⟨t, u, h1, h2⟩
  · exact h.inL b hb
  · obtain ⟨o, _, ho⟩ := h.loc_obj h1
    exact ho.blk_lt h2
/-- Nothing that was there has turned. -/
theorem HRel.below {L : Nat → Prop} {N : Nat} {hp : Hp} {loc : Nat → Option Value} {w w' : World} (h : HRel L N hp loc w) (hb : Blw w.heap.size w w') : HRel L N hp loc w' :=
  ⟨fun t o ho => by
    obtain ⟨h1, u, h2, h3⟩ := h.at' t o ho
    exact ⟨h1, u, h2, h3.mono (Nat.le_refl _) (.of_below hb) (fun _ _ h => h) (fun _ _ _ h => h) (fun b hb' => hb.block b (h3.blk_lt hb'))⟩,
  h.dead, h.apart, fun b hL => Nat.lt_of_lt_of_le (h.inL b hL) hb.size, h.notL⟩
theorem AR.blw {N : Nat} {D : Nat → Prop} {loc : Nat → Option Value} {w w' : World} {x : AV} {v : Value} (h : AR N D loc w x v) (hb : Blw w.heap.size w w') : AR N D loc w' x v :=
  h.mono (Nat.le_refl _) (.of_below hb) (fun _ _ h => h) (fun _ _ _ h => h)
theorem Rel.below {X : Nat → Prop} {L : Lim} {s : ASt} {loc : Nat → Option Value} {a : Act} {w w' : World} (h : Rel X L s loc a w) (hb : Blw w.heap.size w w') : Rel X L s loc a w' :=
  ⟨h.defers, h.size, fun t ht => (h.fr t ht).blw hb, h.hp.below hb⟩
theorem ASt.get_put (s : ASt) (d t : Nat) (x : AV) : (s.put (some d) x).get t = if t = d then x else s.get t := by
  simp only [ASt.get, ASt.put, List.lookup_cons]
  by_cases h : t = d
  · subst h; simp
  · have : (t == d) = false := by simpa using h
    simp [this, h]
theorem Rel.put {X : Nat → Prop} {L : Lim} {s : ASt} {loc : Nat → Option Value} {a : Act} {w : World} (h : Rel X L s loc a w) {d : Nat} (hd : d < s.n) {x : AV} {v : Value} (hx : AR s.N (Dm L loc) loc w x v) : Rel (fun t => t = d ∨ X t) L (s.put (some d) x) loc (a.put (some d) v) w :=
  ⟨h.defers, (size_put _ _ _).trans h.size, fun t ht => by
    rw [ASt.get_put, slot_put a d t v (by rw [h.size]; exact hd)]
    by_cases e : t = d
    · rw [if_pos e, if_pos e]; exact hx
    · rw [if_neg e, if_neg e]; exact h.fr t (ht.resolve_left e), h.hp⟩
theorem Rel.put' {L : Lim} {s : ASt} {loc : Nat → Option Value} {a : Act} {w : World} (h : Rel All L s loc a w) {d : Option Nat} (hd : ∀ t, d = some t → t < s.n) {x : AV} {v : Value} (hx : AR s.N (Dm L loc) loc w x v) : Rel All L (s.put d x) loc (a.put d v) w := by
  cases d with
  | none => exact h
  | some d =>
    have := h.put (hd d rfl) hx
    exact ⟨this.defers, this.size, fun t _ => this.fr t (.inr trivial), this.hp⟩
theorem cv_ok (N : Nat) (D : Nat → Prop) (loc : Nat → Option Value) (w : World) (v : Value) : AR N D loc w (cv v) v := by
  unfold cv
  split
  · rename_i h; exact .p _ _ (.val v h)
  · cases v <;> try exact .junk _
    rename_i vs hno
    dsimp only
    split
    · rename_i h
      have h' := Array.all_eq_true_iff_forall_mem.1 h
      refine .agg _ vs (by simp) (fun j x hx => ?_) (fun j hj => ?_)
      · simp only [List.getElem?_map, Option.map_eq_some_iff] at hx
        obtain ⟨u, hu, rfl⟩ := hx
        have hu' : vs[j]? = some u := by simpa using hu
        rw [Array.getD_eq_getD_getElem?, hu']
        exact .p _ _ (.val u (h' u (Array.mem_of_getElem? hu')))
      · rw [Array.getD_eq_getD_getElem?, Array.getElem?_eq_getElem hj]
        exact h' _ (Array.getElem_mem hj)
    · exact .junk _
theorem Rel.ev {X : Nat → Prop} {L : Lim} {s : ASt} {loc : Nat → Option Value} {a : Act} {w : World} (h : Rel X L s loc a w) (x : Operand) (hx : ∀ t, x = .tmp t → X t) : AR s.N (Dm L loc) loc w (s.ev x) (a.eval x) := by
  cases x with
  | tmp t => exact h.fr t (hx t rfl)
  | const v => exact cv_ok _ _ _ _ v
  | global g => exact .junk _
  | func f => exact .fn _ [] #[] rfl (fun j x hx => by cases hx)

/-! ### What a piece of code does -/
def mark (D : Nat) : Deferred := { target := .collected D, args := #[] }
/-- Ranges over functions leave marks among the deferred calls. -/
structure LX (L : Lim) (w : World) (L' : Lim) (w' : World) : Prop where
  ds : ∃ new : List Nat, L'.ds = new.map mark ++ L.ds ∧ new.Nodup ∧ ∀ D ∈ new, w.heap.size ≤ D ∧ L' D ∧ w'.heap[D]? = some (.deferred (some []))
  sub : ∀ b, L b → L' b
  new : ∀ b, L' b → L b ∨ w.heap.size ≤ b
theorem LX.refl (L : Lim) (w w' : World) : LX L w L w' := ⟨⟨[], by simp, List.nodup_nil, fun D h => by cases h⟩, fun _ h => h, fun _ h => .inl h⟩
theorem LX.trans {L L1 L2 : Lim} {w w1 w2 : World} {l1 l2 : Nat → Option Value} (h : LX L w L1 w1) (k : LX L1 w1 L2 w2) (hx : Ext l1 w1 l2 w2) (hn : ∀ t u b, l1 t = some u → blkOf u = some b → ¬ L1 b) (hs : w.heap.size ≤ w1.heap.size) : LX L w L2 w2 := by
  obtain ⟨n1, e1, d1, h1⟩ := h.ds
  obtain ⟨n2, e2, d2, h2⟩ := k.ds
  refine ⟨⟨n2 ++ n1, by rw [e2, e1, List.map_append, List.append_assoc], List.nodup_append.2 ⟨d2, d1, fun a ha b hb e => ?_⟩, fun D hD => ?_⟩, fun b hb => k.sub b (h.sub b hb), fun b hb => (k.new b hb).elim (h.new b) (fun h => .inr (by omega))⟩
  · subst e
    have := (h2 a ha).1
    have := (Array.getElem?_eq_some_iff.1 (h1 a hb).2.2).1
    omega
  · rcases List.mem_append.1 hD with hD | hD
    · obtain ⟨g1, g2, g3⟩ := h2 D hD
      exact ⟨by omega, g2, g3⟩
    · obtain ⟨g1, g2, g3⟩ := h1 D hD
      refine ⟨g1, k.sub D g2, (hx.kp.block D (Array.getElem?_eq_some_iff.1 g3).1 ?_).trans g3⟩
      rintro (h | ⟨t, u, e3, e4⟩)
      · exact h
      · exact hn t u D e3 e4 g2
def TPost (L : Lim) (loc : Nat → Option Value) (w : World) (Q : Exit → ASt → Prop) (e : Exit) (a' : Act) (w' : World) : Prop := ∃ s' loc', Q e s' ∧ (∃ L', Rel All L' s' loc' a' w' ∧ LX L w L' w') ∧ Ext loc w loc' w'
theorem TPost.of {L : Lim} {loc loc' : Nat → Option Value} {w : World} {Q : Exit → ASt → Prop} {e : Exit} {a' : Act} {w' : World} {s' : ASt} (h : Q e s') (hr : Rel All L s' loc' a' w') (hx : Ext loc w loc' w') : TPost L loc w Q e a' w' := ⟨s', loc', h, ⟨L, hr, .refl _ _ _⟩, hx⟩
/-- Where s is known, the code ends in a state of Q. -/
def T (F : Fence) (P : Program) (c : Code) (Q : Exit → ASt → Prop) (s : ASt) : Prop := ∀ L loc a w, Rel All L s loc a w → c.wpIn F 0 P (TPost L loc w Q) a w
/-- A fence that asks for nothing. -/
class FOk (F : Fence) : Prop where
  h : F = Fence.wide ∨ ∃ l, F = Fence.wide.inRound l
instance : FOk Fence.wide := ⟨.inl rfl⟩
instance (l : Nat) : FOk (Fence.wide.inRound l) := ⟨.inr ⟨l, rfl⟩⟩
theorem FOk.fn {F : Fence} [k : FOk F] (f : FuncId) : F.fn f := by rcases k.h with rfl | ⟨l, rfl⟩ <;> trivial
theorem FOk.depth {F : Fence} [k : FOk F] : F.depth = none := by rcases k.h with rfl | ⟨l, rfl⟩ <;> rfl
theorem FOk.calls {F : Fence} [k : FOk F] {n : Nat} {P : Program} {f : FuncId} {args : Array Value} {w : World} {R : Ending → World → Prop} (h : Calls P f args w R) : CallsIn F n P f args w R := by
  rcases k.h with rfl | ⟨l, rfl⟩
  · exact callsIn_wide.2 h
  · exact (callsIn_wide (n := n).2 h : CallsIn Fence.wide n P f args w R)
theorem FOk.rows {F : Fence} [k : FOk F] {n : Nat} {P : Program} {row : String} {args : Array Value} {w : World} {R : Value → World → Prop} (h : Rows P row args w R) : RowsIn F n P row args w R := fun c cs _ => by
  obtain ⟨v, w', r, s⟩ := h c cs
  refine ⟨v, w', r, ?_⟩
  rcases k.h with rfl | ⟨l, rfl⟩
  · exact stepsIn_wide.2 s
  · exact (stepsIn_wide.2 s : StepsIn (Machine.fenced P Fence.wide) P _ _)
def noDef1 (o : Oper) : Bool := match o.op with
  | .defer _ => false
  | _ => true
theorem wpIn_of_wp {F : Fence} [FOk F] {P : Program} {o : Oper} {a : Act} {w : World} {K : Act → World → Prop} {Q : Exit → Act → World → Prop} (hd : noDef1 o = true) (h : o.wp P a w K Q) : o.wpIn F 0 P a w K Q := by
  refine ⟨fun _ _ => FOk.fn _, ?_⟩
  rw [Oper.semAt_eq F.round a.eval o (fun c e => by simp [noDef1, e] at hd)]
  unfold Oper.wp at h
  generalize (execOp a.eval o).run P w = r at *
  have hdp : (F.depth.isSome = true → 1 ≤ 0) := by rw [FOk.depth (F := F)]; intro h; cases h
  cases r with
  | ok n w' =>
    cases n <;> simp only [Oper.upon, Oper.uponIn] at h ⊢
    all_goals first
      | exact h
      | exact ⟨hdp, FOk.calls h⟩
      | exact ⟨hdp, FOk.rows h⟩
  | halt x w' => cases x <;> exact h
theorem list_in {F : Fence} [FOk F] {P : Program} {ops : Array Oper} {Q : Exit → Act → World → Prop} (hQ : ∀ a w, ¬ Q .outgrown a w) : ∀ (l : List Oper) (a : Act) (w : World), (∀ o ∈ l, noDef1 o = true) → wpList P ops Q l a w → wpListIn F 0 P ops Q l a w
  | [], a, w, _, h => h
  | o :: r, a, w, hd, h => by
    unfold wpList at h
    unfold wpListIn
    have hr : ∀ o ∈ r, noDef1 o = true := fun x hx => hd x (List.mem_cons.2 (.inr hx))
    split
    · rename_i hw
      rw [if_pos hw] at h
      rcases h with h | ⟨_, a', w', h⟩
      · exact wpIn_of_wp (hd o (List.mem_cons.2 (.inl rfl))) (Oper.wp_mono (fun a w k => list_in hQ r a w hr k) h)
      · exact absurd h (hQ _ _)
    · rename_i hw
      rw [if_neg hw] at h
      exact ⟨fun _ _ => FOk.fn _, list_in hQ r _ w hr h⟩
theorem any_in {F : Fence} [FOk F] {P : Program} {md : Region.Mode} {ops : Array Oper} {Q : Exit → Act → World → Prop} (hQ : ∀ a w, ¬ Q .outgrown a w) (hd : ∀ o ∈ ops.toList, noDef1 o = true) : ∀ (n : Nat) (listed : Array Bool) (a : Act) (w : World), wpAny P md ops Q n listed a w → wpAnyIn F 0 P md ops Q n listed a w
  | 0, _, _, _, h => h
  | n + 1, listed, a, w, h => ⟨h.1, fun i hi => by
    have h1 := h.2 i hi
    unfold wpOp at h1
    unfold wpOpIn
    cases ho : ops[i]? with
    | none => rw [ho] at h1; exact any_in hQ hd n _ _ _ h1
    | some o =>
      rw [ho] at h1
      simp only at h1 ⊢
      split
      · rename_i hw
        rw [if_pos hw] at h1
        rcases h1 with h1 | ⟨_, a', w', h1⟩
        · exact wpIn_of_wp (hd o (List.mem_of_getElem? (by simpa using ho))) (Oper.wp_mono (fun a w k => any_in hQ hd n _ a w k) h1)
        · exact absurd h1 (hQ _ _)
      · rename_i hw
        rw [if_neg hw] at h1
        exact ⟨fun _ _ => FOk.fn _, any_in hQ hd n _ _ _ h1⟩⟩
def TL (P : Program) (ops : Array Oper) (Q : Exit → ASt → Prop) (l : List Oper) (s : ASt) : Prop := ∀ L loc a w, Rel All L s loc a w → wpList P ops (TPost L loc w Q) l a w
theorem TPost.ext {L : Lim} {l1 l2 : Nat → Option Value} {w1 w2 : World} {Q : Exit → ASt → Prop} (h : Ext l1 w1 l2 w2) {e : Exit} {a : Act} {w : World} (k : TPost L l2 w2 Q e a w) : TPost L l1 w1 Q e a w :=
  let ⟨s', loc', h1, ⟨L', h2, h4⟩, h3⟩ := k; ⟨s', loc', h1, ⟨L', h2, ⟨let ⟨n, g1, g2, g3⟩ := h4.ds; ⟨n, g1, g2, fun D hD => let ⟨g4, g5⟩ := g3 D hD; ⟨Nat.le_trans h.kp.size g4, g5⟩⟩, h4.sub, fun b hb => (h4.new b hb).imp id (Nat.le_trans h.kp.size)⟩⟩, h.trans h3⟩
theorem TPost.go {L L1 : Lim} {l l1 : Nat → Option Value} {w w1 : World} {Q : Exit → ASt → Prop} {s1 : ASt} {a1 : Act} (hr : Rel All L1 s1 l1 a1 w1) (hl : LX L w L1 w1) (hx : Ext l w l1 w1) {e : Exit} {a : Act} {w2 : World} (k : TPost L1 l1 w1 Q e a w2) : TPost L l w Q e a w2 :=
  let ⟨s', loc', h1, ⟨L', h2, h4⟩, h3⟩ := k; ⟨s', loc', h1, ⟨L', h2, hl.trans h4 h3 hr.hp.notL hx.kp.size⟩, hx.trans h3⟩

theorem LetsOut.mono {Q Q' : Exit → Act → World → Prop} (h : ∀ e a w, Q e a w → Q' e a w) : LetsOut Q → LetsOut Q' := fun ⟨a, w, k⟩ => ⟨a, w, h _ _ _ k⟩
theorem oper_mono {P : Program} {o : Oper} {a : Act} {w : World} {K K' : Act → World → Prop} {Q Q' : Exit → Act → World → Prop} (hK : ∀ a w, K a w → K' a w) (h : ∀ e a w, Q e a w → Q' e a w) (hh : o.wp P a w K Q) : o.wp P a w K' Q' := by
  unfold Oper.wp at *
  generalize (execOp a.eval o).run P w = r at *
  cases r with
  | ok n w' =>
    cases n <;> simp only [Oper.upon] at hh ⊢ <;>
      first
        | exact hK _ _ hh
        | exact Calls.mono hh (fun e w'' he => by cases e <;> first | exact hK _ _ he | exact h _ _ _ he | exact LetsOut.mono h he)
        | exact Rows.mono hh (fun _ _ he => hK _ _ he)
  | halt x w' => cases x <;> simp only [Oper.upon] at hh ⊢ <;> exact h _ _ _ hh
theorem wpList_mono {P : Program} {ops : Array Oper} {Q Q' : Exit → Act → World → Prop} (h : ∀ e a w, Q e a w → Q' e a w) : ∀ (l : List Oper) (a : Act) (w : World), wpList P ops Q l a w → wpList P ops Q' l a w
  | [], a, w, k => h _ _ _ k
  | o :: l, a, w, k => by
    unfold wpList at k ⊢
    split
    · rename_i hw
      rw [if_pos hw] at k
      exact k.imp (oper_mono (wpList_mono h l) h) (fun ⟨k1, k2⟩ => ⟨k1, LetsOut.mono h k2⟩)
    · rename_i hw
      rw [if_neg hw] at k
      exact wpList_mono h l _ _ k

def ThenA (K : ASt → Prop) (Q : Exit → ASt → Prop) : Exit → ASt → Prop
  | .normal, s => K s
  | e, s => Q e s
def InBlock (id : Nat) (Q : Exit → ASt → Prop) : Exit → ASt → Prop
  | .exit id', s => if id' = id then Q .normal s else Q (.exit id') s
  | e, s => Q e s
section
variable {F : Fence} {P : Program} {Q : Exit → ASt → Prop} {s : ASt}
theorem T.seq {x y : Code} (h : T F P x (ThenA (T F P y Q) Q) s) : T F P (.seq x y) Q s := fun L loc a w hr => by
  refine wpIn_seq (wpIn_mono (h L loc a w hr) fun e a' w' ⟨s', loc', h1, h2, h3⟩ => ?_)
  cases e with
  | normal =>
    obtain ⟨L1, h2, hl⟩ := h2
    exact wpIn_mono (h1 L1 loc' a' w' h2) fun e a2 w2 k => k.go h2 hl h3
  | _ => exact ⟨s', loc', h1, h2, h3⟩
theorem T.block {id : Nat} {c : Code} (h : T F P c (InBlock id Q) s) : T F P (.block id c) Q s := fun L loc a w hr => by
  refine wpIn_block (wpIn_mono (h L loc a w hr) fun e a' w' ⟨s', loc', h1, h2, h3⟩ => ?_)
  cases e with
  | exit id' =>
    simp only [Exit.inBlock, InBlock] at h1 ⊢
    split
    · rename_i hid; rw [if_pos hid] at h1; exact ⟨s', loc', h1, h2, h3⟩
    · rename_i hid; rw [if_neg hid] at h1; exact ⟨s', loc', h1, h2, h3⟩
  | _ => exact ⟨s', loc', h1, h2, h3⟩
theorem T.skip (h : Q .normal s) : T F P .skip Q s := fun _ loc _ _ hr => wpIn_skip (.of h hr (Ext.refl _ _))
theorem T.exit {id : Nat} (h : Q (.exit id) s) : T F P (.exit id) Q s := fun _ loc _ _ hr => wpIn_exit (.of h hr (Ext.refl _ _))
theorem T.ret (h : Q .ret s) : T F P .ret Q s := fun _ loc _ _ hr => wpIn_ret (.of h hr (Ext.refl _ _))
theorem AR.bool {N : Nat} {D : Nat → Prop} {loc : Nat → Option Value} {w : World} {b : Bool} {v : Value} (h : AR N D loc w (.p (.val (.bool b))) v) : v = .bool b := by
  cases h with | p _ _ h => cases h; rfl
theorem AR.val {N : Nat} {D : Nat → Prop} {loc : Nat → Option Value} {w : World} {u v : Value} (h : AR N D loc w (.p (.val u)) v) : v = u := by
  cases h with | p _ _ h => cases h; rfl
theorem T.cond {c : Operand} {x y : Code} {b : Bool} (hc : s.ev c = .p (.val (.bool b))) (h : b = true → T F P x Q s) (h' : b = false → T F P y Q s) : T F P (.cond c x y) Q s := fun L loc a w hr => by
  have := hr.ev c (fun _ _ => trivial)
  rw [hc] at this
  exact wpIn_cond_split this.bool (fun e => h e L loc a w hr) (fun e => h' e L loc a w hr)
theorem T.mono {c : Code} {Q' : Exit → ASt → Prop} (h : T F P c Q s) (hq : ∀ e s, Q e s → Q' e s) : T F P c Q' s := fun L loc a w hr =>
  wpIn_mono (h L loc a w hr) fun _ _ _ ⟨s', loc', h1, h2, h3⟩ => ⟨s', loc', hq _ _ h1, h2, h3⟩
/-- Less is known of s'. -/
def Weak (s s' : ASt) : Prop := ∀ L loc a w, Rel All L s loc a w → ∃ loc', Rel All L s' loc' a w ∧ Ext loc w loc' w
theorem Weak.refl (s : ASt) : Weak s s := fun _ loc _ _ h => ⟨loc, h, Ext.refl _ _⟩
theorem Weak.trans {s1 s2 s3 : ASt} (h : Weak s1 s2) (k : Weak s2 s3) : Weak s1 s3 := fun L loc a w hr =>
  let ⟨l2, h1, h2⟩ := h L loc a w hr; let ⟨l3, h3, h4⟩ := k L l2 a w h1; ⟨l3, h3, h2.trans h4⟩
theorem T.weak {c : Code} {s' : ASt} (hw : Weak s s') (h : T F P c Q s') : T F P c Q s := fun L loc a w hr =>
  let ⟨loc', h1, h2⟩ := hw L loc a w hr; wpIn_mono (h L loc' a w h1) fun _ _ _ k => k.ext h2
theorem TL.weak {ops : Array Oper} {l : List Oper} {s' : ASt} (hw : Weak s s') (h : TL P ops Q l s') : TL P ops Q l s := fun L loc a w hr =>
  let ⟨loc', h1, h2⟩ := hw L loc a w hr; wpList_mono (fun _ _ _ k => k.ext h2) l a w (h L loc' a w h1)
/-- A loop: S, what holds at its head, for an index of which a measure goes down. -/
theorem T.loop {ι : Type} {c : Code} (S : ι → ASt) (μ : ι → Nat) (i₀ : ι) (h0 : Weak s (S i₀)) (hr : ∀ i, T F P c (ThenA (fun s' => ∃ j, Weak s' (S j) ∧ μ j < μ i) Q) (S i)) : T F P (.loop c) Q s := fun L loc a w hrel => by
  intro b k cs hro hb hro2
  have key : ∀ n i, μ i = n → ∀ L1 l1 a1 w1, Rel All L1 (S i) l1 a1 w1 → LX L w L1 w1 → Ext loc w l1 w1 →
      ∃ e a' w', TPost L loc w Q e a' w' ∧ ArrivesIn (Machine.fenced P F) P (lone (b.atR a1 (.code c :: .inLoop c :: k)) cs w1) b k cs e a' w' := by
    intro n
    induction n using Nat.strongRecOn with
    | _ n ih =>
      intro i hn L1 l1 a1 w1 h1 hlx hx
      obtain ⟨e, a2, w2, ⟨s2, l2, hq, ⟨L2, hr2, hl2⟩, hx2⟩, harr⟩ := hr i L1 l1 a1 w1 h1 b (.inLoop c :: k) cs hro hb hro2
      have hl02 := hlx.trans hl2 hx2 h1.hp.notL hx.kp.size
      cases e with
      | normal =>
        obtain ⟨j, hw, hlt⟩ := hq
        obtain ⟨l3, hr3, hx3⟩ := hw L2 l2 a2 w2 hr2
        obtain ⟨e3, a3, w3, hq3, harr3⟩ := ih (μ j) (hn ▸ hlt) j rfl L2 l3 a2 w2 hr3 hl02 ((hx.trans hx2).trans hx3)
        exact ⟨e3, a3, w3, hq3, .of_steps (StepsIn.trans harr (.one (fenced_calm hb hro2 rfl) stepR_inLoop)) harr3⟩
      | exit id => exact ⟨_, a2, w2, ⟨s2, l2, hq, ⟨L2, hr2, hl02⟩, hx.trans hx2⟩, .pass (x := .inLoop c) rfl (fun _ _ => .inl (by simp)) harr⟩
      | goto l => exact ⟨_, a2, w2, ⟨s2, l2, hq, ⟨L2, hr2, hl02⟩, hx.trans hx2⟩, .pass (x := .inLoop c) rfl (fun _ _ => .inl (by simp)) harr⟩
      | ret => exact ⟨_, a2, w2, ⟨s2, l2, hq, ⟨L2, hr2, hl02⟩, hx.trans hx2⟩, .pass (x := .inLoop c) rfl (fun _ _ => .inl (by simp)) harr⟩
      | panic ch => exact ⟨_, a2, w2, ⟨s2, l2, hq, ⟨L2, hr2, hl02⟩, hx.trans hx2⟩, .pass (x := .inLoop c) rfl (fun _ _ => .inl (by simp)) harr⟩
      | outgrown => exact ⟨_, a2, w2, ⟨s2, l2, hq, ⟨L2, hr2, hl02⟩, hx.trans hx2⟩, .pass (x := .inLoop c) rfl (fun _ _ => .inl (by simp)) harr⟩
  obtain ⟨l0, hr0, hx0⟩ := h0 L loc a w hrel
  obtain ⟨e, a', w', hq, harr⟩ := key _ i₀ rfl L l0 a w hr0 (.refl _ _ _) hx0
  exact ⟨e, a', w', hq, .of_steps (.one (fenced_calm hb hro2 rfl) stepR_loop) harr⟩
end
end Go.Proofs.Ytbhkcejjehgfcaa
