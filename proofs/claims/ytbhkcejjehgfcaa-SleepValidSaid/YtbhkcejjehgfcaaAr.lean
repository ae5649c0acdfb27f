/- Maps in the abstract memory. -/
import Derived.Test.YtbhkcejjehgfcaaAn
import Derived.Maps.RangeRun
import Derived.Carry
namespace Go.Proofs.Ytbhkcejjehgfcaa
open Go.RowKit Go.Sort Go.Maps Go.ChangeMaps Go.MapKept Go.WideShapes
open Go.WideElems (Fit rd rg pl rd_key rd_val rg_of other_key)
set_option linter.unusedSimpArgs false
set_option linter.unusedVariables false

/-- The operation ends in a state of K. -/
def OpEffG (P : Program) (o : Oper) (s : ASt) (K : ASt → Prop) : Prop := ∀ L loc a w, Rel All L s loc a w → o.wp P a w (fun a' w' => ∃ s' loc', K s' ∧ Rel All L s' loc' a' w' ∧ Ext loc w loc' w') (fun _ _ _ => False)
theorem TL.effG {P : Program} {ops : Array Oper} {Q : Exit → ASt → Prop} {rest : List Oper} {o : Oper} {s : ASt} (hw : Wants ops o s) (h : OpEffG P o s (TL P ops Q rest)) : TL P ops Q (o :: rest) s := fun L loc a w hr => by
  unfold wpList
  rw [hw.spec (hr.sub fun _ _ => trivial), if_pos rfl]
  refine .inl (oper_mono (fun a' w' ⟨s', loc', h0, h1, h2⟩ => ?_) (fun _ _ _ h => h.elim) (h L loc a w hr))
  exact wpList_mono (fun _ _ _ k => k.ext h2) rest a' w' (h0 L loc' a' w' h1)
theorem OpEff.gen {P : Program} {o : Oper} {s s' : ASt} {K : ASt → Prop} (h : OpEff P o s s') (hK : K s') : OpEffG P o s K := fun L loc a w hr =>
  oper_mono (fun a' w' ⟨loc', h1, h2⟩ => ⟨s', loc', hK, h1, h2⟩) (fun _ _ _ h => h) (h L loc a w hr)

/-! ### Values that are known -/
def pvals : List AV → Option (List Value)
  | [] => some []
  | .p (.val v) :: r => (pvals r).map (v :: ·)
  | _ => none
def aval : AV → Option Value
  | .p (.val v) => some v
  | .agg cs => (pvals cs).map fun l => .agg l.toArray
  | _ => none
theorem pvals_spec {N : Nat} {D : Nat → Prop} {loc : Nat → Option Value} {w : World} : ∀ {cs : List AV} {l vs : List Value}, pvals cs = some l → vs.length = cs.length → (∀ (j : Nat) x v, cs[j]? = some x → vs[j]? = some v → AR N D loc w x v) → vs = l
  | [], l, vs, h, hl, _ => by cases h; exact List.eq_nil_of_length_eq_zero hl
  | c :: cs, l, vs, h, hl, ha => by
    cases vs with
    | nil => cases hl
    | cons v vs =>
      cases c with
      | p x =>
        cases x with
        | val v' =>
          simp only [pvals] at h
          obtain ⟨l', h1, rfl⟩ := Option.map_eq_some_iff.1 h
          have e1 : v = v' := (ha 0 _ v rfl rfl).val
          have e2 := pvals_spec (vs := vs) h1 (by simpa using hl) fun j x u hx hu => ha (j + 1) x u (by simpa using hx) (by simpa using hu)
          rw [e1, e2]
        | seq n rows => simp [pvals] at h
      | _ => simp [pvals] at h
theorem AR.aval {N : Nat} {D : Nat → Prop} {loc : Nat → Option Value} {w : World} {x : AV} {u v : Value} (h : AR N D loc w x v) (hx : aval x = some u) : v = u := by
  unfold Go.Proofs.Ytbhkcejjehgfcaa.aval at hx
  split at hx
  · cases hx; exact h.val
  · rename_i cs
    obtain ⟨l, hl, rfl⟩ := Option.map_eq_some_iff.1 hx
    cases h with
    | agg _ vs hvl hva h1 =>
    have := pvals_spec (vs := vs.toList) hl (by simpa using hvl) fun j x v hx hv => by
      have h5 := hva j x hx
      have h6 : vs[j]? = some v := by simpa using hv
      rw [Array.getD_eq_getD_getElem?, h6] at h5
      exact h5
    rw [← this]
  · cases hx

/-! ### What a map is -/
def mapTy (P : Program) (t : TypeId) : Option (TypeId × TypeId × Value) := match P.underlying t with
  | some (.map k e) => match (P.info? e).bind (·.zero) with
    | some z => some (k, e, z)
    | none => none
  | _ => none
theorem mapTy_of {P : Program} {t k e : TypeId} {z : Value} (h : mapTy P t = some (k, e, z)) : P.underlying t = some (.map k e) ∧ ∀ w, (zeroValue e).run P w = .ok z w := by
  unfold mapTy at h
  split at h
  · rename_i k' e' hu
    split at h
    · rename_i z' hz
      cases h
      obtain ⟨i, hi, hiz⟩ := Option.bind_eq_some_iff.1 hz
      exact ⟨hu, fun w => by simp [zeroValue, typeInfo, hi, hiz]⟩
    · cases h
  · cases h
/-- The function f, but at kl. -/
noncomputable def updF (f : Lit → Option Value) (kl : Lit) (x : Option Value) : Lit → Option Value := open Classical in fun l => if l = kl then x else f l
theorem updF_same (f : Lit → Option Value) (kl : Lit) (x : Option Value) : updF f kl x kl = x := by simp [updF]
theorem updF_ne (f : Lit → Option Value) {kl l : Lit} (x : Option Value) (h : l ≠ kl) : updF f kl x l = f l := by simp [updF, h]
theorem MapOk.empty : MapOk (.map []) (fun _ => none) := fun kl _ z => atKey_of_not_has rfl z
theorem MapOk.has {D : DataW Value} {f : Lit → Option Value} (h : MapOk D f) {kl : Lit} (hk : WideAt.IsKeyLit kl) : Maps.has D kl = (f kl).isSome := by
  have h1 := h kl hk
  cases hf : f kl with
  | none => rw [hf] at h1; exact has_false_of_atKey h1
  | some v => rw [hf] at h1; exact has_true_of_atKey h1
theorem MapOk.put {D : DataW Value} {f : Lit → Option Value} (h : MapOk D f) (hD : IsMap D) {kl : Lit} (hk : WideAt.IsKeyLit kl) (v : Value) : MapOk (D.put kl (.held v)) (updF f kl (some v)) := fun l hl z => by
  by_cases e : l = kl
  · subst e; rw [updF_same]; exact atKey_put_same hD hk _ z
  · rw [updF_ne _ _ e, atKey_put_other e]; exact h l hl z
theorem MapOk.del {D : DataW Value} {f : Lit → Option Value} (h : MapOk D f) (kl : Lit) : MapOk (D.del kl) (updF f kl none) := fun l hl z => by
  by_cases e : l = kl
  · subst e; rw [updF_same]; exact atKey_del_same z
  · rw [updF_ne _ _ e, atKey_del_other e]; exact h l hl z

section
variable {P : Program} {ops : Array Oper} {o : Oper} {s : ASt}
theorem op_makeMap (t k e : TypeId) (z : Value) (h : o.op = .makeMap t none) (ht : mapTy P t = some (k, e, z)) (hd : ∀ t, o.dst = some t → t < s.n) : OpEff P o s ((s.add (.map none P k 0 fun _ => none)).put o.dst (.own s.N)) := fun L loc a w hr => by
  have hb : Blw w.heap.size w (w.alloc (.map #[] 0)) := (Blw.refl _ _).alloc (Nat.le_refl _) _
  have hu : ∀ b, blkOf (.map (some w.heap.size)) = some b → w.heap.size ≤ b := fun b e => by cases e; exact Nat.le_refl _
  unfold Oper.wp
  have he : (execOp a.eval o).run P w = .ok (.value (.map (some w.heap.size))) (w.alloc (.map #[] 0)) := by simp [execOp, h, run_makeMap]
  rw [he]
  refine ⟨setLoc loc s.N (.map (some w.heap.size)), ?_, .add hb _ _ hu⟩
  refine (hr.add hb _ (.map none P k 0 fun _ => none) hu ⟨w.heap.size, .map [], rfl, World.ownsMap_made w P k heldR, MapOk.empty, fun p e => by cases e⟩).put' hd (.own s.N _ (Nat.lt_succ_self _) rfl fun z hz => ?_)
  rw [setLoc_same] at hz; cases hz; rfl

theorem look_map {X : Nat → Prop} {L : Lim} {loc : Nat → Option Value} {a : Act} {w : World} (hr : Rel X L s loc a w) {x : Operand} (hX : ∀ t, x = .tmp t → X t) {tag : Nat} {ob : AO} (hx : s.ev x = .own tag) (hlk : s.hp.lookup tag = some ob) : tag < s.N ∧ ∃ u, loc tag = some u ∧ a.eval x = u ∧ OR s.N (Dm L loc) loc w u ob := by
  have h1 := hr.ev x hX
  rw [hx] at h1
  obtain ⟨htN, u, hu, hor⟩ := hr.hp.at' tag _ hlk
  generalize a.eval x = ax at h1
  cases h1 with
  | own _ _ _ _ hv => exact ⟨htN, u, hu, hv u hu, hor⟩
theorem op_lookup (t : TypeId) (x i : Operand) (ok : Bool) (tag n : Nat) (pin : Option Nat) (k e : TypeId) (z key : Value) (kl : Lit) (f : Lit → Option Value) (h : o.op = .lookup t x i ok) (ht : mapTy P t = some (k, e, z)) (hx : s.ev x = .own tag) (hlk : s.hp.lookup tag = some (.map pin P k n f))
    (K : Keyed P k) (hi : aval (s.ev i) = some key) (hk : keyOf P k key = some kl) : OpVal P ops o s (if ok then .tup [cv ((f kl).getD z), .p (.val (.bool (f kl).isSome))] else cv ((f kl).getD z)) := .pure fun L loc a w hr => by
  obtain ⟨_, u, hu, hax, b, D, rfl, hown, hmk, _⟩ := look_map hr (looks_mem (by simp [h, Op.operands])) hx hlk
  have hiv := (hr.ev i (looks_mem (by simp [h, Op.operands]))).aval hi
  obtain ⟨hty, hz⟩ := mapTy_of ht
  have hD := hmk kl (K.key hk) (.held z)
  have hval : ∀ {v : Value} {ps : List MemPlace}, heldR v = some (D.atKey kl (.held z), ps) → v = (f kl).getD z := fun {v ps} hv => by
    simp only [heldR, Option.some.injEq, Prod.mk.injEq] at hv
    rw [hD] at hv
    cases hf : f kl with
    | none => rw [hf] at hv; simpa using hv.1
    | some y => rw [hf] at hv; simpa using hv.1
  cases ok with
  | false =>
    obtain ⟨v, ps, hrun, hv⟩ := hown.lookup K hty (hz w) (zd := .held z) (zp := []) rfl hk
    obtain rfl := hval hv
    exact ⟨_, by simp [execOp, h, hax, hiv, hrun], cv_ok _ _ _ _ _⟩
  | true =>
    obtain ⟨v, ps, hrun, hv⟩ := hown.look_ok K hty (hz w) (zd := .held z) (zp := []) rfl hk
    obtain rfl := hval hv
    rw [hmk.has (K.key hk)] at hrun
    refine ⟨_, by simp [execOp, h, hax, hiv, hrun]; rfl, .tup _ _ rfl fun j x hj => ?_⟩
    match j, hj with
    | 0, hj => cases hj; exact cv_ok _ _ _ _ _
    | 1, hj => cases hj; exact .of_val _ rfl
theorem turned_kp {w w' : World} {b : Nat} (h : w.mapTurned w' b) (hd : w.drawn ≤ w'.drawn) : Kp (fun k => k = b) w w' :=
  let g := h.grown; ⟨g.os, g.tape, g.output, g.size, fun k hk hn => g.block k hk (fun e => hn (by cases e; rfl)), hd⟩
theorem op_mapUpdate (t : TypeId) (x i y : Operand) (tag n : Nat) (pin : Option Nat) (k e : TypeId) (z key val : Value) (kl : Lit) (f : Lit → Option Value) (h : o.op = .mapUpdate t x i y) (ht : mapTy P t = some (k, e, z)) (hx : s.ev x = .own tag) (hlk : s.hp.lookup tag = some (.map pin P k n f))
    (K : Keyed P k) (hi : aval (s.ev i) = some key) (hk : keyOf P k key = some kl) (hy : aval (s.ev y) = some val) (hn : n < maxLen) (hd : o.dst = none) : OpEff P o s { s with hp := setHp s.hp tag (.map pin P k (n + 1) (updF f kl (some val))) } := fun L loc a w hr => by
  obtain ⟨_, u, hu, hax, b, D, rfl, hown, hmk, hpin⟩ := look_map hr (fun _ _ => trivial) hx hlk
  have hiv := (hr.ev i (fun _ _ => trivial)).aval hi
  have hyv := (hr.ev y (fun _ _ => trivial)).aval hy
  obtain ⟨hty, hz⟩ := mapTy_of ht
  obtain ⟨w', hrun, hown', htn⟩ := hown.store K hty hn (val := val) (d := .held val) (ps := []) hk rfl
  unfold Oper.wp
  have he : (execOp a.eval o).run P w = .ok .skip w' := by simp [execOp, h, hax, hiv, hyv, hrun]
  rw [he]
  simp only [Oper.upon, hd]
  exact ⟨loc, hr.turn hlk hu rfl (turned_kp htn (run_drawn hrun)) ⟨b, _, rfl, hown', hmk.put hown.isMap (K.key hk) val, hpin⟩, .turn hu rfl (turned_kp htn (run_drawn hrun))⟩
theorem op_delete (t k' : TypeId) (x i : Operand) (tag n : Nat) (pin : Option Nat) (k e : TypeId) (z key : Value) (kl : Lit) (f : Lit → Option Value) (h : o.op = .call { callee := .builtin .delete, args := #[x, i], argTypes := #[t, k'] }) (hkk : k' = k) (ht : mapTy P t = some (k, e, z)) (hx : s.ev x = .own tag) (hlk : s.hp.lookup tag = some (.map pin P k n f))
    (K : Keyed P k) (hi : aval (s.ev i) = some key) (hk : keyOf P k key = some kl) (hd : ∀ t, o.dst = some t → t < s.n) : OpEff P o s (ASt.put { s with hp := setHp s.hp tag (.map pin P k n (updF f kl none)) } o.dst (.tup [])) := fun L loc a w hr => by
  subst hkk
  obtain ⟨_, u, hu, hax, b, D, rfl, hown, hmk, hpin⟩ := look_map hr (fun _ _ => trivial) hx hlk
  have hiv := (hr.ev i (fun _ _ => trivial)).aval hi
  obtain ⟨hty, hz⟩ := mapTy_of ht
  obtain ⟨w', hrun, hown', htn⟩ := hown.drop K hty hk o.type
  unfold Oper.wp
  have he : (execOp a.eval o).run P w = .ok (.value (.tuple #[])) w' := by
    simp only [execOp, h, resolve, invoke, builtin, Sem.run_bind, Sem.run_pure, Result.andThen_ok, List.map_toArray, List.map_cons, List.map_nil, hax, hiv, hrun]
  rw [he]
  refine ⟨loc, Rel.put' (s := { s with hp := setHp s.hp tag (.map pin P k' n (updF f kl none)) }) (hr.turn hlk hu rfl (turned_kp htn (run_drawn hrun)) ⟨b, _, rfl, hown', hmk.del kl, hpin⟩) hd ?_, .turn hu rfl (turned_kp htn (run_drawn hrun))⟩
  exact .tup [] #[] rfl (fun j x hx => by simp at hx)

/-! ### Ranges over maps -/
abbrev lefts (es : Array MapEntry) (seen : Array Nat) : Array MapEntry := leftOf es seen
/-- The entries es are the map f. -/
def MapIs (P : Program) (k : TypeId) (n : Nat) (f : Lit → Option Value) (es : Array MapEntry) (ck : Nat) : Prop :=
  Fit (H := Value) P k heldR es ck ∧ es.size ≤ n ∧ MapOk (.map ((es.toList.map (rg P k heldR)).foldr DataW.insert [])) f
theorem MapIs.born {k : TypeId} {n : Nat} {f : Lit → Option Value} {es : Array MapEntry} {ck : Nat} (h : MapIs P k n f es ck) : ∀ x ∈ es.toList, x.born < ck := h.1.stamped.1
theorem MapIs.nodup {k : TypeId} {n : Nat} {f : Lit → Option Value} {es : Array MapEntry} {ck : Nat} (h : MapIs P k n f es ck) : (es.toList.map (·.born)).Nodup := ((stamped_iff es ck).1 h.1.stamped).2.1
theorem MapIs.entry {k : TypeId} {n : Nat} {f : Lit → Option Value} {es : Array MapEntry} {ck : Nat} (h : MapIs P k n f es ck) (K : Keyed P k) {e : MapEntry} (he : e ∈ es.toList) : ∃ kl, keyOf P k e.key = some kl ∧ f kl = some e.val := by
  obtain ⟨F, hs, hm⟩ := h
  obtain ⟨y, hy⟩ := F.reads e he
  obtain ⟨z, hz, hzd⟩ := rd_val hy
  have hkey := rd_key hy
  refine ⟨y.1, hkey, ?_⟩
  have hrg : (rg P k heldR e).1 = y.1 := by rw [rg_of hy]
  have hat : ∀ zd, DataW.atKey (.map ((es.toList.map (rg P k heldR)).foldr DataW.insert [])) y.1 zd = z.1 := fun zd => by
    rw [(atKey_sorted (es.toList.map (rg P k heldR)) (Maps.fit_rising K F) y.1 (K.key hkey)).2 (rg P k heldR e) (List.mem_map.2 ⟨e, he, rfl⟩) hrg, rg_of hy, hzd]
  cases hz
  have h1 := hm y.1 (K.key hkey) (.held default)
  have h2 := hm y.1 (K.key hkey) .nil
  rw [hat] at h1 h2
  cases hf : f y.1 with
  | none => rw [hf] at h2; cases h2
  | some v => rw [hf] at h1; cases h1; rfl
theorem MapIs.mem {k : TypeId} {n : Nat} {f : Lit → Option Value} {es : Array MapEntry} {ck : Nat} (h : MapIs P k n f es ck) (K : Keyed P k) {kl : Lit} (hk : WideAt.IsKeyLit kl) {v : Value} (hf : f kl = some v) : ∃ e ∈ es.toList, keyOf P k e.key = some kl ∧ e.val = v := by
  have hh := h.2.2.has hk
  rw [hf] at hh
  obtain ⟨p, hp, hpk⟩ := List.any_eq_true.1 hh
  obtain ⟨x, hx, rfl⟩ := List.mem_map.1 (mem_sorted.1 hp)
  obtain ⟨y, hy⟩ := h.1.reads x hx
  have e1 : (rg P k heldR x).1 = kl := WideAt.sameKey_eq hpk
  rw [rg_of hy] at e1
  have e2 := rd_key hy
  rw [e1] at e2
  obtain ⟨kl', h1, h2⟩ := h.entry K hx
  rw [e2] at h1
  cases h1
  rw [hf] at h2
  cases h2
  exact ⟨x, hx, e2, rfl⟩
theorem op_range (t : TypeId) (x : Operand) (tag n : Nat) (pin : Option Nat) (k e : TypeId) (z : Value) (f : Lit → Option Value) {K : ASt → Prop} (h : o.op = .range t x) (ht : mapTy P t = some (k, e, z)) (hx : s.ev x = .own tag) (hlk : s.hp.lookup tag = some (.map pin P k n f)) (hd : ∀ t, o.dst = some t → t < s.n)
    (hK : ∀ b r es ck, MapIs P k n f es ck → K (ASt.put { s with hp := (s.N, .raw (.pointer (some ⟨r, 0, none⟩)) (.mapIter (some b) ck #[] ck)) :: setHp s.hp tag (.raw (.map (some b)) (.map es ck)), N := s.N + 1 } o.dst (.own s.N))) : OpEffG P o s K := fun L loc a w hr => by
  obtain ⟨_, u, hu, hax, b, D, rfl, ⟨es, ck, hb, F, hs, rfl⟩, hmk, hpin⟩ := look_map hr (fun _ _ => trivial) hx hlk
  obtain ⟨hty, hz⟩ := mapTy_of ht
  have hrun := run_range_map w t k e b es ck hty hb
  have hbl : Blw w.heap.size w (w.alloc (.mapIter (some b) ck #[] ck)) := (Blw.refl _ _).alloc (Nat.le_refl _) _
  have hup : ∀ c, blkOf (.pointer (some ⟨w.heap.size, 0, none⟩)) = some c → w.heap.size ≤ c := fun c e => by cases e; exact Nat.le_refl _
  unfold Oper.wp
  have he : (execOp a.eval o).run P w = .ok (.value (.pointer (some ⟨w.heap.size, 0, none⟩))) (w.alloc (.mapIter (some b) ck #[] ck)) := by simp [execOp, h, hax, hrun]
  rw [he]
  have r1 : Rel All L { s with hp := setHp s.hp tag (.raw (.map (some b)) (.map es ck)) } loc a w := hr.turn hlk hu rfl (Kp.refl _ _) ⟨b, rfl, rfl, hb⟩
  have r2 := r1.add hbl (.pointer (some ⟨w.heap.size, 0, none⟩)) (.raw (.pointer (some ⟨w.heap.size, 0, none⟩)) (.mapIter (some b) ck #[] ck)) hup ⟨w.heap.size, rfl, rfl, heap_alloc_at' w _ _ rfl⟩
  refine ⟨_, setLoc loc s.N (.pointer (some ⟨w.heap.size, 0, none⟩)), hK b w.heap.size es ck ⟨F, hs, hmk⟩, r2.put' hd (.own s.N _ (Nat.lt_succ_self _) rfl fun z hz => ?_), .add hbl _ _ hup⟩
  rw [setLoc_same] at hz; cases hz; rfl
theorem kp_setBlock {w w1 : World} (hw : w1 = w ∨ w1 = w.drew) (r : Nat) {ob0 : Obj} (h0 : w.heap[r]? = some ob0) (ob : Obj) : Kp (fun k => k = r) w (setBlock w1 r ob) := by
  have h2 := heap_set (o' := ob) h0
  rcases hw with rfl | rfl <;> exact ⟨rfl, rfl, rfl, by simp [setBlock], fun i _ hi => h2.2 i hi, by first | exact Nat.le_refl _ | exact Nat.le_succ _⟩
theorem op_next (x : Operand) (ti tm r b since c0 : Nat) (seen : Array Nat) (es : Array MapEntry) (ck : Nat) {K : ASt → Prop} (h : o.op = .next x false) (hx : s.ev x = .own ti) (hlk : s.hp.lookup ti = some (.raw (.pointer (some ⟨r, 0, none⟩)) (.mapIter (some b) since seen c0)))
    (hlm : s.hp.lookup tm = some (.raw (.map (some b)) (.map es ck))) (hold : ∀ x ∈ es.toList, x.born < since) (hsc : since ≤ c0) (hd : ∀ t, o.dst = some t → t < s.n)
    (hK0 : (leftOf es seen).size = 0 → K (s.put o.dst (.tup [.p (.val (.bool false))])))
    (hK1 : ∀ e ∈ (leftOf es seen).toList, K (ASt.put { s with hp := setHp s.hp ti (.raw (.pointer (some ⟨r, 0, none⟩)) (.mapIter (some b) since (seen.push e.born) ck)) } o.dst (.tup [.p (.val (.bool true)), cv e.key, cv e.val]))) : OpEffG P o s K := fun L loc a w hr => by
  obtain ⟨_, u, hu, hax, r', rfl, hr', hrb⟩ := look_map hr (fun _ _ => trivial) hx hlk
  cases hr'
  obtain ⟨_, um, hum, b', rfl, hb', hbb⟩ := hr.hp.at' tm _ hlm
  cases hb'
  unfold Oper.wp
  have he : ∀ v w', (Instr.next (.pointer (some ⟨r, 0, none⟩)) false o.type).run P w = .ok v w' → (execOp a.eval o).run P w = .ok (.value v) w' := fun v w' hv => by simp [execOp, h, hax, hv]
  rcases run_next_at (P := P) w o.type r b since c0 seen es ck hrb hbb hold hsc with ⟨h0, hrun⟩ | ⟨e, hem, w1, hw1, hrun⟩
  · rw [he _ _ hrun]
    refine ⟨_, loc, hK0 h0, hr.put' hd (.tup _ _ rfl fun j x hj => ?_), Ext.refl _ _⟩
    match j, hj with
    | 0, hj => cases hj; exact .of_val _ rfl
  · rw [he _ _ hrun]
    have hkp := kp_setBlock hw1 r hrb (.mapIter (some b) since (seen.push e.born) ck)
    have hr1 : w1.heap[r]? = some (.mapIter (some b) since seen c0) := by rcases hw1 with rfl | rfl <;> exact hrb
    refine ⟨_, loc, hK1 e hem, Rel.put' (s := { s with hp := setHp s.hp ti (.raw (.pointer (some ⟨r, 0, none⟩)) (.mapIter (some b) since (seen.push e.born) ck)) }) (hr.turn hlk hu rfl hkp ⟨r, rfl, rfl, (heap_set (o' := .mapIter (some b) since (seen.push e.born) ck) hr1).1⟩) hd (.tup _ _ rfl fun j x hj => ?_), .turn hu rfl hkp⟩
    match j, hj with
    | 0, hj => cases hj; exact .of_val _ rfl
    | 1, hj => cases hj; exact cv_ok _ _ _ _ _
    | 2, hj => cases hj; exact cv_ok _ _ _ _ _
theorem op_entry (x : Operand) (ti tm r b since : Nat) (seen : Array Nat) (es : Array MapEntry) (ck : Nat) (e : MapEntry) (h : o.op = .entry x) (hx : s.ev x = .own ti) (hlk : s.hp.lookup ti = some (.raw (.pointer (some ⟨r, 0, none⟩)) (.mapIter (some b) since (seen.push e.born) ck)))
    (hlm : s.hp.lookup tm = some (.raw (.map (some b)) (.map es ck))) (hem : e ∈ es.toList) (hn : (es.toList.map (·.born)).Nodup) : OpVal P ops o s (.tup [cv e.key, cv e.val]) := .pure fun L loc a w hr => by
  obtain ⟨_, u, hu, hax, r', rfl, hr', hrb⟩ := look_map hr (looks_mem (by simp [h, Op.operands])) hx hlk
  cases hr'
  obtain ⟨_, um, hum, b', rfl, hb', hbb⟩ := hr.hp.at' tm _ hlm
  cases hb'
  have hrun := run_entry_at (P := P) w r b since seen es ck e hrb hbb hem hn
  refine ⟨_, by simp [execOp, h, hax, hrun]; rfl, .tup _ _ rfl fun j x hj => ?_⟩
  match j, hj with
  | 0, hj => cases hj; exact cv_ok _ _ _ _ _
  | 1, hj => cases hj; exact cv_ok _ _ _ _ _
end
/-- Entries that are the map f: an abstract map again. -/
theorem Weak.unraw (s : ASt) (P : Program) (tag b : Nat) (k : TypeId) (n : Nat) (f : Lit → Option Value) (es : Array MapEntry) (ck : Nat) (pin : Option Nat) (hp : ∀ p, pin = some p → p = b) (hlk : s.hp.lookup tag = some (.raw (.map (some b)) (.map es ck))) (hm : MapIs P k n f es ck) : Weak s { s with hp := setHp s.hp tag (.map pin P k n f) } := fun L loc a w hr => by
  obtain ⟨_, u, hu, b', rfl, hb', hbb⟩ := hr.hp.at' tag _ hlk
  cases hb'
  exact ⟨loc, hr.turn hlk hu rfl (Kp.refl _ _) ⟨b, _, rfl, ⟨es, ck, hbb, hm.1, hm.2.1, rfl⟩, hm.2.2, hp⟩, Ext.refl _ _⟩
end Go.Proofs.Ytbhkcejjehgfcaa
