/- New variables; stores into them; less is known; a function's beginning and end. -/
import Derived.Test.YtbhkcejjehgfcaaAe
namespace Go.Proofs.Ytbhkcejjehgfcaa
open Go.RowKit Go.Sort

def setLoc (loc : Nat → Option Value) (t : Nat) (u : Value) : Nat → Option Value := fun x => if x = t then some u else loc x
theorem setLoc_same (loc : Nat → Option Value) (t : Nat) (u : Value) : setLoc loc t u t = some u := by simp [setLoc]
theorem setLoc_other (loc : Nat → Option Value) {t x : Nat} (u : Value) (h : x ≠ t) : setLoc loc t u x = loc x := by simp [setLoc, h]
def ASt.add (s : ASt) (o : AO) : ASt := { s with hp := (s.N, o) :: s.hp, N := s.N + 1 }
theorem lookup_cons_ne {α : Type} {k t : Nat} {v : α} {l : List (Nat × α)} (h : k ≠ t) : ((t, v) :: l).lookup k = l.lookup k := by
  have : (k == t) = false := by simpa using h
  rw [List.lookup_cons, this]
theorem lookup_cons_eq {α : Type} {t : Nat} {v : α} {l : List (Nat × α)} : ((t, v) :: l).lookup t = some v := by simp
theorem HRel.none_at {L : Nat → Prop} {N : Nat} {hp : Hp} {loc : Nat → Option Value} {w : World} (h : HRel L N hp loc w) {t : Nat} (ht : N ≤ t) : hp.lookup t = none := by
  cases ho : hp.lookup t with
  | none => rfl
  | some o => have := (h.at' t o ho).1; omega
theorem dm_set {L : Nat → Prop} {loc : Nat → Option Value} {t : Nat} {u : Value} {b : Nat} (h : Dm L (setLoc loc t u) b) : blkOf u = some b ∨ Dm L loc b := by
  rcases h with h | ⟨t', u', h1, h2⟩
  · exact .inr (.inl h)
  · by_cases e : t' = t
    · subst e; rw [setLoc_same] at h1; cases h1; exact .inl h2
    · rw [setLoc_other _ _ e] at h1; exact .inr (.inr ⟨t', u', h1, h2⟩)
/-- A new object in a new block (or in none). -/
theorem HRel.add {L : Nat → Prop} {N : Nat} {hp : Hp} {loc : Nat → Option Value} {w w' : World} (h : HRel L N hp loc w) (hb : Blw w.heap.size w w') (u : Value) (o : AO) (hu : ∀ b, blkOf u = some b → w.heap.size ≤ b)
    (ho : OR (N + 1) (Dm L (setLoc loc N u)) (setLoc loc N u) w' u o) : HRel L (N + 1) ((N, o) :: hp) (setLoc loc N u) w' := by
  have hN : loc N = none := h.dead N (h.none_at (Nat.le_refl _))
  have hDm : ∀ k, k < w.heap.size → Dm L (setLoc loc N u) k → Dm L loc k := fun k hk hd => (dm_set hd).resolve_left fun e => by have := hu k e; omega
  have hlc : ∀ t v, t < N → setLoc loc N u t = some v → loc t = some v := fun t v ht hv => by rwa [setLoc_other _ _ (by omega)] at hv
  refine ⟨fun t o' ht => ?_, fun t ht => ?_, fun t t' v v' b h1 h2 e1 e2 => ?_, fun b hL => Nat.lt_of_lt_of_le (h.inL b hL) hb.size, fun t v b h1 e hL => ?_⟩
  · by_cases e : t = N
    · subst e
      rw [lookup_cons_eq] at ht
      cases ht
      exact ⟨Nat.lt_succ_self _, u, setLoc_same _ _ _, ho⟩
    · rw [lookup_cons_ne e] at ht
      obtain ⟨h1, v, h2, h3⟩ := h.at' t o' ht
      exact ⟨Nat.lt_succ_of_lt h1, v, by rw [setLoc_other _ _ e]; exact h2, h3.mono (Nat.le_succ _) (.of_below hb) hDm hlc (fun b hb' => hb.block b (h3.blk_lt hb'))⟩
  · by_cases e : t = N
    · subst e; rw [lookup_cons_eq] at ht; cases ht
    · rw [lookup_cons_ne e] at ht; rw [setLoc_other _ _ e]; exact h.dead t ht
  · by_cases ht : t = N
    · by_cases ht' : t' = N
      · rw [ht, ht']
      · subst ht
        rw [setLoc_same] at h1; cases h1
        rw [setLoc_other _ _ ht'] at h2
        obtain ⟨o', _, ho'⟩ := h.loc_obj h2
        have := ho'.blk_lt e2
        have := hu b e1
        omega
    · by_cases ht' : t' = N
      · subst ht'
        rw [setLoc_same] at h2; cases h2
        rw [setLoc_other _ _ ht] at h1
        obtain ⟨o', _, ho'⟩ := h.loc_obj h1
        have := ho'.blk_lt e1
        have := hu b e2
        omega
      · rw [setLoc_other _ _ ht] at h1
        rw [setLoc_other _ _ ht'] at h2
        exact h.apart t t' v v' b h1 h2 e1 e2
  · by_cases ht : t = N
    · subst ht
      rw [setLoc_same] at h1; cases h1
      have := hu b e
      have := h.inL b hL
      omega
    · rw [setLoc_other _ _ ht] at h1; exact h.notL t v b h1 e hL
theorem Rel.add {X : Nat → Prop} {L : Lim} {s : ASt} {loc : Nat → Option Value} {a : Act} {w w' : World} (h : Rel X L s loc a w) (hb : Blw w.heap.size w w') (u : Value) (o : AO) (hu : ∀ b, blkOf u = some b → w.heap.size ≤ b)
    (ho : OR (s.N + 1) (Dm L (setLoc loc s.N u)) (setLoc loc s.N u) w' u o) : Rel X L (s.add o) (setLoc loc s.N u) a w' :=
  ⟨h.defers, h.size, fun t ht => (h.fr t ht).mono (Nat.le_succ _) (.of_below hb) (fun k hk hd => (dm_set hd).resolve_left fun e => by have := hu k e; omega) (fun t v ht hv => by rwa [setLoc_other _ _ (by omega)] at hv), h.hp.add hb u o hu ho⟩
theorem Ext.add {loc : Nat → Option Value} {w w' : World} (hb : Blw w.heap.size w w') (t : Nat) (u : Value) (hu : ∀ b, blkOf u = some b → w.heap.size ≤ b) : Ext loc w (setLoc loc t u) w' :=
  ⟨.of_below hb, fun b hd => (dm_set hd).elim (fun e => .inr (hu b e)) .inl⟩

/-- The cells of a value that is put into memory. -/
def acells : AV → Option (List AV)
  | .agg cs => some cs
  | .p x => some [.p x]
  | .ptr t k => some [.ptr t k]
  | .rptr t n k j => some [.rptr t n k j]
  | .own t => some [.own t]
  | .pre t m => some [.pre t m]
  | .fn f cs => some [.fn f cs]
  | .elt r k => some [.elt r k]
  | .cap0 => some [.cap0]
  | _ => none
theorem acells_ok {N : Nat} {D : Nat → Prop} {loc : Nat → Option Value} {w : World} {x : AV} {cs : List AV} {v : Value} (h : AR N D loc w x v) (hc : acells x = some cs) :
    v.cells.size = cs.length ∧ (∀ j y, cs[j]? = some y → AR N D loc w y (v.cells.getD j undef)) ∧ ∀ j, j < v.cells.size → (v.cells.getD j undef).oneCell' = true := by
  have one : ∀ {y : AV}, AR N D loc w y v → v.oneCell' = true → v.cells.size = [y].length ∧ (∀ j z, [y][j]? = some z → AR N D loc w z (v.cells.getD j undef)) ∧ ∀ j, j < v.cells.size → (v.cells.getD j undef).oneCell' = true := fun {y} hy h1 => by
    have hv : v.cells = #[v] := by cases v <;> first | rfl | cases h1
    rw [hv]
    refine ⟨rfl, fun j z hz => ?_, fun j hj => ?_⟩
    · cases j with
      | zero => cases hz; exact hy
      | succ j => cases hz
    · have : j = 0 := by simp at hj; omega
      subst this; exact h1
  cases h with
  | p y v hp => cases hc; exact one (.p y v hp) hp.one
  | elt row off b o f hb hnD hcl hr => cases hc; exact one (.elt row off b o f hb hnD hcl hr) rfl
  | ptr t off v ht h1 h => cases hc; exact one (.ptr t off v ht h1 h) h1
  | rptr t n k off v ht h1 h => cases hc; exact one (.rptr t n k off v ht h1 h) h1
  | own t v ht h1 h => cases hc; exact one (.own t v ht h1 h) h1
  | pre t m v ht h1 h => cases hc; exact one (.pre t m v ht h1 h) h1
  | fn f caps vs hl h => cases hc; exact one (.fn f caps vs hl h) rfl
  | agg cs' vs hl h h1 => cases hc; exact ⟨hl, h, h1⟩
  | cap0 a h => cases hc; exact one (.cap0 a h) rfl
  | _ => cases hc

section
variable {P : Program} {ops : Array Oper} {o : Oper} {s : ASt}
/-- A variable comes into being, with a value. -/
theorem op_box (ty : TypeId) (x : Operand) (cs : List AV) (h : o.op = .box ty x) (hx : acells (s.ev x) = some cs) (hd : ∀ t, o.dst = some t → t < s.n) : OpEff P o s ((s.add (.box ty cs)).put o.dst (.ptr s.N 0)) := fun L loc a w hr => by
  have hb : Blw w.heap.size w (w.alloc (.cells (a.eval x).cells ty)) := (Blw.refl _ _).alloc (Nat.le_refl _) _
  have hax := (hr.below hb).ev x (fun _ _ => trivial)
  have hu : ∀ b, blkOf (.pointer (some ⟨w.heap.size, 0, none⟩)) = some b → w.heap.size ≤ b := fun b e => by cases e; exact Nat.le_refl _
  have hax' : AR (s.N + 1) (Dm L (setLoc loc s.N (.pointer (some ⟨w.heap.size, 0, none⟩)))) (setLoc loc s.N (.pointer (some ⟨w.heap.size, 0, none⟩))) (w.alloc (.cells (a.eval x).cells ty)) (s.ev x) (a.eval x) :=
    (hr.ev x (fun _ _ => trivial)).mono (Nat.le_succ _) (.of_below hb) (fun k hk hd => (dm_set hd).resolve_left fun e => by have := hu k e; omega) (fun t v ht hv => by rwa [setLoc_other _ _ (by omega)] at hv)
  obtain ⟨h1, h2, h3⟩ := acells_ok hax' hx
  have hrun : (execOp a.eval o).run P w = .ok (.value (.pointer (some ⟨w.heap.size, 0, none⟩))) (w.alloc (.cells (a.eval x).cells ty)) := by
    simp [execOp, h, Instr.box, newVar, newRow]
  unfold Oper.wp
  rw [hrun]
  refine ⟨setLoc loc s.N (.pointer (some ⟨w.heap.size, 0, none⟩)), ?_, .add hb _ _ hu⟩
  refine (hr.add hb _ (.box ty cs) hu ⟨w.heap.size, _, rfl, heap_alloc_at' w _ _ rfl, h1, h2, h3, fun p e => (by cases e)⟩).put' hd (.ptr s.N 0 _ (Nat.lt_succ_self _) rfl fun b hb' => ?_)
  rw [setLoc_same] at hb'; cases hb'; rfl
def tyZero (P : Program) (t : TypeId) : Option (List Value) := match (P.info? t).bind (·.zero) with
  | some z => if z.cells.all (·.oneCell') then some z.cells.toList else none
  | none => none
theorem op_alloc (ty : TypeId) (zs : List Value) (h : o.op = .alloc ty) (hz : tyZero P ty = some zs) (hd : ∀ t, o.dst = some t → t < s.n) : OpEff P o s ((s.add (.box ty (zs.map fun v => .p (.val v)))).put o.dst (.ptr s.N 0)) := fun L loc a w hr => by
  unfold tyZero at hz
  split at hz
  · rename_i z hzz
    split at hz
    · rename_i hone
      cases hz
      obtain ⟨i, hi, hiz⟩ := Option.bind_eq_some_iff.1 hzz
      have hone' := Array.all_eq_true_iff_forall_mem.1 hone
      have hb : Blw w.heap.size w (w.alloc (.cells z.cells ty)) := (Blw.refl _ _).alloc (Nat.le_refl _) _
      have hu : ∀ b, blkOf (.pointer (some ⟨w.heap.size, 0, none⟩)) = some b → w.heap.size ≤ b := fun b e => by cases e; exact Nat.le_refl _
      have hrun : (execOp a.eval o).run P w = .ok (.value (.pointer (some ⟨w.heap.size, 0, none⟩))) (w.alloc (.cells z.cells ty)) := by
        simp [execOp, h, Instr.alloc, zeroValue, typeInfo, hi, hiz, newVar, newRow]
      unfold Oper.wp
      rw [hrun]
      refine ⟨setLoc loc s.N (.pointer (some ⟨w.heap.size, 0, none⟩)), ?_, .add hb _ _ hu⟩
      refine (hr.add hb _ (.box ty (z.cells.toList.map fun v => .p (.val v))) hu ⟨w.heap.size, _, rfl, heap_alloc_at' w _ _ rfl, by simp, fun j x hx => ?_, fun j hj => ?_, fun p e => (by cases e)⟩).put' hd (.ptr s.N 0 _ (Nat.lt_succ_self _) rfl fun b hb' => ?_)
      · simp only [List.getElem?_map, Option.map_eq_some_iff] at hx
        obtain ⟨v, hv, rfl⟩ := hx
        have hv' : z.cells[j]? = some v := by simpa using hv
        rw [Array.getD_eq_getD_getElem?, hv']
        exact .of_val v (hone' v (Array.mem_of_getElem? hv'))
      · rw [Array.getD_eq_getD_getElem?, Array.getElem?_eq_getElem hj]
        exact hone' _ (Array.getElem_mem hj)
      · rw [setLoc_same] at hb'; cases hb'; rfl
    · cases hz
  · cases hz

/-! ### Stores -/
def asplice {α : Type} (cs : List α) (off : Nat) (xs : List α) : List α := cs.take off ++ xs ++ cs.drop (off + xs.length)
theorem asplice_get {α : Type} {cs : List α} {off : Nat} {xs : List α} (h : off + xs.length ≤ cs.length) (j : Nat) : (asplice cs off xs)[j]? = if off ≤ j ∧ j < off + xs.length then xs[j - off]? else cs[j]? := by
  unfold asplice
  rw [List.append_assoc, List.getElem?_append, List.getElem?_append]
  simp only [List.length_take, Nat.min_eq_left (show off ≤ cs.length by omega)]
  by_cases h1 : j < off
  · rw [if_pos h1, if_neg (by omega), List.getElem?_take, if_pos h1]
  · rw [if_neg h1]
    by_cases h2 : j - off < xs.length
    · rw [if_pos h2, if_pos (by omega)]
    · rw [if_neg h2, if_neg (by omega), List.getElem?_drop]
      congr 1; omega
theorem asplice_len {α : Type} {cs : List α} {off : Nat} {xs : List α} (h : off + xs.length ≤ cs.length) : (asplice cs off xs).length = cs.length := by
  simp [asplice]; omega
/-- Cells of a row are set. -/
theorem setCells_row {b : Nat} : ∀ (vs : List Value) (off : Nat) (w : World) (arr : Array Value) (ty : TypeId) (fr : Nat × Nat), w.heap[b]? = some (.cells arr ty fr) → off + vs.length ≤ arr.size →
    ∃ arr' : Array Value, (w.setCells b off vs).heap[b]? = some (.cells arr' ty fr) ∧ arr'.toList = asplice arr.toList off vs ∧ arr'.size = arr.size
  | [], off, w, arr, ty, fr, h, _ => ⟨arr, h, by simp [asplice], rfl⟩
  | v :: r, off, w, arr, ty, fr, h, hl => by
    simp only [List.length_cons] at hl
    have h1 : (w.setCell ⟨b, off, none⟩ v).heap[b]? = some (.cells (arr.setIfInBounds off v) ty fr) := by
      simp [World.setCell, Array.getElem?_modify, h]
    obtain ⟨arr', h2, h3, h4⟩ := setCells_row r (off + 1) _ _ ty fr h1 (by simp; omega)
    refine ⟨arr', h2, ?_, by simpa using h4⟩
    rw [h3]
    apply List.ext_getElem?
    intro j
    rw [asplice_get (by simp; omega), asplice_get (by simp; omega)]
    simp only [List.length_cons, Array.getElem?_toList, Array.getElem?_setIfInBounds]
    by_cases e1 : off + 1 ≤ j ∧ j < off + 1 + r.length
    · rw [if_pos e1, if_pos (by omega)]
      rw [show j - off = (j - (off + 1)) + 1 by omega]; rfl
    · rw [if_neg e1]
      by_cases e2 : off = j
      · subst e2
        rw [if_pos rfl, if_pos (by omega), if_pos (by omega)]
        simp
      · rw [if_neg e2, if_neg (by omega)]
theorem setCells_other {b k : Nat} (h : k ≠ b) : ∀ (vs : List Value) (off : Nat) (w : World), (w.setCells b off vs).heap[k]? = w.heap[k]?
  | [], _, _ => rfl
  | v :: r, off, w => by rw [World.setCells, setCells_other h r]; exact Below.heap_setCell _ _ _ _ h
theorem setCells_size {b : Nat} : ∀ (vs : List Value) (off : Nat) (w : World), (w.setCells b off vs).heap.size = w.heap.size
  | [], _, _ => rfl
  | v :: r, off, w => by rw [World.setCells, setCells_size r]; simp [World.setCell]
theorem setCells_kp {b : Nat} {D : Nat → Prop} (hD : D b) (vs : List Value) (off : Nat) (w : World) : Kp D w (w.setCells b off vs) := by
  have h : ∀ (vs : List Value) (off : Nat) (w : World), (w.setCells b off vs).os = w.os ∧ (w.setCells b off vs).tape = w.tape ∧ (w.setCells b off vs).output = w.output ∧ (w.setCells b off vs).drawn = w.drawn := by
    intro vs
    induction vs with
    | nil => intro _ _; exact ⟨rfl, rfl, rfl, rfl⟩
    | cons v r ih => intro off w; exact ih (off + 1) _
  obtain ⟨h1, h2, h3, h4⟩ := h vs off w
  exact ⟨h1, h2, h3, by rw [setCells_size]; exact Nat.le_refl _, fun k _ hn => setCells_other (fun e => hn (by rw [e]; exact hD)) vs off w, Nat.le_of_eq h4.symm⟩
def setHp (hp : Hp) (t : Nat) (o : AO) : Hp := hp.map fun p => if p.1 = t then (t, o) else p
theorem setHp_lookup (hp : Hp) (t k : Nat) (o : AO) : (setHp hp t o).lookup k = if k = t then (hp.lookup t).map (fun _ => o) else hp.lookup k := by
  induction hp with
  | nil => simp [setHp]
  | cons p r ih =>
    obtain ⟨j, oj⟩ := p
    simp only [setHp, List.map_cons] at ih ⊢
    by_cases e : j = t
    · subst e
      by_cases ek : k = j
      · subst ek; simp
      · simp only [if_true]
        rw [lookup_cons_ne ek, ih, if_neg ek, if_neg ek, lookup_cons_ne ek]
    · simp only [if_neg e]
      by_cases ek : k = j
      · subst ek; rw [lookup_cons_eq, if_neg e, lookup_cons_eq]
      · rw [lookup_cons_ne ek, ih]
        by_cases ekt : k = t
        · subst ekt; rw [if_pos rfl, if_pos rfl, lookup_cons_ne ek]
        · rw [if_neg ekt, if_neg ekt, lookup_cons_ne ek]
/-- An object turns in its own block, at the same place. -/
theorem HRel.turn {L : Nat → Prop} {N : Nat} {hp : Hp} {loc : Nat → Option Value} {w w' : World} (h : HRel L N hp loc w) {t : Nat} {u : Value} {o o' : AO} {b : Nat} (ht : hp.lookup t = some o) (hu : loc t = some u) (hb : blkOf u = some b)
    (hk : Kp (fun k => k = b) w w') (ho : OR N (Dm L loc) loc w' u o') : HRel L N (setHp hp t o') loc w' := by
  have hDb : Dm L loc b := .inr ⟨t, u, hu, hb⟩
  refine ⟨fun k ok hk' => ?_, fun k hk' => ?_, h.apart, fun b hL => Nat.lt_of_lt_of_le (h.inL b hL) hk.size, h.notL⟩
  · rw [setHp_lookup] at hk'
    by_cases e : k = t
    · subst e
      rw [if_pos rfl, ht] at hk'
      cases hk'
      exact ⟨(h.at' k o ht).1, u, hu, ho⟩
    · rw [if_neg e] at hk'
      obtain ⟨h1, v, h2, h3⟩ := h.at' k ok hk'
      refine ⟨h1, v, h2, h3.mono (Nat.le_refl _) (D' := Dm L loc) ⟨hk.os, hk.tape, hk.output, hk.size, fun x hx hn => hk.block x hx (fun e => hn (e ▸ hDb)), hk.drawn⟩ (fun _ _ h => h) (fun _ _ _ h => h) (fun b' hb' => hk.block b' (h3.blk_lt hb') (fun e' => ?_))⟩
      subst e'
      exact e (h.apart k t v u b' h2 hu hb' hb)
  · rw [setHp_lookup] at hk'
    by_cases e : k = t
    · subst e; rw [if_pos rfl, ht] at hk'; cases hk'
    · rw [if_neg e] at hk'; exact h.dead k hk'
theorem Rel.turn {L : Lim} {s : ASt} {loc : Nat → Option Value} {a : Act} {w w' : World} (h : Rel All L s loc a w) {t : Nat} {u : Value} {o o' : AO} {b : Nat} (ht : s.hp.lookup t = some o) (hu : loc t = some u) (hb : blkOf u = some b)
    (hk : Kp (fun k => k = b) w w') (ho : OR s.N (Dm L loc) loc w' u o') : Rel All L { s with hp := setHp s.hp t o' } loc a w' :=
  have hDb : Dm L loc b := .inr ⟨t, u, hu, hb⟩
  ⟨h.defers, h.size, fun x hx => (h.fr x hx).mono (Nat.le_refl _) (D' := Dm L loc) ⟨hk.os, hk.tape, hk.output, hk.size, fun x hx hn => hk.block x hx (fun e => hn (e ▸ hDb)), hk.drawn⟩ (fun _ _ h => h) (fun _ _ _ h => h), h.hp.turn ht hu hb hk ho⟩
theorem Ext.turn {loc : Nat → Option Value} {w w' : World} {t : Nat} {u : Value} {b : Nat} (hu : loc t = some u) (hb : blkOf u = some b) (hk : Kp (fun k => k = b) w w') : Ext loc w loc w' :=
  ⟨⟨hk.os, hk.tape, hk.output, hk.size, fun x hx hn => hk.block x hx (fun e => hn (e ▸ .inr ⟨t, u, hu, hb⟩)), hk.drawn⟩, fun _ h => .inl h⟩
theorem run_storeAny {b off : Nat} {t : TypeId} {v : Value} {w : World} {arr : Array Value} {ty : TypeId} (hh : w.heap[b]? = some (.cells arr ty (0, 0))) (hs : tySz P t = some v.cells.size) (hl : off + v.cells.size ≤ arr.size) (h1 : ∀ j, j < v.cells.size → (v.cells.getD j undef).oneCell' = true) :
    (Instr.storeAt t (.pointer (some ⟨b, off, none⟩)) v).run P w = .ok () (w.setCells b off v.cells.toList) := by
  have hst := run_storeCells_cells (P := P) b off v.cells.toList 0 w (fun j hj => by
      simp only [Array.length_toList] at hj
      rw [Nat.add_zero, row_cells hh, Array.getElem?_eq_getElem (by omega)]; rfl) (fun j _ => by simp [World.frozen?, hh]) (fun x hx => by
      obtain ⟨j, hj, rfl⟩ := List.mem_iff_getElem.1 hx
      simp only [Array.length_toList] at hj
      have := h1 j hj
      rw [Array.getD_eq_getD_getElem?, Array.getElem?_eq_getElem hj] at this
      simpa using this)
  obtain ⟨i, hi, hsz⟩ := Option.map_eq_some_iff.1 hs
  simp only [Nat.add_zero] at hst
  simp [Instr.storeAt, Instr.sureAddr, storeVar, sizeOf, typeInfo, hi, hsz, hst]
theorem op_store (t : TypeId) (x y : Operand) (tag off : Nat) (pin : Option Nat) (ty : TypeId) (cs ys : List AV) (h : o.op = .store t x y) (hx : s.ev x = .ptr tag off) (hlk : s.hp.lookup tag = some (.boxP pin ty cs)) (hy : acells (s.ev y) = some ys) (hsz : tySz P t = some ys.length)
    (hl : off + ys.length ≤ cs.length) (hd : o.dst = none) : OpEff P o s { s with hp := setHp s.hp tag (.boxP pin ty (asplice cs off ys)) } := fun L loc a w hr => by
  have h1 := hr.ev x (fun _ _ => trivial)
  have h2 := hr.ev y (fun _ _ => trivial)
  rw [hx] at h1
  obtain ⟨_, u, hu, hor⟩ := hr.hp.at' tag _ hlk
  have hor' := hor
  obtain ⟨b, arr, rfl, hh, hasz, hcs, hone, hpin⟩ := hor
  obtain ⟨k1, k2, k3⟩ := acells_ok h2 hy
  generalize hax : a.eval x = ax at h1
  cases h1 with
  | ptr _ _ _ _ _ hv =>
  obtain rfl := hv b hu
  have hrun := run_storeAny (P := P) (off := off) (v := a.eval y) hh (by rw [k1]; exact hsz) (by rw [k1, hasz]; exact hl) k3
  obtain ⟨arr', g1, g2, g3⟩ := setCells_row (a.eval y).cells.toList off w arr ty (0, 0) hh (by simp; omega)
  have hk : Kp (fun k => k = b) w (w.setCells b off (a.eval y).cells.toList) := setCells_kp (D := fun k => k = b) rfl _ _ _
  have hDb : Dm L loc b := .inr ⟨tag, _, hu, rfl⟩
  have hkd : Kp (Dm L loc) w (w.setCells b off (a.eval y).cells.toList) := setCells_kp hDb _ _ _
  have hget : ∀ j, arr'.getD j undef = if off ≤ j ∧ j < off + ys.length then (a.eval y).cells.getD (j - off) undef else arr.getD j undef := fun j => by
    rw [Array.getD_eq_getD_getElem?, ← Array.getElem?_toList, g2, asplice_get (by simp; omega)]
    simp only [Array.length_toList, k1]
    split
    · rw [Array.getElem?_toList, Array.getD_eq_getD_getElem?]
    · rw [Array.getElem?_toList, Array.getD_eq_getD_getElem?]
  unfold Oper.wp
  have he : (execOp a.eval o).run P w = .ok .skip (w.setCells b off (a.eval y).cells.toList) := by simp [execOp, h, hax, hrun]
  rw [he]
  simp only [Oper.upon, hd]
  refine ⟨loc, ?_, .turn hu rfl hk⟩
  refine hr.turn hlk hu rfl hk ⟨b, arr', rfl, g1, by rw [g3, asplice_len hl, hasz], fun j z hz => ?_, fun j hj => ?_, hpin⟩
  · rw [hget]
    rw [asplice_get hl] at hz
    split
    · rename_i hc
      rw [if_pos hc] at hz
      exact (k2 _ z hz).mono (Nat.le_refl _) hkd (fun _ _ h => h) (fun _ _ _ h => h)
    · rename_i hc
      rw [if_neg hc] at hz
      exact (hcs _ z hz).mono (Nat.le_refl _) hkd (fun _ _ h => h) (fun _ _ _ h => h)
  · rw [hget]
    split
    · exact k3 _ (by omega)
    · exact hone j (by omega)
end
end Go.Proofs.Ytbhkcejjehgfcaa
