/- The operations that yield a value and turn nothing: what they yield. -/
import Derived.Test.YtbhkcejjehgfcaaAb
import Derived.Deep.MidRow
namespace Go.Proofs.Ytbhkcejjehgfcaa
open Go.RowKit Go.Sort

abbrev looks (ops : Array Oper) (o : Oper) : Nat → Prop := fun t => t ∈ o.looksAt ops
theorem looks_mem {ops : Array Oper} {o : Oper} {x : Operand} (h : x ∈ o.op.operands.toList) : ∀ t, x = .tmp t → looks ops o t := fun t e => by
  subst e
  exact List.mem_append.2 (.inl (List.mem_filterMap.2 ⟨_, h, rfl⟩))

/-- The operation yields av, whatever has been drawn; nothing that was there turns. -/
def OpVal (P : Program) (ops : Array Oper) (o : Oper) (s : ASt) (av : AV) : Prop :=
  ∀ L loc a w, Rel (looks ops o) L s loc a w →
    (∃ v w', (execOp a.eval o).run P w = .ok (.value v) w' ∧ Blw w.heap.size w w' ∧ AR s.N (Dm L loc) loc w' av v) ∨
    (∃ f args, (execOp a.eval o).run P w = .ok (.enter f args) w ∧ Calls P f args w fun e w' => ∃ v, e = .returned v ∧ Blw w.heap.size w w' ∧ AR s.N (Dm L loc) loc w' av v)
/-- A value of the frame alone. -/
theorem OpVal.pure {P : Program} {ops : Array Oper} {o : Oper} {s : ASt} {av : AV} (h : ∀ L loc a w, Rel (looks ops o) L s loc a w → ∃ v, (execOp a.eval o).run P w = .ok (.value v) w ∧ AR s.N (Dm L loc) loc w av v) : OpVal P ops o s av := fun L loc a w hr =>
  let ⟨v, h1, h2⟩ := h L loc a w hr; .inl ⟨v, w, h1, Blw.refl _ _, h2⟩

section
variable {P : Program} {ops : Array Oper} {o : Oper} {s : ASt}

theorem op_move (x : Operand) (h : o.op = .move x ∨ o.op = .assign x) : OpVal P ops o s (s.ev x) := .pure fun L loc a w hr => by
  refine ⟨a.eval x, ?_, hr.ev x (looks_mem ?_)⟩
  · rcases h with h | h <;> simp [execOp, h]
  · rcases h with h | h <;> simp [h, Op.operands]
theorem op_pick (c x y : Operand) (b : Bool) (h : o.op = .pick c x y) (hc : s.ev c = .p (.val (.bool b))) : OpVal P ops o s (if b then s.ev x else s.ev y) := .pure fun L loc a w hr => by
  have h1 := hr.ev c (looks_mem (by simp [h, Op.operands]))
  rw [hc] at h1
  cases b with
  | true => exact ⟨a.eval x, by simp [execOp, h, h1.bool, asBool], hr.ev x (looks_mem (by simp [h, Op.operands]))⟩
  | false => exact ⟨a.eval y, by simp [execOp, h, h1.bool, asBool], hr.ev y (looks_mem (by simp [h, Op.operands]))⟩

/-! ### Loads -/
def tySz (P : Program) (t : TypeId) : Option Nat := (P.info? t).map (·.size)
def tyRow (P : Program) (t : TypeId) : Option Bool := (P.underlying t).map fun d => match d with | .struct _ | .array _ _ => true | _ => false
def aloadC (P : Program) (t : TypeId) (cs : List AV) (off : Nat) : Option AV :=
  match tyRow P t, tySz P t with
  | some true, some n => if off + n ≤ cs.length then some (.agg ((cs.drop off).take n)) else none
  | some false, some _ => cs[off]?
  | _, _ => none
theorem load_cells {N : Nat} {D : Nat → Prop} {loc : Nat → Option Value} {w : World} {t : TypeId} {cs : List AV} {b o off : Nat} {av : AV} (g : Nat → Value)
    (hc : ∀ j x, cs[j]? = some x → w.cell? ⟨b, o + j, none⟩ = some (g j) ∧ AR N D loc w x (g j) ∧ (g j).oneCell' = true) (h : aloadC P t cs off = some av) :
    ∃ v, (Instr.loadAt t (.pointer (some ⟨b, o + off, none⟩))).run P w = .ok v w ∧ AR N D loc w av v := by
  unfold aloadC at h
  cases h1 : tyRow P t with
  | none => rw [h1] at h; cases h
  | some r =>
    cases h2 : tySz P t with
    | none => rw [h1, h2] at h; cases r <;> cases h
    | some n =>
      rw [h1, h2] at h
      unfold tyRow at h1
      obtain ⟨d, hu, hd⟩ := Option.map_eq_some_iff.1 h1
      cases r with
      | true =>
        simp only at h
        split at h
        · rename_i hl
          simp only [Option.some.injEq] at h
          subst h
          have hd' : d.isRow = true := by cases d <;> simp_all
          have hgl : ((List.range n).map fun j => g (off + j)).length = n := by simp
          refine ⟨_, run_loadAt_mid w b (o + off) t ((List.range n).map fun j => g (off + j)) d (fun j v hv => ?_) hu hd' (by rw [hgl]; exact h2), .agg _ _ (by simp; omega) (fun j x hx => ?_) (fun j hj => ?_)⟩
          · simp only [List.getElem?_map, Option.map_eq_some_iff] at hv
            obtain ⟨j', hj', rfl⟩ := hv
            obtain ⟨hlt, rfl⟩ := List.getElem?_eq_some_iff.1 hj'
            simp only [List.length_range] at hlt
            simp only [List.getElem_range]
            have := (hc (off + j) cs[off + j] (List.getElem?_eq_getElem (by omega))).1
            rw [← this, Nat.add_assoc]
          · obtain ⟨hlt, hx2⟩ := List.getElem?_eq_some_iff.1 hx
            simp only [List.length_take, List.length_drop] at hlt
            have hx' : cs[off + j]? = some x := by rw [← hx, List.getElem?_take, if_pos (by omega), List.getElem?_drop]
            have e : (List.map (fun j => g (off + j)) (List.range n)).toArray.getD j undef = g (off + j) := by
              rw [Array.getD_eq_getD_getElem?]
              simp [List.getElem?_range (show j < n by omega)]
            rw [e]
            exact (hc _ x hx').2.1
          · have hj' : j < n := by simpa using hj
            have e : (List.map (fun j => g (off + j)) (List.range n)).toArray.getD j undef = g (off + j) := by
              rw [Array.getD_eq_getD_getElem?]
              simp [List.getElem?_range hj']
            rw [e]
            exact (hc (off + j) cs[off + j] (List.getElem?_eq_getElem (by omega))).2.2
        · cases h
      | false =>
        simp only at h
        obtain ⟨h3, h4, _⟩ := hc off av h
        refine ⟨g off, ?_, h4⟩
        have hagg : (isAgg t).run P w = .ok false w := by
          unfold isAgg
          rw [Sem.run_bind, run_underlying hu w]
          cases d <;> simp_all
        simp [Instr.loadAt, Instr.sureAddr, loadVar, Sem.run_bind, hagg, h3]
def aload (P : Program) (s : ASt) (t : TypeId) : AV → Option AV
  | .elt row off => aloadC P t (row.map .p) off
  | .ptr tag off => match s.hp.lookup tag with
    | some (.boxP _ _ cs) => aloadC P t cs off
    | _ => none
  | .rptr tag n k off => match s.hp.lookup tag with
    | some (.row _ m rows) => if m = n then match rows[k]? with
      | some r => aloadC P t (r.map .p) off
      | none => none
      else none
    | _ => none
  | _ => none
theorem op_load (t : TypeId) (x : Operand) (av : AV) (h : o.op = .load t x) (hl : aload P s t (s.ev x) = some av) : OpVal P ops o s av := .pure fun L loc a w hr => by
  have h1 := hr.ev x (looks_mem (by simp [h, Op.operands]))
  have he : ∀ v, (Instr.loadAt t (a.eval x)).run P w = .ok v w → (execOp a.eval o).run P w = .ok (.value v) w := fun v hv => by simp [execOp, h, hv]
  generalize a.eval x = u at *
  generalize s.ev x = y at *
  cases h1 with
  | elt row off b oo f hb hnD hc hp =>
    obtain ⟨v, h2, h3⟩ := load_cells (P := P) (N := s.N) (D := Dm L loc) (loc := loc) (cs := row.map .p) f (fun j y hy => by
      simp only [List.getElem?_map, Option.map_eq_some_iff] at hy
      obtain ⟨z, hz, rfl⟩ := hy
      exact ⟨hc j z hz, .p _ _ (hp j z hz), (hp j z hz).one⟩) hl
    exact ⟨v, he v h2, h3⟩
  | ptr tag off v ht h1 hv =>
    simp only [aload] at hl
    cases hlk : s.hp.lookup tag with
    | none => rw [hlk] at hl; cases hl
    | some ob =>
      rw [hlk] at hl
      obtain ⟨_, u', hu', hor⟩ := hr.hp.at' tag ob hlk
      cases ob with
      | map _ _ _ _ _ => cases hl
      | raw _ _ => cases hl
      | lrec _ _ _ => cases hl
      | row e n rows => cases hl
      | boxP pin ty cs =>
        obtain ⟨b, arr, rfl, hh, hsz, hcs, h1c, _⟩ := hor
        obtain rfl := hv b hu'
        obtain ⟨v, h2, h3⟩ := load_cells (P := P) (N := s.N) (D := Dm L loc) (loc := loc) (b := b) (o := 0) (cs := cs) (fun j => arr.getD j undef) (fun j y hy => by
          obtain ⟨hlt, _⟩ := List.getElem?_eq_some_iff.1 hy
          refine ⟨?_, hcs j y hy, h1c j (by omega)⟩
          rw [row_cells hh, Array.getD_eq_getD_getElem?, Nat.zero_add, Array.getElem?_eq_getElem (by omega)]; rfl) hl
        rw [Nat.zero_add] at h2
        exact ⟨v, he v h2, h3⟩
  | rptr tag n k off v ht h1 hv =>
    simp only [aload] at hl
    cases hlk : s.hp.lookup tag with
    | none => rw [hlk] at hl; cases hl
    | some ob =>
      rw [hlk] at hl
      obtain ⟨_, u', hu', hor⟩ := hr.hp.at' tag ob hlk
      cases ob with
      | map _ _ _ _ _ => cases hl
      | raw _ _ => cases hl
      | lrec _ _ _ => cases hl
      | boxP pin ty cs => cases hl
      | row e m rows =>
        simp only at hl
        split at hl
        · rename_i hmn
          subst hmn
          split at hl
          · rename_i r hk
            obtain ⟨flat, hown, hn, hfl, h1c⟩ := hor
            have hlen := (List.getElem?_eq_some_iff.1 hk).1
            rcases hown.2 with ⟨_, h0⟩ | ⟨g, cap, cur, rfl, _, _, _⟩
            · omega
            · obtain rfl := hv g _ _ hu'
              obtain ⟨v, h2, h3⟩ := load_cells (P := P) (N := s.N) (D := Dm L loc) (loc := loc) (b := g) (o := k * m) (cs := r.map .p) (fun j => flat.getD (k * m + j) undef) (fun j y hy => by
                simp only [List.getElem?_map, Option.map_eq_some_iff] at hy
                obtain ⟨z, hz, rfl⟩ := hy
                obtain ⟨v, h5, h6⟩ := hfl k r j z hk hz
                rw [List.getD_eq_getElem?_getD, h5]
                exact ⟨own_cell hown h5, .p _ _ h6, h6.one⟩) hl
              exact ⟨v, he v h2, h3⟩
          · cases hl
        · cases hl
  | _ => cases hl

/-! ### Addresses -/
def fldOff (P : Program) (t : TypeId) (f : Nat) : Option Nat := match P.underlying t with
  | some (.struct fs) => match fs[f]? with
    | some fd => match tySz P fd.type with
      | some (_ + 1) => some fd.offset
      | _ => none
    | none => none
  | _ => none
def afield (P : Program) (s : ASt) (t : TypeId) (f : Nat) : AV → Option AV
  | .elt row off => (fldOff P t f).map fun k => .elt row (off + k)
  | .ptr tag off => match s.hp.lookup tag with
    | some (.boxP _ _ _) => (fldOff P t f).map fun k => .ptr tag (off + k)
    | _ => none
  | .rptr tag n k off => match s.hp.lookup tag with
    | some (.row _ _ (_ :: _)) => (fldOff P t f).map fun j => .rptr tag n k (off + j)
    | _ => none
  | _ => none
theorem run_fieldAt {t : TypeId} {f k : Nat} (h : fldOff P t f = some k) (b o : Nat) (w : World) : (Instr.fieldAt t (.pointer (some ⟨b, o, none⟩)) f).run P w = .ok (.pointer (some ⟨b, o + k, none⟩)) w := by
  unfold fldOff at h
  split at h
  · rename_i fs hu
    split at h
    · rename_i fd hf
      split at h
      · rename_i n hs
        cases h
        obtain ⟨i, hi, hn⟩ := Option.map_eq_some_iff.1 hs
        simp [Instr.fieldAt, run_underlying hu, hf, Instr.sureAddr, fieldPlace, sizeOf, typeInfo, hi, hn, Addr.add_mid]
      · cases h
    · cases h
  · cases h
theorem op_field (t : TypeId) (x : Operand) (f : Nat) (av : AV) (h : o.op = .fieldAddr t x f) (hl : afield P s t f (s.ev x) = some av) : OpVal P ops o s av := .pure fun L loc a w hr => by
  have h1 := hr.ev x (looks_mem (by simp [h, Op.operands]))
  have he : ∀ v, (Instr.fieldAt t (a.eval x) f).run P w = .ok v w → (execOp a.eval o).run P w = .ok (.value v) w := fun v hv => by simp [execOp, h, hv]
  generalize a.eval x = u at *
  generalize s.ev x = y at *
  cases h1 with
  | elt row off b oo fn hb hnD hc hp =>
    obtain ⟨k, hk, rfl⟩ := Option.map_eq_some_iff.1 hl
    exact ⟨_, he _ (run_fieldAt hk _ _ w), by rw [Nat.add_assoc]; exact .elt row (off + k) b oo fn hb hnD hc hp⟩
  | ptr tag off v ht h1 hv =>
    simp only [afield] at hl
    cases hlk : s.hp.lookup tag with
    | none => rw [hlk] at hl; cases hl
    | some ob =>
      rw [hlk] at hl
      obtain ⟨_, u', hu', hor⟩ := hr.hp.at' tag ob hlk
      cases ob with
      | map _ _ _ _ _ => cases hl
      | raw _ _ => cases hl
      | lrec _ _ _ => cases hl
      | row e n rows => cases hl
      | boxP pin ty cs =>
        obtain ⟨b, arr, rfl, _⟩ := hor
        obtain rfl := hv b hu'
        obtain ⟨k, hk, rfl⟩ := Option.map_eq_some_iff.1 hl
        exact ⟨_, he _ (run_fieldAt hk _ _ w), .ptr tag (off + k) _ ht rfl fun b' hb' => by rw [hu'] at hb'; cases hb'; rfl⟩
  | rptr tag n k off v ht h1 hv =>
    simp only [afield] at hl
    cases hlk : s.hp.lookup tag with
    | none => rw [hlk] at hl; cases hl
    | some ob =>
      rw [hlk] at hl
      obtain ⟨_, u', hu', hor⟩ := hr.hp.at' tag ob hlk
      cases ob with
      | map _ _ _ _ _ => cases hl
      | raw _ _ => cases hl
      | lrec _ _ _ => cases hl
      | boxP pin ty cs => cases hl
      | row e m rows =>
        cases rows with
        | nil => cases hl
        | cons r0 rows =>
          obtain ⟨flat, hown, _⟩ := hor
          rcases hown.2 with ⟨_, h0⟩ | ⟨g, cap, cur, rfl, _⟩
          · cases h0
          · obtain rfl := hv g _ _ hu'
            obtain ⟨j, hj, rfl⟩ := Option.map_eq_some_iff.1 hl
            exact ⟨_, he _ (run_fieldAt hj _ _ w), .rptr tag n k (off + j) _ ht rfl fun b' l c hb' => by rw [hu'] at hb'; cases hb'; rw [Nat.add_assoc]⟩
  | _ => cases hl

def elemSz (P : Program) (t : TypeId) : Option Nat := match P.underlying t with
  | some (.slice e) => tySz P e
  | _ => none
def aindex (P : Program) (s : ASt) (t : TypeId) (i : Int) : AV → Option AV
  | .p (.seq n rows) => if elemSz P t = some n ∧ 0 ≤ i then match rows[i.toNat]? with
    | some r => some (.elt r 0)
    | none => none
    else none
  | .own tag => match s.hp.lookup tag with
    | some (.row _ n rows) => if elemSz P t = some n ∧ 0 ≤ i ∧ i.toNat < rows.length then some (.rptr tag n i.toNat 0) else none
    | _ => none
  | _ => none
theorem run_indexAt {t : TypeId} {n : Nat} (h : elemSz P t = some n) {k : IntKind} {i : Int} (h0 : 0 ≤ i) {l cap b off : Nat} (hl : i.toNat < l) (w : World) :
    (Instr.indexAt t (.slice (some ⟨b, off, none⟩) l cap) (.int k i)).run P w = .ok (.pointer (some ⟨b, off + i.toNat * n, none⟩)) w := by
  unfold elemSz at h
  split at h
  · rename_i e hu
    obtain ⟨ti, hi, hn⟩ := Option.map_eq_some_iff.1 h
    have hlt : i < (l : Int) := by omega
    simp [Instr.indexAt, asIntOf, run_underlying hu, h0, hlt, sizeOf, typeInfo, hi, hn, Addr.add_mid]
  · cases h
theorem op_index (t : TypeId) (x i : Operand) (k : IntKind) (iv : Int) (av : AV) (h : o.op = .indexAddr t x i) (hi : s.ev i = .p (.val (.int k iv))) (hl : aindex P s t iv (s.ev x) = some av) : OpVal P ops o s av := .pure fun L loc a w hr => by
  have h1 := hr.ev x (looks_mem (by simp [h, Op.operands]))
  have h2 := hr.ev i (looks_mem (by simp [h, Op.operands]))
  rw [hi] at h2
  have he : ∀ v, (Instr.indexAt t (a.eval x) (.int k iv)).run P w = .ok v w → (execOp a.eval o).run P w = .ok (.value v) w := fun v hv => by simp [execOp, h, h2.val, hv]
  generalize a.eval x = u at *
  generalize s.ev x = y at *
  cases h1 with
  | p y v hp =>
    cases hp with
    | val v _ => cases hl
    | nil n a cap h0 =>
      simp only [aindex] at hl
      split at hl
      · simp at hl
      · cases hl
    | seq n b off cap rows f hb hnD hcap hmax hn hc hr' =>
      simp only [aindex] at hl
      split at hl
      · rename_i hcond
        split at hl
        · rename_i r hrow
          cases hl
          have hlt := (List.getElem?_eq_some_iff.1 hrow).1
          refine ⟨_, he _ (run_indexAt hcond.1 hcond.2 hlt w), ?_⟩
          have := AR.elt (N := s.N) (D := Dm L loc) (loc := loc) (w := w) r 0 b (off + iv.toNat * n) (fun j => f iv.toNat j) hb hnD (fun j x hx => hc _ r j x hrow hx) (fun j x hx => hr' _ r j x hrow hx)
          exact this
        · cases hl
      · cases hl
  | own tag v ht h1 hv =>
    simp only [aindex] at hl
    cases hlk : s.hp.lookup tag with
    | none => rw [hlk] at hl; cases hl
    | some ob =>
      rw [hlk] at hl
      obtain ⟨_, u', hu', hor⟩ := hr.hp.at' tag ob hlk
      cases ob with
      | map _ _ _ _ _ => cases hl
      | raw _ _ => cases hl
      | lrec _ _ _ => cases hl
      | boxP pin ty cs => cases hl
      | row e n rows =>
        simp only at hl
        split at hl
        · rename_i hcond
          cases hl
          obtain ⟨flat, hown, _⟩ := hor
          obtain rfl := hv _ hu'
          rcases hown.2 with ⟨_, h0⟩ | ⟨g, cap, cur, rfl, _⟩
          · omega
          · refine ⟨_, he _ (run_indexAt hcond.1 hcond.2.1 hcond.2.2 w), .rptr tag n _ 0 _ ht rfl fun b' l c hb' => ?_⟩
            rw [hu'] at hb'; cases hb'; simp
        · cases hl
  | _ => cases hl
end
end Go.Proofs.Ytbhkcejjehgfcaa
