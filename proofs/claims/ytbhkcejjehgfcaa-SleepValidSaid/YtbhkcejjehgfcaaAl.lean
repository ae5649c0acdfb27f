/- More operations: composites, slices of slices, new slices, elements set. -/
import Derived.Test.YtbhkcejjehgfcaaAh
namespace Go.Proofs.Ytbhkcejjehgfcaa
open Go.RowKit Go.Sort

/-- Cells as told. -/
def Cs (N : Nat) (D : Nat → Prop) (loc : Nat → Option Value) (w : World) (cs : List AV) (vs : Array Value) : Prop := vs.size = cs.length ∧ (∀ j x, cs[j]? = some x → AR N D loc w x (vs.getD j undef)) ∧ ∀ j, j < vs.size → (vs.getD j undef).oneCell' = true
def spliceA (cells : Array Value) (off : Nat) (vs : Array Value) : Array Value := vs.zipIdx.foldl (fun cs (c, j) => cs.setIfInBounds (off + j) c) cells
theorem splice_fold (off : Nat) : ∀ (vs : List Value) (k : Nat) (cells : Array Value), off + k + vs.length ≤ cells.size →
    ((vs.zipIdx k).foldl (fun cs (p : Value × Nat) => cs.setIfInBounds (off + p.2) p.1) cells).toList = asplice cells.toList (off + k) vs
  | [], k, cells, _ => by simp [asplice]
  | v :: r, k, cells, h => by
    simp only [List.length_cons] at h
    rw [List.zipIdx_cons, List.foldl_cons, splice_fold off r (k + 1) _ (by simp; omega)]
    apply List.ext_getElem?
    intro j
    rw [asplice_get (by simp; omega), asplice_get (by simp; omega)]
    simp only [List.length_cons, Array.getElem?_toList, Array.getElem?_setIfInBounds]
    by_cases e1 : off + (k + 1) ≤ j ∧ j < off + (k + 1) + r.length
    · rw [if_pos e1, if_pos (by omega)]
      rw [show j - (off + k) = (j - (off + (k + 1))) + 1 by omega]; rfl
    · rw [if_neg e1]
      by_cases e2 : off + k = j
      · subst e2
        rw [if_pos rfl, if_pos (by omega), if_pos (by omega)]
        simp
      · rw [if_neg e2, if_neg (by omega)]
theorem spliceA_list {cells vs : Array Value} {off : Nat} (h : off + vs.size ≤ cells.size) : (spliceA cells off vs).toList = asplice cells.toList off vs.toList := by
  unfold spliceA
  rw [← Array.foldl_toList, Array.toList_zipIdx]
  exact splice_fold off vs.toList 0 cells (by simpa using h)
theorem Cs.splice {N : Nat} {D : Nat → Prop} {loc : Nat → Option Value} {w : World} {cs xs : List AV} {us vs : Array Value} {off : Nat} (h : Cs N D loc w cs us) (k : Cs N D loc w xs vs) (hl : off + xs.length ≤ cs.length) : Cs N D loc w (asplice cs off xs) (spliceA us off vs) := by
  have hle : off + vs.size ≤ us.size := by rw [k.1, h.1]; exact hl
  have hlen : (spliceA us off vs).size = us.size := by
    have := congrArg List.length (spliceA_list hle)
    rw [asplice_len (by simpa using hle)] at this
    simpa using this
  have hget : ∀ j, (spliceA us off vs).getD j undef = if off ≤ j ∧ j < off + xs.length then vs.getD (j - off) undef else us.getD j undef := fun j => by
    rw [Array.getD_eq_getD_getElem?, ← Array.getElem?_toList, spliceA_list hle, asplice_get (by simpa using hle)]
    simp only [Array.length_toList, k.1]
    split <;> rw [Array.getElem?_toList, Array.getD_eq_getD_getElem?]
  refine ⟨by rw [hlen, h.1, asplice_len hl], fun j x hx => ?_, fun j hj => ?_⟩
  · rw [hget]
    rw [asplice_get hl] at hx
    split
    · rename_i hc; rw [if_pos hc] at hx; exact k.2.1 _ x hx
    · rename_i hc; rw [if_neg hc] at hx; exact h.2.1 _ x hx
  · rw [hget]
    split
    · exact k.2.2 _ (by rw [k.1]; omega)
    · exact h.2.2 _ (by omega)
def afill (place : Nat → Option (Nat × Nat)) : List AV → List (Nat × AV) → Option (List AV)
  | cs, [] => some cs
  | cs, (i, x) :: r => match place i, acells x with
    | some (off, size), some xs => if xs.length = size ∧ off + xs.length ≤ cs.length then afill place (asplice cs off xs) r else none
    | _, _ => none
theorem fill_ok {N : Nat} {D : Nat → Prop} {loc : Nat → Option Value} {w : World} {place : Nat → Option (Nat × Nat)} : ∀ {ps : List (Nat × AV)} {qs : List (Nat × Value)} {cs cs' : List AV} {us : Array Value}, qs.length = ps.length → (∀ (j : Nat) i x i' v, ps[j]? = some (i, x) → qs[j]? = some (i', v) → i = i' ∧ AR N D loc w x v) →
    Cs N D loc w cs us → afill place cs ps = some cs' → ∃ us', Instr.fill place us qs = some us' ∧ Cs N D loc w cs' us'
  | [], [], cs, cs', us, _, _, hc, h => by cases h; exact ⟨us, rfl, hc⟩
  | (i, x) :: ps, (i', v) :: qs, cs, cs', us, hl, hpq, hc, h => by
    obtain ⟨rfl, hx⟩ := hpq 0 i x i' v rfl rfl
    simp only [afill] at h
    split at h
    · rename_i off size xs hp hxs
      split at h
      · rename_i hcond
        have hk : Cs N D loc w xs v.cells := acells_ok hx hxs
        obtain ⟨us', h1, h2⟩ := fill_ok (ps := ps) (qs := qs) (by simpa using hl) (fun j a b c d e f => hpq (j + 1) a b c d e f) (hc.splice hk hcond.2) h
        refine ⟨us', ?_, h2⟩
        rw [Instr.fill, hp]
        simp only
        rw [if_neg (by rw [hk.1, hc.1]; simp [hcond.1]; have := hcond.2; omega)]
        exact h1
      · cases h
    · cases h
/-- A struct type: its zero value's cells, and where its fields lie. -/
def tyStruct (P : Program) (t : TypeId) : Option (List Value × List (Nat × Nat)) := match P.underlying t, tyZero P t with
  | some (.struct fs), some zs => (fs.toList.mapM fun f => (tySz P f.type).map fun n => (f.offset, n)).map fun pl => (zs, pl)
  | _, _ => none
/-- An array type: its zero value's cells, an element's size, its length. -/
def tyArray (P : Program) (t : TypeId) : Option (List Value × Nat × Nat) := match P.underlying t, tyZero P t with
  | some (.array n e), some zs => (tySz P e).map fun k => (zs, k, n)
  | _, _ => none
theorem tyZero_spec {P : Program} {t : TypeId} {zs : List Value} (h : tyZero P t = some zs) : ∃ i z, P.info? t = some i ∧ i.zero = some z ∧ z.cells.toList = zs ∧ ∀ v ∈ zs, v.oneCell' = true := by
  unfold tyZero at h
  split at h
  · rename_i z hz
    split at h
    · rename_i hone
      cases h
      obtain ⟨i, hi, hiz⟩ := Option.bind_eq_some_iff.1 hz
      exact ⟨i, z, hi, hiz, rfl, fun v hv => Array.all_eq_true_iff_forall_mem.1 hone v (by simpa using hv)⟩
    · cases h
  · cases h
theorem Cs.zero (N : Nat) (D : Nat → Prop) (loc : Nat → Option Value) (w : World) {vs : Array Value} (h : ∀ v ∈ vs.toList, v.oneCell' = true) : Cs N D loc w (vs.toList.map fun v => .p (.val v)) vs := by
  refine ⟨by simp, fun j x hx => ?_, fun j hj => ?_⟩
  · simp only [List.getElem?_map, Option.map_eq_some_iff] at hx
    obtain ⟨v, hv, rfl⟩ := hx
    have hv' : vs[j]? = some v := by simpa using hv
    rw [Array.getD_eq_getD_getElem?, hv']
    exact .of_val v (h v (List.mem_of_getElem? hv))
  · rw [Array.getD_eq_getD_getElem?, Array.getElem?_eq_getElem hj]
    exact h _ (by simp)
section
variable {P : Program} {ops : Array Oper} {o : Oper} {s : ASt}
def abuild (P : Program) (s : ASt) (t : TypeId) (parts : List (Nat × Operand)) : Option AV := match tyStruct P t with
  | some (zs, pl) => (afill (fun i => pl[i]?) (zs.map fun v => .p (.val v)) (parts.map fun p => (p.1, s.ev p.2))).map .agg
  | none => match tyArray P t with
    | some (zs, n, _) => (afill (fun i => some (i * n, n)) (zs.map fun v => .p (.val v)) (parts.map fun p => (p.1, s.ev p.2))).map .agg
    | none => none
def fldG (f : Field) : Sem (Nat × Nat) := do pure (f.offset, ← sizeOf f.type)
theorem mapM_sizes {P : Program} {w : World} : ∀ (fs : List Field) (pl : List (Nat × Nat)), (fs.mapM fun f => (tySz P f.type).map fun n => (f.offset, n)) = some pl → (fs.mapM fldG).run P w = .ok pl w
  | [], pl, h => by
    simp only [List.mapM_nil, Option.pure_def, Option.some.injEq] at h
    subst h; simp
  | f :: fs, pl, h => by
    simp only [List.mapM_cons, Option.bind_eq_bind, Option.bind_eq_some_iff, Option.pure_def, Option.some.injEq] at h
    obtain ⟨q, h1, pl', h2, rfl⟩ := h
    obtain ⟨n, hn, rfl⟩ := Option.map_eq_some_iff.1 h1
    obtain ⟨i, hi, hin⟩ := Option.map_eq_some_iff.1 hn
    have hg : (fldG f).run P w = .ok (f.offset, n) w := by simp [fldG, sizeOf, typeInfo, hi, hin]
    simp only [List.mapM_cons, Sem.run_bind, hg, Result.andThen_ok, mapM_sizes fs pl' h2, Sem.run_pure]
theorem run_build_struct {P : Program} {t : TypeId} {fs : Array Field} {i : TypeInfo} {z : Value} {pl : List (Nat × Nat)} (hu : P.underlying t = some (.struct fs)) (hi : P.info? t = some i) (hz : i.zero = some z) (hpl : (fs.toList.mapM fun f => (tySz P f.type).map fun n => (f.offset, n)) = some pl)
    {parts : Array (Nat × Value)} {cells : Array Value} (hf : Instr.fill (fun k => pl[k]?) z.cells parts.toList = some cells) (w : World) : (Instr.build t parts).run P w = .ok (.agg cells) w := by
  have hm : (fs.mapM fldG).run P w = .ok pl.toArray w := by
    obtain ⟨l, rfl⟩ : ∃ l, fs = List.toArray l := ⟨fs.toList, by simp⟩
    have := mapM_sizes (P := P) (w := w) l pl (by simpa using hpl)
    rw [List.mapM_toArray]
    change (l.mapM fldG >>= fun a => pure a.toArray).run P w = _
    simp only [Sem.run_bind, this, Result.andThen_ok, Sem.run_pure]
  have hf' : Instr.fill (fun x => pl.toArray[x]?) z.cells parts.toList = some cells := by simpa using hf
  unfold fldG at hm
  unfold Instr.build
  simp only [Sem.run_bind, zeroValue, typeInfo, run_program, Result.andThen_ok, hi, Sem.run_pure, hz, run_underlying hu]
  rw [hm]
  simp only [Result.andThen_ok, hf', Sem.run_pure]
theorem run_build_array {P : Program} {t e : TypeId} {n k : Nat} {i : TypeInfo} {z : Value} (hu : P.underlying t = some (.array n e)) (hi : P.info? t = some i) (hz : i.zero = some z) (he : tySz P e = some k)
    {parts : Array (Nat × Value)} {cells : Array Value} (hf : Instr.fill (fun i => some (i * k, k)) z.cells parts.toList = some cells) (w : World) : (Instr.build t parts).run P w = .ok (.agg cells) w := by
  obtain ⟨j, hj, hjk⟩ := Option.map_eq_some_iff.1 he
  unfold Instr.build
  simp only [Sem.run_bind, zeroValue, typeInfo, run_program, Result.andThen_ok, hi, Sem.run_pure, hz, run_underlying hu, sizeOf, hj, hjk, hf]
theorem op_build (t : TypeId) (parts : Array (Nat × Operand)) (av : AV) (h : o.op = .build t parts) (hl : abuild P s t parts.toList = some av) : OpVal P ops o s av := .pure fun L loc a w hr => by
  have hev : ∀ (j i : Nat) (x : AV) (i' : Nat) (v : Value), (parts.toList.map fun p => (p.1, s.ev p.2))[j]? = some (i, x) → (parts.map fun (i, x) => (i, a.eval x)).toList[j]? = some (i', v) → i = i' ∧ AR s.N (Dm L loc) loc w x v := fun j i x i' v h1 h2 => by
    simp only [Array.toList_map, List.getElem?_map, Option.map_eq_some_iff] at h1 h2
    obtain ⟨p, hp, e1⟩ := h1
    obtain ⟨p', hp', e2⟩ := h2
    rw [hp] at hp'
    cases hp'
    cases e1
    cases e2
    refine ⟨rfl, hr.ev p.2 (looks_mem ?_)⟩
    simp only [h, Op.operands]
    exact List.mem_map.2 ⟨p, List.mem_of_getElem? hp, rfl⟩
  have hlen : (parts.map fun (i, x) => (i, a.eval x)).toList.length = (parts.toList.map fun p => (p.1, s.ev p.2)).length := by simp
  have he : ∀ v, (Instr.build t (parts.map fun (i, x) => (i, a.eval x))).run P w = .ok v w → (execOp a.eval o).run P w = .ok (.value v) w := fun v hv => by simp only [execOp, h, Sem.run_bind, hv, Result.andThen_ok, Sem.run_pure]
  unfold abuild at hl
  split at hl
  · rename_i zs pl hst
    obtain ⟨cs', hf, rfl⟩ := Option.map_eq_some_iff.1 hl
    unfold tyStruct at hst
    split at hst
    · rename_i fs zs' hu hz
      obtain ⟨pl', hpl, e⟩ := Option.map_eq_some_iff.1 hst
      cases e
      obtain ⟨i, z, hi, hiz, rfl, hone⟩ := tyZero_spec hz
      obtain ⟨us', h1, h2⟩ := fill_ok hlen hev (Cs.zero s.N (Dm L loc) loc w (vs := z.cells) hone) hf
      exact ⟨.agg us', he _ (run_build_struct hu hi hiz hpl h1 w), .agg cs' us' h2.1 h2.2.1 h2.2.2⟩
    · cases hst
  · split at hl
    · rename_i zs n m hst
      obtain ⟨cs', hf, rfl⟩ := Option.map_eq_some_iff.1 hl
      unfold tyArray at hst
      split at hst
      · rename_i k e' zs' hu hz
        obtain ⟨k', hk, e⟩ := Option.map_eq_some_iff.1 hst
        cases e
        obtain ⟨i, z, hi, hiz, rfl, hone⟩ := tyZero_spec hz
        obtain ⟨us', h1, h2⟩ := fill_ok hlen hev (Cs.zero s.N (Dm L loc) loc w (vs := z.cells) hone) hf
        exact ⟨.agg us', he _ (run_build_array hu hi hiz hk h1 w), .agg cs' us' h2.1 h2.2.1 h2.2.2⟩
      · cases hst
    · cases hl

/-! ### A slice's literal -/
def pureL : List AV → Option (List PV)
  | [] => some []
  | .p x :: r => (pureL r).map (x :: ·)
  | _ => none
theorem pureL_spec : ∀ {cs : List AV} {xs : List PV}, pureL cs = some xs → cs = xs.map .p
  | [], xs, h => by cases h; rfl
  | c :: r, xs, h => by
    cases c <;> try cases h
    rename_i x
    obtain ⟨ys, hy, rfl⟩ := Option.map_eq_some_iff.1 h
    rw [pureL_spec hy]; rfl
def chunks {α : Type} (n : Nat) : Nat → List α → List (List α)
  | 0, _ => []
  | k + 1, l => l.take n :: chunks n k (l.drop n)
theorem chunks_len {α : Type} (n : Nat) : ∀ (k : Nat) (l : List α), (chunks n k l).length = k
  | 0, _ => rfl
  | k + 1, l => by simp [chunks, chunks_len n k]
theorem chunks_get {α : Type} (n : Nat) : ∀ (k : Nat) (l : List α) (i : Nat) (r : List α), (chunks n k l)[i]? = some r → r = (l.drop (i * n)).take n
  | 0, l, i, r, h => by simp [chunks] at h
  | k + 1, l, 0, r, h => by simp [chunks] at h; simp [h]
  | k + 1, l, i + 1, r, h => by
    simp only [chunks, List.getElem?_cons_succ] at h
    rw [chunks_get n k _ i r h, List.drop_drop]
    congr 2
    rw [Nat.add_mul]; omega
def abuildS (P : Program) (s : ASt) (t : TypeId) (len : Nat) (parts : List (Nat × Operand)) : Option AV := match P.underlying t with
  | some (.slice e) => match tyZero P e, tySz P e with
    | some zs, some n => if zs.length = n ∧ 0 < n ∧ len * n ≤ 16777216 ∧ len ≤ maxLen then match afill (fun i => some (i * n, n)) ((List.range (len * n)).map fun j => .p (.val (zs.getD (j % n) undef))) (parts.map fun p => (p.1, s.ev p.2)) with
      | some cs => (pureL cs).map fun xs => .p (.seq n (chunks n len xs))
      | none => none
      else none
    | _, _ => none
  | _ => none
end
end Go.Proofs.Ytbhkcejjehgfcaa
