/- Parts of values; new slices; elements set; append onto nothing. -/
import Derived.Test.YtbhkcejjehgfcaaAm
namespace Go.Proofs.Ytbhkcejjehgfcaa
open Go.RowKit Go.Sort

section
variable {P : Program} {ops : Array Oper} {o : Oper} {s : ASt}
/-! ### Parts of values -/
theorem run_part' {N : Nat} {D : Nat → Prop} {loc : Nat → Option Value} {w : World} {t : TypeId} {cs : List AV} {vs : Array Value} {off : Nat} {av : AV} (hc : Cs N D loc w cs vs) (h : aloadC P t cs off = some av) : ∃ v, (part t vs off).run P w = .ok v w ∧ AR N D loc w av v := by
  unfold aloadC at h
  cases h1 : tyRow P t with
  | none => rw [h1] at h; cases h
  | some r =>
    cases h2 : tySz P t with
    | none => rw [h1, h2] at h; cases r <;> cases h
    | some n =>
      rw [h1, h2] at h
      unfold tyRow at h1
      obtain ⟨d, hu, hd⟩ := Option.map_eq_some_iff.1 h1
      obtain ⟨i, hi, hin⟩ := Option.map_eq_some_iff.1 h2
      cases r with
      | true =>
        simp only at h
        split at h
        · rename_i hl
          simp only [Option.some.injEq] at h
          subst h
          have hagg : (isAgg t).run P w = .ok true w := by
            unfold isAgg
            rw [Sem.run_bind, run_underlying hu w]
            cases d <;> simp_all
          have hget : ∀ j, (vs.extract off (off + n)).getD j undef = if j < n then vs.getD (off + j) undef else undef := fun j => by
            rw [Array.getD_eq_getD_getElem?, Array.getElem?_extract, Array.getD_eq_getD_getElem?]
            by_cases hj : j < n
            · rw [if_pos hj, if_pos (by rw [hc.1]; omega)]
            · rw [if_neg hj, if_neg (by omega)]; rfl
          have hsz : (vs.extract off (off + n)).size = n := by rw [Array.size_extract, hc.1]; omega
          refine ⟨.agg (vs.extract off (off + n)), by simp only [part, Sem.run_bind, hagg, Result.andThen_ok, if_true, sizeOf, typeInfo, run_program, hi, hin, Sem.run_pure], .agg _ _ (by rw [hsz]; simp; omega) (fun j x hx => ?_) (fun j hj => ?_)⟩
          · obtain ⟨hlt, _⟩ := List.getElem?_eq_some_iff.1 hx
            simp only [List.length_take, List.length_drop] at hlt
            rw [List.getElem?_take, if_pos (by omega), List.getElem?_drop] at hx
            rw [hget, if_pos (by omega)]
            exact hc.2.1 _ x hx
          · rw [hsz] at hj
            rw [hget, if_pos hj]
            exact hc.2.2 _ (by rw [hc.1]; omega)
        · cases h
      | false =>
        simp only at h
        have hlt := (List.getElem?_eq_some_iff.1 h).1
        have h5 := hc.2.1 off av h
        rw [Array.getD_eq_getD_getElem?, Array.getElem?_eq_getElem (by rw [hc.1]; exact hlt), Option.getD_some] at h5
        have hagg : (isAgg t).run P w = .ok false w := by
          unfold isAgg
          rw [Sem.run_bind, run_underlying hu w]
          cases d <;> simp_all
        exact ⟨_, by simp only [part, Sem.run_bind, hagg, Result.andThen_ok, Bool.false_eq_true, if_false, Array.getElem?_eq_getElem (show off < vs.size by rw [hc.1]; exact hlt), Sem.run_pure], h5⟩
def fldTy (P : Program) (t : TypeId) (f : Nat) : Option (Nat × Nat) := match P.underlying t with
  | some (.struct fs) => (fs[f]?).map fun fd => (fd.type, fd.offset)
  | _ => none
def apartF (P : Program) (s : ASt) (t : TypeId) (f : Nat) (x : Operand) : Option AV := match s.ev x, fldTy P t f with
  | .agg cs, some (ty, off) => aloadC P ty cs off
  | _, _ => none
theorem op_fieldV (t : TypeId) (x : Operand) (f : Nat) (av : AV) (h : o.op = .field t x f) (hl : apartF P s t f x = some av) : OpVal P ops o s av := .pure fun L loc a w hr => by
  have hx := hr.ev x (looks_mem (by simp [h, Op.operands]))
  unfold apartF at hl
  split at hl
  · rename_i cs ty off he hf
    rw [he] at hx
    generalize hv : a.eval x = v at hx
    cases hx with
    | agg _ vs h1 h2 h3 =>
    obtain ⟨u, hu, hav⟩ := run_part' (P := P) ⟨h1, h2, h3⟩ hl
    unfold fldTy at hf
    split at hf
    · rename_i fs hun
      obtain ⟨fd, hfd, e⟩ := Option.map_eq_some_iff.1 hf
      cases e
      exact ⟨u, by simp only [execOp, h, hv, Instr.field, Sem.run_bind, run_underlying hun, Result.andThen_ok, hfd, asAgg, Sem.run_pure, hu], hav⟩
    · cases hf
  · cases hl
def elemA (P : Program) (t : TypeId) : Option (Nat × Nat × Nat) := match P.underlying t with
  | some (.array n e) => (tySz P e).map fun k => (e, k, n)
  | _ => none
def apartI (P : Program) (s : ASt) (t : TypeId) (x i : Operand) : Option AV := match s.ev x, s.ev i, elemA P t with
  | .agg cs, .p (.val (.int _ n)), some (e, k, len) => if 0 ≤ n ∧ n < len then aloadC P e cs (n.toNat * k) else none
  | _, _, _ => none
theorem op_indexV (t : TypeId) (x i : Operand) (av : AV) (h : o.op = .index t x i) (hl : apartI P s t x i = some av) : OpVal P ops o s av := .pure fun L loc a w hr => by
  have hx := hr.ev x (looks_mem (by simp [h, Op.operands]))
  have hi := hr.ev i (looks_mem (by simp [h, Op.operands]))
  unfold apartI at hl
  split at hl
  · rename_i cs kd n e k len he hie hel
    rw [he] at hx
    rw [hie] at hi
    split at hl
    · rename_i hcond
      generalize hv : a.eval x = v at hx
      cases hx with
      | agg _ vs h1 h2 h3 =>
      obtain ⟨u, hu, hav⟩ := run_part' (P := P) ⟨h1, h2, h3⟩ hl
      unfold elemA at hel
      split at hel
      · rename_i len' e' hun
        obtain ⟨k', hk, e⟩ := Option.map_eq_some_iff.1 hel
        cases e
        obtain ⟨ti, hti, htk⟩ := Option.map_eq_some_iff.1 hk
        exact ⟨u, by simp only [execOp, h, hv, hi.val, Instr.index, asIntOf, Sem.run_bind, run_underlying hun, Result.andThen_ok, Sem.run_pure, if_pos hcond, sizeOf, typeInfo, run_program, hti, htk, hu], hav⟩
      · cases hel
    · cases hl
  · cases hl

/-! ### New slices -/
theorem op_makeS (t : TypeId) (x y : Operand) (k k' : IntKind) (e n bytes l : Nat) (zs : List Value) (h : o.op = .makeSlice t x y) (hx : s.ev x = .p (.val (.int k l))) (hy : s.ev y = .p (.val (.int k' l))) (ht : elemTyB P t = some (e, n, bytes)) (hz : tyZero P e = some zs)
    (hl : l ≤ maxLen) (hb : bytes * l ≤ 140737488355328) (hd : ∀ t, o.dst = some t → t < s.n) : OpEff P o s ((s.add (.row e n (List.replicate l (zs.map .val)))).put o.dst (.own s.N)) := fun L loc a w hr => by
  have h1 := hr.ev x (fun _ _ => trivial)
  have h2 := hr.ev y (fun _ _ => trivial)
  rw [hx] at h1
  rw [hy] at h2
  obtain ⟨i, z, hu, hi, hiz, hsz, hby, hzs, hn0⟩ := (elemTy_of ht).h
  obtain ⟨i', z', hi', hiz', hzc, hone⟩ := tyZero_spec hz
  rw [hi] at hi'
  cases hi'
  rw [hiz] at hiz'
  cases hiz'
  subst hsz
  have hml : maxLen = 9223372036854775807 := rfl
  have hrun := run_make (P := P) w t e i z hu hi hiz k k' l l (by omega) (Int.le_refl _) (by rw [hby]; have : ((bytes * l : Nat) : Int) ≤ 281474976710656 := by omega
                                                                                             rwa [Int.natCast_mul] at this) (by omega)
  simp only [Int.toNat_natCast] at hrun
  have hb0 : Blw w.heap.size w (w.alloc (.cells (madeCells z.cells (l * i.size)) e)) := (Blw.refl _ _).alloc (Nat.le_refl _) _
  have hu0 : ∀ b, blkOf (.slice (some ⟨w.heap.size, 0, none⟩) l l) = some b → w.heap.size ≤ b := fun b e => by cases e; exact Nat.le_refl _
  have hzl : zs.length = i.size := by rw [← hzc, ← hzs]; simp
  have hcell : ∀ j, j < l * i.size → (madeCells z.cells (l * i.size))[j]? = zs[j % i.size]? := fun j hj => by
    have hm : j % i.size < z.cells.size := by rw [hzs]; exact Nat.mod_lt _ hn0
    rw [madeCells, Array.getElem?_map, Array.getElem?_range, if_pos hj]
    simp only [Option.map_some]
    rw [hzs, getElem!_pos z.cells _ hm, ← hzc, Array.getElem?_toList, Array.getElem?_eq_getElem hm]
  have ho : OR (s.N + 1) (Dm L (setLoc loc s.N (.slice (some ⟨w.heap.size, 0, none⟩) l l))) (setLoc loc s.N (.slice (some ⟨w.heap.size, 0, none⟩) l l)) (w.alloc (.cells (madeCells z.cells (l * i.size)) e)) (.slice (some ⟨w.heap.size, 0, none⟩) l l) (.row e i.size (List.replicate l (zs.map .val))) := by
    refine ⟨(madeCells z.cells (l * i.size)).toList, ⟨by simp [size_madeCells], .inr ⟨w.heap.size, l, _, by simp, Nat.zero_le _, heap_alloc_at' w _ _ rfl, by simp, hl, size_madeCells _ _, ?_⟩⟩, fun r hr' => ?_, fun k r j x hk hx => ?_, fun v hv => ?_⟩
    · rw [List.length_replicate, List.take_of_length_le (by simp [size_madeCells])]
    · rw [(List.mem_replicate.1 hr').2, List.length_map, hzl]
    · rw [List.getElem?_replicate] at hk
      split at hk
      · rename_i hkl
        cases hk
        have hjl := (List.getElem?_eq_some_iff.1 hx).1
        simp only [List.length_map, hzl] at hjl
        obtain ⟨v, hv, rfl⟩ := Option.map_eq_some_iff.1 (by simpa using hx : (zs[j]?).map PV.val = some x)
        have hlt : k * i.size + j < l * i.size := by
          have : (k + 1) * i.size ≤ l * i.size := Nat.mul_le_mul_right _ hkl
          rw [Nat.add_mul] at this
          omega
        refine ⟨v, ?_, .val v (hone v (List.mem_of_getElem? hv))⟩
        rw [Array.getElem?_toList, hcell _ hlt, Nat.mul_comm, Nat.mul_add_mod, Nat.mod_eq_of_lt hjl, hv]
      · cases hk
    · obtain ⟨j, hj, rfl⟩ := List.mem_iff_getElem.1 hv
      simp only [Array.length_toList, size_madeCells] at hj
      have := hcell j hj
      rw [← Array.getElem?_toList, List.getElem?_eq_getElem (by simpa [size_madeCells] using hj)] at this
      exact hone _ (List.mem_of_getElem? this.symm)
  unfold Oper.wp
  have he : (execOp a.eval o).run P w = .ok (.value (.slice (some ⟨w.heap.size, 0, none⟩) l l)) (w.alloc (.cells (madeCells z.cells (l * i.size)) e)) := by
    simp only [execOp, h, h1.val, h2.val, Sem.run_bind, hrun, Result.andThen_ok, Sem.run_pure]
  rw [he]
  refine ⟨setLoc loc s.N (.slice (some ⟨w.heap.size, 0, none⟩) l l), ?_, .add hb0 _ _ hu0⟩
  refine (hr.add hb0 _ _ hu0 ho).put' hd (.own s.N _ (Nat.lt_succ_self _) rfl fun u hu => ?_)
  rw [setLoc_same] at hu; cases hu; rfl

/-! ### Elements set -/
theorem asplice_take {α : Type} {cs : List α} {off m : Nat} {xs : List α} (h : off + xs.length ≤ m) (hm : m ≤ cs.length) : (asplice cs off xs).take m = asplice (cs.take m) off xs := by
  apply List.ext_getElem?
  intro j
  rw [List.getElem?_take, asplice_get (by omega), asplice_get (by rw [List.length_take]; omega), List.getElem?_take]
  by_cases h1 : j < m
  · rw [if_pos h1, if_pos h1]
  · rw [if_neg h1, if_neg h1, if_neg (by omega)]
theorem op_storeR (t : TypeId) (x y : Operand) (tag n k off : Nat) (e : Nat) (rows : List (List PV)) (r : List PV) (ys : List AV) (ps : List PV) (h : o.op = .store t x y) (hx : s.ev x = .rptr tag n k off) (hlk : s.hp.lookup tag = some (.row e n rows)) (hr : rows[k]? = some r)
    (hy : acells (s.ev y) = some ys) (hp : pureL ys = some ps) (hsz : tySz P t = some ys.length) (hl : off + ys.length ≤ n) (hd : o.dst = none) : OpEff P o s { s with hp := setHp s.hp tag (.row e n (rows.set k (asplice r off ps))) } := fun L loc a w hrel => by
  have h1 := hrel.ev x (fun _ _ => trivial)
  have h2 := hrel.ev y (fun _ _ => trivial)
  rw [hx] at h1
  obtain ⟨_, u, hu, hor⟩ := hrel.hp.at' tag _ hlk
  obtain ⟨flat, hown, hrn, hfl, hone⟩ := hor
  obtain ⟨k1, k2, k3⟩ := acells_ok h2 hy
  have hkl := (List.getElem?_eq_some_iff.1 hr).1
  have hrl : r.length = n := hrn r (List.mem_of_getElem? hr)
  have hys := pureL_spec hp
  have hpl : ps.length = ys.length := by rw [hys]; simp
  generalize hax : a.eval x = ax at h1
  cases h1 with
  | rptr _ _ _ _ _ _ _ hv =>
  have hown' := hown
  rcases hown.2 with ⟨_, h0⟩ | ⟨g, cap, cur, rfl, _, hg, hle, hmx, hcs, htk⟩
  · omega
  obtain rfl := hv g _ _ hu
  have hfl0 : flat.length = rows.length * n := hown.1
  have hkn : k * n + n ≤ rows.length * n := by
    have : (k + 1) * n ≤ rows.length * n := Nat.mul_le_mul_right n hkl
    rwa [Nat.add_mul, Nat.one_mul] at this
  have hcn : rows.length * n ≤ cap * n := Nat.mul_le_mul_right n hle
  have hrun := run_storeAny (P := P) (off := k * n + off) (v := a.eval y) hg (by rw [k1]; exact hsz) (by rw [k1, hcs]; omega) k3
  obtain ⟨arr', g1, g2, g3⟩ := setCells_row (a.eval y).cells.toList (k * n + off) w cur e (0, 0) hg (by simp [k1, hcs]; omega)
  have hk : Kp (fun k => k = g) w (w.setCells g (k * n + off) (a.eval y).cells.toList) := setCells_kp (D := fun k => k = g) rfl _ _ _
  have hDb : Dm L loc g := .inr ⟨tag, _, hu, rfl⟩
  have hkd : Kp (Dm L loc) w (w.setCells g (k * n + off) (a.eval y).cells.toList) := setCells_kp hDb _ _ _
  unfold Oper.wp
  have he : (execOp a.eval o).run P w = .ok .skip (w.setCells g (k * n + off) (a.eval y).cells.toList) := by simp [execOp, h, hax, hrun]
  rw [he]
  simp only [Oper.upon, hd]
  refine ⟨loc, ?_, .turn hu rfl hk⟩
  have hsl : (a.eval y).cells.toList.length = ys.length := by simp [k1]
  refine hrel.turn hlk hu rfl hk ⟨asplice flat (k * n + off) (a.eval y).cells.toList, ⟨?_, .inr ⟨g, cap, arr', ?_, Nat.zero_le _, g1, ?_, hmx, by rw [g3, hcs], ?_⟩⟩, fun r' hr' => ?_, fun k' r' j z hk' hz => ?_, fun v hv => ?_⟩
  · rw [asplice_len (by rw [hsl, hfl0]; omega), hfl0, List.length_set]
  · rw [List.length_set]
  · rw [List.length_set]; exact hle
  · rw [List.length_set, g2, asplice_take (by rw [hsl]; omega) (by simp [hcs]; omega), htk]
  · rcases List.mem_or_eq_of_mem_set hr' with h5 | h5
    · exact hrn r' h5
    · rw [h5, asplice_len (by omega), hrl]
  · rw [asplice_get (by rw [hsl, hfl0]; omega), hsl]
    rw [List.getElem?_set] at hk'
    by_cases e1 : k = k'
    · subst e1
      rw [if_pos rfl, if_pos hkl] at hk'
      cases hk'
      rw [asplice_get (by omega)] at hz
      by_cases hc : off ≤ j ∧ j < off + ps.length
      · rw [if_pos hc] at hz
        rw [if_pos (by omega)]
        have hz' : ys[j - off]? = some (.p z) := by rw [hys, List.getElem?_map, hz]; rfl
        have h5 := k2 _ _ hz'
        have hlt : j - off < (a.eval y).cells.size := by rw [k1]; exact (List.getElem?_eq_some_iff.1 hz').1
        rw [Array.getD_eq_getD_getElem?, Array.getElem?_eq_getElem hlt, Option.getD_some] at h5
        refine ⟨(a.eval y).cells[j - off], ?_, ?_⟩
        · rw [show k * n + j - (k * n + off) = j - off by omega, Array.getElem?_toList]; exact Array.getElem?_eq_getElem hlt
        · cases h5 with | p _ _ hp => exact hp.mono hkd (fun _ _ h => h)
      · rw [if_neg hc] at hz
        rw [if_neg (by omega)]
        obtain ⟨v, h5, h6⟩ := hfl k r j z hr hz
        exact ⟨v, h5, h6.mono hkd (fun _ _ h => h)⟩
    · rw [if_neg e1] at hk'
      obtain ⟨v, h5, h6⟩ := hfl k' r' j z hk' hz
      have hjl := (List.getElem?_eq_some_iff.1 hz).1
      rw [hrn r' (List.mem_of_getElem? hk')] at hjl
      have hne : ¬ (k * n + off ≤ k' * n + j ∧ k' * n + j < k * n + off + ys.length) := by
        rcases Nat.lt_or_gt_of_ne e1 with h7 | h7
        · have : (k + 1) * n ≤ k' * n := Nat.mul_le_mul_right n h7
          rw [Nat.add_mul] at this
          omega
        · have : (k' + 1) * n ≤ k * n := Nat.mul_le_mul_right n h7
          rw [Nat.add_mul] at this
          omega
      rw [if_neg hne]
      exact ⟨v, h5, h6.mono hkd (fun _ _ h => h)⟩
  · unfold asplice at hv
    rcases List.mem_append.1 hv with h5 | h5
    · rcases List.mem_append.1 h5 with h6 | h6
      · exact hone v (List.mem_of_mem_take h6)
      · obtain ⟨j, hj, rfl⟩ := List.mem_iff_getElem.1 h6
        have := k3 j (by simpa using hj)
        rw [Array.getD_eq_getD_getElem?, Array.getElem?_eq_getElem (by simpa using hj), Option.getD_some] at this
        simpa using this
    · exact hone v (List.mem_of_mem_drop h5)

/-! ### append onto nothing -/
theorem op_append0 (x y : Operand) (ty : Nat) (e n bytes : Nat) (ys : List (List PV)) (h : o.op = .call { callee := .builtin .append, args := #[x, y], argTypes := #[ty, ty] }) (hx : s.ev x = .p (.val (.slice none 0 0))) (ht : elemTyB P ty = some (e, n, bytes)) (hy : s.ev y = .p (.seq n ys))
    (h63 : ys.length ≤ maxLen) (hbytes : ys.length * bytes ≤ 140737488355328) : OpVal P ops o s (.p (.seq n ys)) := fun L loc a w hr => by
  have h1 := hr.ev x (looks_mem (by simp [h, Op.operands, Call.operands]))
  have h2 := hr.ev y (looks_mem (by simp [h, Op.operands, Call.operands]))
  rw [hx] at h1
  rw [hy] at h2
  have hax := h1.val
  generalize hay : a.eval y = ay at h2
  cases h2 with
  | p _ _ hp =>
  obtain ⟨v', w', news, hrun, hown', hg, hat, hone2, hyn, hpr⟩ := run_append_seq (P := P) (ty := o.type) (elemTy_of ht) (World.ownsRow_nil w 0 e n) hp (by simpa using h63) (by simpa using hbytes)
  simp only [Nat.zero_add, List.nil_append] at hown'
  have hb : Blw w.heap.size w w' := ⟨⟨hg.os, hg.tape, hg.output, hg.size, fun k hk => hg.block k hk (by simp [Value.ownBlock])⟩, run_drawn hrun⟩
  refine .inl ⟨v', w', by simp only [execOp, h, resolve, invoke, builtin, Sem.run_bind, Sem.run_pure, Result.andThen_ok, List.map_toArray, List.map_cons, List.map_nil, hax, hay, hrun], hb, ?_⟩
  rcases hown'.2 with ⟨rfl, h0⟩ | ⟨g, cap, cur, rfl, _, hgc, hle, hmx, hcs, htk⟩
  · have : ys = [] := List.eq_nil_of_length_eq_zero h0
    subst this
    exact .p _ _ (.nil n none 0 (fun _ => rfl))
  · have hgb : g = w.heap.size := by
      rcases hat with e' | e'
      · simp [Value.ownBlock] at e'
      · simpa [Value.ownBlock] using e'
    subst hgb
    refine .p _ _ (PR.of_block hgc (fun hd => Nat.lt_irrefl _ (hr.hp.dm_lt hd)) hle hmx hyn fun k r j x hk hx => ?_)
    obtain ⟨v, h5, h6⟩ := hpr k r j x hk hx
    refine ⟨v, ?_, h6.mono (.of_below hb) (fun _ _ h => h)⟩
    have hlt := (List.getElem?_eq_some_iff.1 h5).1
    have hnl := hown'.1
    rw [← htk, List.getElem?_take, if_pos (by rw [← hnl]; exact hlt)] at h5
    simpa using h5
/-- append onto nil begins a slice of the walk's own. -/
theorem op_appendN (x y : Operand) (ty : Nat) (e n bytes : Nat) (ys : List (List PV)) (h : o.op = .call { callee := .builtin .append, args := #[x, y], argTypes := #[ty, ty] }) (hx : s.ev x = .p (.val (.slice none 0 0))) (ht : elemTyB P ty = some (e, n, bytes)) (hy : s.ev y = .p (.seq n ys))
    (h63 : ys.length ≤ maxLen) (hbytes : ys.length * bytes ≤ 140737488355328) (hd : ∀ t, o.dst = some t → t < s.n) : OpEff P o s ((s.add (.row e n ys)).put o.dst (.own s.N)) := fun L loc a w hr => by
  have h1 := hr.ev x (fun _ _ => trivial)
  have h2 := hr.ev y (fun _ _ => trivial)
  rw [hx] at h1
  rw [hy] at h2
  have hax := h1.val
  generalize hay : a.eval y = ay at h2
  cases h2 with
  | p _ _ hp =>
  obtain ⟨v', w', news, hrun, hown', hg, hat, hone2, hyn, hpr⟩ := run_append_seq (P := P) (ty := o.type) (elemTy_of ht) (World.ownsRow_nil w 0 e n) hp (by simpa using h63) (by simpa using hbytes)
  simp only [Nat.zero_add, List.nil_append] at hown'
  have hb : Blw w.heap.size w w' := ⟨⟨hg.os, hg.tape, hg.output, hg.size, fun k hk => hg.block k hk (by simp [Value.ownBlock])⟩, run_drawn hrun⟩
  have hv1 : v'.oneCell' = true := by rcases hown'.2 with ⟨rfl, _⟩ | ⟨g, c, cur, rfl, _⟩ <;> rfl
  have hu : ∀ b, blkOf v' = some b → w.heap.size ≤ b := fun b hb' => by
    have hb2 := own_blk hown' hb'
    rcases hat with e' | e'
    · rw [e'] at hb2; simp [Value.ownBlock] at hb2
    · rw [e'] at hb2; cases hb2; exact Nat.le_refl _
  unfold Oper.wp
  have he : (execOp a.eval o).run P w = .ok (.value v') w' := by simp only [execOp, h, resolve, invoke, builtin, Sem.run_bind, Sem.run_pure, Result.andThen_ok, List.map_toArray, List.map_cons, List.map_nil, hax, hay, hrun]
  rw [he]
  refine ⟨setLoc loc s.N v', ?_, .add hb _ _ hu⟩
  refine (hr.add hb v' (.row e n ys) hu ⟨news, hown', hyn, fun k r j x hk hx => ?_, hone2⟩).put' hd (.own s.N _ (Nat.lt_succ_self _) hv1 fun z hz => ?_)
  · obtain ⟨v, h5, h6⟩ := hpr k r j x hk hx
    exact ⟨v, h5, h6.mono (.of_below hb) (fun k hk hd => (dm_set hd).resolve_left fun e => by have := hu k e; omega)⟩
  · rw [setLoc_same] at hz; cases hz; rfl
/-- The empty literal of a slice's type begins one. -/
theorem op_buildS0 (t : TypeId) (e n bytes : Nat) (h : o.op = .buildSlice t 0 #[]) (ht : elemTyB P t = some (e, n, bytes)) (hd : ∀ t, o.dst = some t → t < s.n) : OpEff P o s ((s.add (.row e n [])).put o.dst (.own s.N)) := fun L loc a w hr => by
  obtain ⟨i, z, hu, hi, hiz, hsz, hby, hzs, hn0⟩ := (elemTy_of ht).h
  have hnr : ∀ c : Array Value, (newRow e c).run P w = .ok ⟨w.heap.size, 0, none⟩ (w.alloc (.cells c e)) := fun c => by simp [newRow]
  have hrun : (Instr.buildSlice t 0 #[]).run P w = .ok (.slice (some ⟨w.heap.size, 0, none⟩) 0 0) (w.alloc (.cells #[] e)) := by
    unfold Instr.buildSlice
    have h1 : Instr.fill (fun i => some (i * n, n)) ((Array.range (0 * n)).map fun j => (#[] : Array Value)[j % (#[] : Array Value).size]!) (#[] : Array (Nat × Value)).toList = some #[] := by
      simp [Instr.fill]
    have hm : ¬ (0 * n > 2 ^ 24) := by omega
    simp only [Sem.run_bind, run_underlying hu, Result.andThen_ok, sizeOf, typeInfo, run_program, hi, hsz, Sem.run_pure, if_neg hm, if_pos (Nat.zero_mul n), h1, hnr]
  have hb : Blw w.heap.size w (w.alloc (.cells #[] e)) := (Blw.refl _ _).alloc (Nat.le_refl _) _
  have hu0 : ∀ b, blkOf (.slice (some ⟨w.heap.size, 0, none⟩) 0 0) = some b → w.heap.size ≤ b := fun b e => by cases e; exact Nat.le_refl _
  unfold Oper.wp
  have he : (execOp a.eval o).run P w = .ok (.value (.slice (some ⟨w.heap.size, 0, none⟩) 0 0)) (w.alloc (.cells #[] e)) := by simp only [execOp, h, List.map_toArray, List.map_nil, Sem.run_bind, hrun, Result.andThen_ok, Sem.run_pure]
  rw [he]
  refine ⟨setLoc loc s.N (.slice (some ⟨w.heap.size, 0, none⟩) 0 0), ?_, .add hb _ _ hu0⟩
  refine (hr.add hb _ (.row e n []) hu0 ⟨[], ⟨by simp, .inr ⟨w.heap.size, 0, #[], rfl, Nat.zero_le _, heap_alloc_at' w _ _ rfl, Nat.le_refl _, by simp [maxLen], by simp, by simp⟩⟩, fun r h => (by cases h), fun k r j x h => (by simp at h), fun v h => (by cases h)⟩).put' hd (.own s.N _ (Nat.lt_succ_self _) rfl fun z hz => ?_)
  rw [setLoc_same] at hz; cases hz; rfl
end
end Go.Proofs.Ytbhkcejjehgfcaa
