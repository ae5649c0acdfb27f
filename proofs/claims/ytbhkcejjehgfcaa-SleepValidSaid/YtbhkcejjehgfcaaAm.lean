/- Slices' literals, slices of slices, parts of arrays, new slices, elements set. -/
import Derived.Test.YtbhkcejjehgfcaaAl
namespace Go.Proofs.Ytbhkcejjehgfcaa
open Go.RowKit Go.Sort

section
variable {P : Program} {ops : Array Oper} {o : Oper} {s : ASt}
theorem PR.of_block {D : Nat → Prop} {w : World} {n : Nat} {rows : List (List PV)} {b cap : Nat} {arr : Array Value} {ty : TypeId} {fr : Nat × Nat} (h : w.heap[b]? = some (.cells arr ty fr)) (hD : ¬ D b) (hcap : rows.length ≤ cap) (hmax : cap ≤ maxLen) (hn : ∀ r ∈ rows, r.length = n)
    (hv : ∀ (k : Nat) r (j : Nat) x, rows[k]? = some r → r[j]? = some x → ∃ v, arr[k * n + j]? = some v ∧ PR D w x v) : PR D w (.seq n rows) (.slice (some ⟨b, 0, none⟩) rows.length cap) := by
  refine .seq n b 0 cap rows (fun k j => arr.getD (k * n + j) undef) (Array.getElem?_eq_some_iff.1 h).1 hD hcap hmax hn (fun k r j x h1 h2 => ?_) (fun k r j x h1 h2 => ?_)
  · obtain ⟨v, h3, h4⟩ := hv k r j x h1 h2
    rw [row_cells h, Nat.zero_add, h3, Array.getD_eq_getD_getElem?, h3]; rfl
  · obtain ⟨v, h3, h4⟩ := hv k r j x h1 h2
    rw [Array.getD_eq_getD_getElem?, h3]; exact h4
theorem op_buildS (t : TypeId) (len : Nat) (parts : Array (Nat × Operand)) (av : AV) (h : o.op = .buildSlice t len parts) (hl : abuildS P s t len parts.toList = some av) : OpVal P ops o s av := fun L loc a w hr => by
  have hev : ∀ (j i : Nat) (x : AV) (i' : Nat) (v : Value), (parts.toList.map fun p => (p.1, s.ev p.2))[j]? = some (i, x) → (parts.map fun (i, x) => (i, a.eval x)).toList[j]? = some (i', v) → i = i' ∧ AR s.N (Dm L loc) loc w x v := fun j i x i' v h1 h2 => by
    simp only [Array.toList_map, List.getElem?_map, Option.map_eq_some_iff] at h1 h2
    obtain ⟨p, hp, e1⟩ := h1
    obtain ⟨p', hp', e2⟩ := h2
    rw [hp] at hp'
    cases hp'
    cases e1
    cases e2
    refine ⟨rfl, hr.ev p.2 (looks_mem ?_)⟩
    simp only [h, Op.operands]
    exact List.mem_map.2 ⟨p, List.mem_of_getElem? hp, rfl⟩
  have hlen : (parts.map fun (i, x) => (i, a.eval x)).toList.length = (parts.toList.map fun p => (p.1, s.ev p.2)).length := by simp
  unfold abuildS at hl
  split at hl
  · rename_i e hu
    split at hl
    · rename_i zs n hz hs
      split at hl
      · rename_i hcond
        obtain ⟨hzl, hn0, hmax, hml⟩ := hcond
        split at hl
        · rename_i cs hf
          obtain ⟨xs, hxs, rfl⟩ := Option.map_eq_some_iff.1 hl
          obtain ⟨i, z, hi, hiz, hzc, hone⟩ := tyZero_spec hz
          have hzsz : z.cells.size = n := by rw [← hzl, ← hzc]; simp
          have hz0 : Cs s.N (Dm L loc) loc w ((List.range (len * n)).map fun j => .p (.val (zs.getD (j % n) undef))) ((Array.range (len * n)).map fun j => z.cells[j % z.cells.size]!) := by
            have e1 : ∀ j, z.cells[j % z.cells.size]! = zs.getD (j % n) undef := fun j => by
              have : j % n < z.cells.size := by rw [hzsz]; exact Nat.mod_lt _ hn0
              rw [hzsz, getElem!_pos z.cells _ this, ← hzc, List.getD_eq_getElem?_getD, Array.getElem?_toList, Array.getElem?_eq_getElem this]
              rfl
            have e2 : (Array.range (len * n)).map (fun j => z.cells[j % z.cells.size]!) = ((List.range (len * n)).map fun j => zs.getD (j % n) undef).toArray := by
              apply Array.ext'
              simp [e1]
            rw [e2]
            have := Cs.zero s.N (Dm L loc) loc w (vs := ((List.range (len * n)).map fun j => zs.getD (j % n) undef).toArray) (fun v hv => by
              obtain ⟨j, _, rfl⟩ := List.mem_map.1 (show v ∈ (List.range (len * n)).map (fun j => zs.getD (j % n) undef) from hv)
              have : j % n < zs.length := by rw [hzl]; exact Nat.mod_lt _ hn0
              rw [List.getD_eq_getElem?_getD, List.getElem?_eq_getElem this]
              exact hone _ (List.getElem_mem this))
            simpa [List.map_map, Function.comp_def] using this
          obtain ⟨us', h1, h2⟩ := fill_ok hlen hev hz0 hf
          obtain ⟨i', hi', his⟩ := Option.map_eq_some_iff.1 hs
          rw [hi] at hi'
          cases hi'
          have hrun : (Instr.buildSlice t len (parts.map fun (i, x) => (i, a.eval x))).run P w = .ok (.slice (some ⟨w.heap.size, 0, none⟩) len len) (w.alloc (.cells us' e)) := by
            have hm : ¬ (len * n > 2 ^ 24) := by omega
            have hnr : ∀ c : Array Value, (newRow e c).run P w = .ok ⟨w.heap.size, 0, none⟩ (w.alloc (.cells c e)) := fun c => by simp [newRow]
            unfold Instr.buildSlice
            by_cases h0 : len * n = 0
            · have e3 : (Array.range (len * n)).map (fun j => z.cells[j % z.cells.size]!) = (Array.range (len * n)).map (fun j => (#[] : Array Value)[j % (#[] : Array Value).size]!) := by rw [h0]; apply Array.ext'; simp
              rw [e3] at h1
              simp only [Sem.run_bind, run_underlying hu, Result.andThen_ok, sizeOf, typeInfo, run_program, hi, his, Sem.run_pure, if_neg hm, if_pos h0, h1, hnr]
            · simp only [Sem.run_bind, run_underlying hu, Result.andThen_ok, sizeOf, typeInfo, run_program, hi, his, Sem.run_pure, if_neg hm, if_neg h0, zeroValue, hiz, h1, hnr]
          refine .inl ⟨_, _, by simp only [execOp, h, Sem.run_bind, hrun, Result.andThen_ok, Sem.run_pure]; rfl, (Blw.refl _ _).alloc (Nat.le_refl _) _, ?_⟩
          have hbl : Blw w.heap.size w (w.alloc (.cells us' e)) := (Blw.refl _ _).alloc (Nat.le_refl _) _
          have hcs := pureL_spec hxs
          have hcl : cs.length = len * n := by
            have : ∀ (ps : List (Nat × AV)) (c c' : List AV), afill (fun i => some (i * n, n)) c ps = some c' → c'.length = c.length := by
              intro ps
              induction ps with
              | nil => intro c c' h; cases h; rfl
              | cons p r ih =>
                intro c c' h
                obtain ⟨k, x⟩ := p
                simp only [afill] at h
                split at h
                · split at h
                  · rename_i hc
                    rw [ih _ _ h, asplice_len hc.2]
                  · cases h
                · cases h
            rw [this _ _ _ hf]; simp
          have hxl : xs.length = len * n := by rw [← hcl, hcs]; simp
          have := PR.of_block (D := Dm L loc) (rows := chunks n len xs) (cap := len) (n := n) (heap_alloc_at' w (.cells us' e) _ rfl) (fun hd => Nat.lt_irrefl _ (hr.hp.dm_lt hd)) (by rw [chunks_len]; exact Nat.le_refl _) hml (fun r hr' => ?_) (fun k r j x hk hx => ?_)
          · rw [chunks_len] at this
            exact .p _ _ this
          · obtain ⟨k, hk, rfl⟩ := List.mem_iff_getElem.1 hr'
            rw [chunks_len] at hk
            have e1 := chunks_get n len xs k _ (List.getElem?_eq_getElem (by rw [chunks_len]; exact hk))
            rw [e1, List.length_take, List.length_drop, hxl]
            have : (k + 1) * n ≤ len * n := Nat.mul_le_mul_right n hk
            rw [Nat.add_mul] at this
            omega
          · have e1 := chunks_get n len xs k _ hk
            rw [e1, List.getElem?_take] at hx
            split at hx
            · rw [List.getElem?_drop] at hx
              have hx' : cs[k * n + j]? = some (.p x) := by rw [hcs, List.getElem?_map, hx]; rfl
              have h5 := h2.2.1 _ _ hx'
              have hlt := (List.getElem?_eq_some_iff.1 hx').1
              rw [← h2.1] at hlt
              rw [Array.getD_eq_getD_getElem?, Array.getElem?_eq_getElem hlt] at h5
              refine ⟨_, Array.getElem?_eq_getElem hlt, ?_⟩
              cases h5 with
              | p _ _ hp => exact hp.mono (.of_below hbl) (fun _ _ h => h)
            · cases hx
        · cases hl
      · cases hl
    · cases hl
  · cases hl

/-! ### Slices of slices -/
def aslice (P : Program) (s : ASt) (t : TypeId) (lo hi : Option Int) (x : AV) : Option AV := match x with
  | .own tag => match s.hp.lookup tag with
    | some (.row _ n rows) => if elemSz P t = some n ∧ lo = none ∧ 0 < rows.length ∧ 0 ≤ hi.getD rows.length ∧ hi.getD rows.length ≤ rows.length then some (.pre tag (hi.getD rows.length).toNat) else none
    | _ => none
  | .p (.seq n rows) => if elemSz P t = some n ∧ 0 ≤ lo.getD 0 ∧ lo.getD 0 ≤ hi.getD rows.length ∧ hi.getD rows.length ≤ rows.length then some (.p (.seq n ((rows.take (hi.getD rows.length).toNat).drop (lo.getD 0).toNat))) else none
  | .p (.val (.slice none 0 0)) => if (elemSz P t).isSome = true ∧ lo.getD 0 = 0 ∧ hi.getD 0 = 0 then some x else none
  | _ => none
def evI (s : ASt) (x : Option Operand) : Option (Option Int) := match x with
  | none => some none
  | some x => match s.ev x with
    | .p (.val (.int _ n)) => some (some n)
    | _ => none
theorem PR.slice {D : Nat → Prop} {w : World} {n : Nat} {rows : List (List PV)} {ad : Option Addr} {len cap : Nat} (h : PR D w (.seq n rows) (.slice ad len cap)) {l u : Nat} (hlu : l ≤ u) (hu : u ≤ rows.length) :
    len = rows.length ∧ rows.length ≤ cap ∧ PR D w (.seq n ((rows.take u).drop l)) (.slice (if cap = l then ad else ad.map (·.add (l * n))) (u - l) (cap - l)) := by
  cases h with
  | nil n a cap h0 =>
    obtain rfl : u = 0 := by simpa using hu
    obtain rfl : l = 0 := by omega
    refine ⟨rfl, Nat.zero_le _, ?_⟩
    have := PR.nil (D := D) (w := w) n (if cap = 0 then ad else ad.map (·.add (0 * n))) (cap - 0) (fun e => by
      split at e
      · omega
      · have := h0 (by simpa using e); omega)
    simpa using this
  | seq n b off cap rows f hb hnD hcap hmax hn hc hr =>
    refine ⟨rfl, hcap, ?_⟩
    have hlen : ((rows.take u).drop l).length = u - l := by simp; omega
    have hget : ∀ k r, ((rows.take u).drop l)[k]? = some r → rows[l + k]? = some r := fun k r h => by
      rw [List.getElem?_drop, List.getElem?_take] at h
      split at h
      · exact h
      · cases h
    have main : PR D w (.seq n ((rows.take u).drop l)) (.slice (some ⟨b, off + l * n, none⟩) ((rows.take u).drop l).length (cap - l)) := by
      refine .seq n b (off + l * n) (cap - l) _ (fun k j => f (l + k) j) hb hnD (by omega) (by omega) (fun r hr' => hn r (List.mem_of_mem_take (List.mem_of_mem_drop hr'))) (fun k r j x hk hx => ?_) (fun k r j x hk hx => hr _ r j x (hget k r hk) hx)
      rw [← hc _ r j x (hget k r hk) hx]
      congr 2
      rw [Nat.add_mul]; omega
    by_cases e : cap = l
    · rw [if_pos e]
      have h0 : (rows.take u).drop l = [] := List.eq_nil_of_length_eq_zero (by omega)
      rw [h0]
      have h1 : u - l = 0 := by omega
      have := PR.seq (D := D) (w := w) n b off (cap - l) [] (fun _ _ => undef) hb hnD (by simp) (by omega) (fun r h => by cases h) (fun k r j x h => by simp at h) (fun k r j x h => by simp at h)
      rw [h1]
      exact this
    · rw [if_neg e]
      rw [hlen] at main
      have e2 : (some (⟨b, off, none⟩ : Addr)).map (·.add (l * n)) = some ⟨b, off + l * n, none⟩ := by simp [Addr.add_mid]
      rw [e2]
      exact main
theorem run_bounds {P : Program} {w : World} {len cap : Nat} {lo hi : Option Value} {l u : Int} (hlo : (lo = none ∧ l = 0) ∨ ∃ k, lo = some (.int k l)) (hhi : (hi = none ∧ u = len) ∨ ∃ k, hi = some (.int k u)) (h0 : 0 ≤ l) (h1 : l ≤ u) (h2 : u ≤ len) (h3 : len ≤ cap) :
    (Instr.sliceBounds true len cap lo hi none).run P w = .ok (l.toNat, u.toNat, cap) w := by
  have hu0 : 0 ≤ u := by omega
  have huc : u ≤ (cap : Int) := by omega
  have hlu : l ≤ ((u.toNat : Nat) : Int) := by omega
  rcases hlo with ⟨rfl, rfl⟩ | ⟨k, rfl⟩ <;> rcases hhi with ⟨rfl, rfl⟩ | ⟨k', rfl⟩ <;> simp [Instr.sliceBounds, Instr.sliceBound, asIntOf, hu0, huc, hlu, h0]
  all_goals first | omega | (intro _; omega)
theorem op_slice (t : TypeId) (x : Operand) (lo hi : Option Operand) (li ui : Option Int) (av : AV) (h : o.op = .slice t x lo hi none) (h1 : evI s lo = some li) (h2 : evI s hi = some ui) (hl : aslice P s t li ui (s.ev x) = some av) : OpVal P ops o s av := .pure fun L loc a w hr => by
  have hx := hr.ev x (looks_mem (by simp [h, Op.operands]))
  have hlo : ∀ n, (lo.map a.eval = none ∧ li.getD n = n ∧ li = none) ∨ ∃ k m, lo.map a.eval = some (.int k m) ∧ li = some m := fun n => by
    cases lo with
    | none => cases h1; exact .inl ⟨rfl, rfl, rfl⟩
    | some y =>
      simp only [evI] at h1
      split at h1
      · rename_i k m hy
        cases h1
        have := hr.ev y (looks_mem (by simp [h, Op.operands]))
        rw [hy] at this
        exact .inr ⟨k, m, by simp [this.val], rfl⟩
      · cases h1
  have hhi : ∀ n, (hi.map a.eval = none ∧ ui.getD n = n ∧ ui = none) ∨ ∃ k m, hi.map a.eval = some (.int k m) ∧ ui = some m := fun n => by
    cases hi with
    | none => cases h2; exact .inl ⟨rfl, rfl, rfl⟩
    | some y =>
      simp only [evI] at h2
      split at h2
      · rename_i k m hy
        cases h2
        have := hr.ev y (looks_mem (by simp [h, Op.operands]))
        rw [hy] at this
        exact .inr ⟨k, m, by simp [this.val], rfl⟩
      · cases h2
  have he : ∀ v, (Instr.sliceAt t (a.eval x) (lo.map a.eval) (hi.map a.eval) none).run P w = .ok v w → (execOp a.eval o).run P w = .ok (.value v) w := fun v hv => by simp only [execOp, h, Option.map_none, Sem.run_bind, hv, Result.andThen_ok, Sem.run_pure]
  have hrunS : ∀ {ad : Option Addr} {len cap n : Nat} {l u : Int}, elemSz P t = some n → ((lo.map a.eval = none ∧ l = 0) ∨ ∃ k, lo.map a.eval = some (.int k l)) → ((hi.map a.eval = none ∧ u = len) ∨ ∃ k, hi.map a.eval = some (.int k u)) → 0 ≤ l → l ≤ u → u ≤ len → len ≤ cap →
      (Instr.sliceAt t (.slice ad len cap) (lo.map a.eval) (hi.map a.eval) none).run P w = .ok (.slice (if cap = l.toNat then ad else ad.map (·.add (l.toNat * n))) (u.toNat - l.toNat) (cap - l.toNat)) w := by
    intro ad len cap n l u he hlo hhi g0 g1 g2 g3
    unfold elemSz at he
    split at he
    · rename_i e hu
      obtain ⟨i, hi', hin⟩ := Option.map_eq_some_iff.1 he
      have hb := run_bounds (P := P) (w := w) hlo hhi g0 g1 g2 g3
      simp only [Instr.sliceAt, Instr.slice, Sem.run_bind, run_underlying hu, Result.andThen_ok, hb, sizeOf, typeInfo, run_program, hi', hin, Sem.run_pure]
    · cases he
  generalize a.eval x = v at *
  generalize s.ev x = y at *
  unfold aslice at hl
  split at hl
  · rename_i tag
    cases hlk : s.hp.lookup tag with
    | none => rw [hlk] at hl; cases hl
    | some ob =>
      rw [hlk] at hl
      obtain ⟨htN, u', hu', hor⟩ := hr.hp.at' tag ob hlk
      cases ob with
      | map _ _ _ _ _ => cases hl
      | raw _ _ => cases hl
      | lrec _ _ _ => cases hl
      | boxP pin ty cs => cases hl
      | row e n rows =>
        simp only at hl
        split at hl
        · rename_i hcond
          obtain ⟨c1, c2, c0, c3, c4⟩ := hcond
          cases hl
          obtain ⟨flat, hown, _⟩ := hor
          cases hx with
          | own _ _ _ _ hv =>
          obtain rfl := hv _ hu'
          rcases hown.2 with ⟨_, h0⟩ | ⟨g, cap, cur, rfl, _, _, hle, _⟩
          · omega
          · have hn0 : hi.map a.eval = none ∧ ui.getD rows.length = (rows.length : Int) ∨ ∃ k, hi.map a.eval = some (.int k (ui.getD rows.length)) := by
              rcases hhi rows.length with ⟨g1, g2, _⟩ | ⟨k, m, g1, rfl⟩
              · exact .inl ⟨g1, g2⟩
              · exact .inr ⟨k, g1⟩
            have hl0 : lo.map a.eval = none ∧ (0 : Int) = 0 ∨ ∃ k, lo.map a.eval = some (.int k 0) := by
              rcases hlo 0 with ⟨g1, _, _⟩ | ⟨k, m, g1, e⟩
              · exact .inl ⟨g1, rfl⟩
              · rw [c2] at e; cases e
            have := hrunS (ad := some ⟨g, 0, none⟩) (len := rows.length) (cap := cap) (l := 0) (u := ui.getD rows.length) c1 hl0 hn0 (by omega) c3 c4 hle
            have e2 : (if cap = (0 : Int).toNat then (some (⟨g, 0, none⟩ : Addr)) else (some (⟨g, 0, none⟩ : Addr)).map (·.add ((0 : Int).toNat * n))) = some ⟨g, 0, none⟩ := by
              rw [if_neg (by simp; omega)]; simp [Addr.add_mid]
            rw [e2] at this
            refine ⟨_, he _ this, .pre tag _ _ htN rfl fun b l c hb => ?_⟩
            rw [hu'] at hb
            cases hb
            rfl
        · cases hl
  · rename_i n rows
    split at hl
    · rename_i hcond
      obtain ⟨c1, c2, c3, c4⟩ := hcond
      cases hl
      cases hx with
      | p _ _ hp =>
      have hsl : ∃ ad len cap, v = .slice ad len cap := by
        cases hp with
        | nil n a cap h0 => exact ⟨_, _, _, rfl⟩
        | seq => exact ⟨_, _, _, rfl⟩
      obtain ⟨ad, len, cap, rfl⟩ := hsl
      obtain ⟨e1, e2, e3⟩ := hp.slice (l := (li.getD 0).toNat) (u := (ui.getD rows.length).toNat) (by omega) (by omega)
      subst e1
      refine ⟨_, he _ (hrunS c1 (l := li.getD 0) (u := ui.getD rows.length) ?_ ?_ c2 c3 c4 e2), .p _ _ e3⟩
      · rcases hlo 0 with ⟨g1, g2, _⟩ | ⟨k, m, g1, rfl⟩
        · exact .inl ⟨g1, g2⟩
        · exact .inr ⟨k, g1⟩
      · rcases hhi rows.length with ⟨g1, g2, _⟩ | ⟨k, m, g1, rfl⟩
        · exact .inl ⟨g1, g2⟩
        · exact .inr ⟨k, g1⟩
    · cases hl
  · split at hl
    · rename_i hcond
      obtain ⟨c1, c2, c3⟩ := hcond
      cases hl
      obtain ⟨n, c1⟩ := Option.isSome_iff_exists.1 c1
      obtain rfl := hx.val
      have := hrunS (ad := none) (len := 0) (cap := 0) (l := 0) (u := 0) c1 ?_ ?_ (by omega) (by omega) (by simp) (by simp)
      · exact ⟨_, he _ this, .of_val _ rfl⟩
      · rcases hlo 0 with ⟨g1, _, _⟩ | ⟨k, m, g1, rfl⟩
        · exact .inl ⟨g1, rfl⟩
        · simp at c2; subst c2; exact .inr ⟨k, g1⟩
      · rcases hhi 0 with ⟨g1, _, _⟩ | ⟨k, m, g1, rfl⟩
        · exact .inl ⟨g1, rfl⟩
        · simp at c3; subst c3; exact .inr ⟨k, g1⟩
    · cases hl
  · cases hl
end
end Go.Proofs.Ytbhkcejjehgfcaa
