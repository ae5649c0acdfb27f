/- Slices that grow; less is known of a state; a function's beginning and end. -/
import Derived.Test.YtbhkcejjehgfcaaAf
import Derived.Maps.AppendAt
namespace Go.Proofs.Ytbhkcejjehgfcaa
open Go.RowKit Go.Sort

/-- The tag t is forgotten; y stands for its handle. -/
def AV.sub (t : Nat) (y : AV) : AV → AV
  | .own t' => if t' = t then y else .own t'
  | .pre t' m => if t' = t then .junk else .pre t' m
  | .ptr t' k => if t' = t then .junk else .ptr t' k
  | .rptr t' n k j => if t' = t then .junk else .rptr t' n k j
  | .fn f cs => .fn f (cs.attach.map fun ⟨c, _⟩ => AV.sub t y c)
  | .agg cs => .agg (cs.attach.map fun ⟨c, _⟩ => AV.sub t y c)
  | .tup cs => .tup (cs.attach.map fun ⟨c, _⟩ => AV.sub t y c)
  | x => x
theorem AV.sub_fn (t : Nat) (y : AV) (f : Fn) (cs : List AV) : AV.sub t y (.fn f cs) = .fn f (cs.map (AV.sub t y)) := by simp [AV.sub]
theorem AV.sub_agg (t : Nat) (y : AV) (cs : List AV) : AV.sub t y (.agg cs) = .agg (cs.map (AV.sub t y)) := by simp [AV.sub]
theorem AV.sub_tup (t : Nat) (y : AV) (cs : List AV) : AV.sub t y (.tup cs) = .tup (cs.map (AV.sub t y)) := by simp [AV.sub]
theorem AV.okB_fn (n : Nat) (f : Fn) (cs : List AV) : (AV.fn f cs).okB n = cs.all (AV.okB n) := by simp [AV.okB]
theorem AV.okB_agg (n : Nat) (cs : List AV) : (AV.agg cs).okB n = cs.all (AV.okB n) := by simp [AV.okB]
theorem AV.okB_tup (n : Nat) (cs : List AV) : (AV.tup cs).okB n = cs.all (AV.okB n) := by simp [AV.okB]
theorem AR.sub {N N' : Nat} {D D' : Nat → Prop} {loc loc' : Nat → Option Value} {w w' : World} {t : Nat} {y : AV} {x : AV} {v : Value} (h : AR N D loc w x v) (hN : N ≤ N') (hk : Kp D w w') (hD : ∀ k, k < w.heap.size → D' k → D k)
    (hl : ∀ k u, k < N → k ≠ t → loc' k = some u → loc k = some u) (hy : ∀ v, v.oneCell' = true → (∀ u, loc t = some u → v = u) → AR N' D' loc' w' y v) : AR N' D' loc' w' (AV.sub t y x) v := by
  induction h with
  | p x v h => simp only [AV.sub]; exact .p x v (h.mono hk hD)
  | elt row off b o f hb hnD hc hr => simp only [AV.sub]; exact .elt row off b o f (Nat.lt_of_lt_of_le hb hk.size) (fun h => hnD (hD _ hb h)) (fun j x h1 => (hk.cell hb hnD).trans (hc j x h1)) (fun j x h1 => (hr j x h1).mono hk hD)
  | ptr t' off v ht h1 h =>
    simp only [AV.sub]
    split
    · exact .junk _
    · rename_i e; exact .ptr t' off v (Nat.lt_of_lt_of_le ht hN) h1 fun b hb => h b (hl t' _ ht e hb)
  | rptr t' n k j v ht h1 h =>
    simp only [AV.sub]
    split
    · exact .junk _
    · rename_i e; exact .rptr t' n k j v (Nat.lt_of_lt_of_le ht hN) h1 fun b l c hb => h b l c (hl t' _ ht e hb)
  | own t' v ht h1 h =>
    simp only [AV.sub]
    split
    · rename_i e; subst e; exact hy v h1 h
    · rename_i e; exact .own t' v (Nat.lt_of_lt_of_le ht hN) h1 fun u hu => h u (hl t' u ht e hu)
  | pre t' m v ht h1 h =>
    simp only [AV.sub]
    split
    · exact .junk _
    · rename_i e; exact .pre t' m v (Nat.lt_of_lt_of_le ht hN) h1 fun b l c hb => h b l c (hl t' _ ht e hb)
  | fn f caps vs hlen _ ih =>
    rw [AV.sub_fn]
    refine .fn f _ vs (by simpa using hlen) fun j x hx => ?_
    simp only [List.getElem?_map, Option.map_eq_some_iff] at hx
    obtain ⟨c, hc, rfl⟩ := hx
    exact ih j c hc
  | agg cs vs hlen _ h1 ih =>
    rw [AV.sub_agg]
    refine .agg _ vs (by simpa using hlen) (fun j x hx => ?_) h1
    simp only [List.getElem?_map, Option.map_eq_some_iff] at hx
    obtain ⟨c, hc, rfl⟩ := hx
    exact ih j c hc
  | tup cs vs hlen _ ih =>
    rw [AV.sub_tup]
    refine .tup _ vs (by simpa using hlen) fun j x hx => ?_
    simp only [List.getElem?_map, Option.map_eq_some_iff] at hx
    obtain ⟨c, hc, rfl⟩ := hx
    exact ih j c hc
  | cap0 a h => simp only [AV.sub]; exact .cap0 a fun x hx => ⟨Nat.lt_of_lt_of_le (h x hx).1 hk.size, fun hd => (h x hx).2.1 (hD _ (h x hx).1 hd), (h x hx).2.2⟩
  | junk v => simp only [AV.sub]; exact .junk v
def AO.sub (t : Nat) (y : AV) : AO → AO
  | .boxP pin ty cs => .boxP pin ty (cs.map (AV.sub t y))
  | .map pin P k n f => .map pin P k n f
  | .raw u ob => .raw u ob
  | .lrec l sp fr => .lrec l sp (fr.map fun p => (p.1, AV.sub t y p.2))
  | .row e n rows => .row e n rows
theorem lookup_map {α β : Type} (f : α → β) (l : List (Nat × α)) (k : Nat) : (l.map fun p => (p.1, f p.2)).lookup k = (l.lookup k).map f := by
  induction l with
  | nil => rfl
  | cons p r ih =>
    obtain ⟨j, x⟩ := p
    simp only [List.map_cons]
    by_cases e : k = j
    · subst e; rw [lookup_cons_eq, lookup_cons_eq]; rfl
    · rw [lookup_cons_ne e, lookup_cons_ne e, ih]
def ASt.subst (s : ASt) (t : Nat) (y : AV) : ASt := { s with fr := s.fr.map fun p => (p.1, AV.sub t y p.2), hp := s.hp.map fun p => (p.1, p.2.sub t y) }
theorem ASt.get_subst (s : ASt) (t k : Nat) (y : AV) : (s.subst t y).get k = AV.sub t y (s.get k) := by
  simp only [ASt.get, ASt.subst, lookup_map]
  cases s.fr.lookup k <;> simp [AV.sub]
theorem OR.sub {N N' : Nat} {D D' : Nat → Prop} {loc loc' : Nat → Option Value} {w w' : World} {u : Value} {o : AO} {t : Nat} {y : AV} (h : OR N D loc w u o) (hN : N ≤ N') (hk : Kp D w w') (hD : ∀ k, k < w.heap.size → D' k → D k)
    (hl : ∀ k u, k < N → k ≠ t → loc' k = some u → loc k = some u) (hy : ∀ v, v.oneCell' = true → (∀ u, loc t = some u → v = u) → AR N' D' loc' w' y v) (hb : ∀ b, blkOf u = some b → w'.heap[b]? = w.heap[b]?) : OR N' D' loc' w' u (o.sub t y) := by
  cases o with
  | map pin P k n f =>
    obtain ⟨b, D, rfl, ⟨es, ck, h1, h2⟩, h3⟩ := h
    exact ⟨b, D, rfl, ⟨es, ck, (hb b rfl).trans h1, h2⟩, h3⟩
  | raw v ob =>
    obtain ⟨b, rfl, h1, h2⟩ := h
    exact ⟨b, rfl, h1, (hb b h1).trans h2⟩
  | lrec l sp fr =>
    obtain ⟨rfl, tmps, h1, h2, h3⟩ := h
    refine ⟨rfl, tmps, (hb l rfl).trans h1, h2, fun k => ?_⟩
    rw [lookup_map]
    have h4 := h3 k
    cases hf : fr.lookup k with
    | none => exact .junk _
    | some x => rw [hf] at h4; exact h4.sub hN hk hD hl hy
  | boxP pin ty cs =>
    obtain ⟨b, arr, rfl, h1, h2, h3, h4⟩ := h
    refine ⟨b, arr, rfl, (hb b rfl).trans h1, by simpa [AO.sub] using h2, fun j x hx => ?_, h4⟩
    simp only [List.getElem?_map, Option.map_eq_some_iff] at hx
    obtain ⟨c, hc, rfl⟩ := hx
    exact (h3 j c hc).sub hN hk hD hl hy
  | row e n rows =>
    obtain ⟨flat, h1, h2, h3, h4⟩ := h
    refine ⟨flat, own_of_block h1 fun g hg => hb g ?_, h2, fun k r j x hr hx => ?_, h4⟩
    · cases u <;> simp [Value.ownBlock] at hg
      rename_i ad _ _
      cases ad <;> simp at hg
      simp [blkOf, hg]
    · obtain ⟨v, h5, h6⟩ := h3 k r j x hr hx
      exact ⟨v, h5, h6.mono hk hD⟩

/-- A slice as told, its cells one by one. -/
theorem PR.flat {D : Nat → Prop} {w : World} {n : Nat} {ys : List (List PV)} {v : Value} (h : PR D w (.seq n ys) v) : ∃ (ad : Option Addr) (c : Nat) (news : List Value), v = .slice ad ys.length c ∧ (ad = none → c = 0 ∧ ys = []) ∧ news.length = ys.length * n ∧ (∀ a, ad = some a → ∀ (j : Nat) u, news[j]? = some u → w.cell? (a.add j) = some u) ∧ (∀ u ∈ news, u.oneCell' = true) ∧
    (∀ r ∈ ys, r.length = n) ∧ ∀ (k : Nat) r (j : Nat) x, ys[k]? = some r → r[j]? = some x → ∃ v, news[k * n + j]? = some v ∧ PR D w x v := by
  cases h with
  | nil n a cap h0 => exact ⟨a, cap, [], rfl, fun e => ⟨h0 e, rfl⟩, by simp, fun a' e j u hu => (by simp at hu), fun u hu => (by cases hu), fun r hr => (by cases hr), fun k r j x h => (by simp at h)⟩
  | seq n b off cap rows f hb hnD hcap hmax hn hc hr =>
    have hidx : ∀ j, j < ys.length * n → ∃ r x, ys[j / n]? = some r ∧ r[j % n]? = some x := fun j hj => by
      have hn0 : 0 < n := Nat.pos_of_ne_zero fun e => by subst e; simp at hj
      have h1 : j / n < ys.length := Nat.div_lt_of_lt_mul (by rwa [Nat.mul_comm])
      have h2 : j % n < ys[j / n].length := by rw [hn _ (List.getElem_mem h1)]; exact Nat.mod_lt _ hn0
      exact ⟨_, _, List.getElem?_eq_getElem h1, List.getElem?_eq_getElem h2⟩
    refine ⟨some ⟨b, off, none⟩, cap, (List.range (ys.length * n)).map fun j => f (j / n) (j % n), rfl, fun e => (by cases e), by simp, fun a e j u hu => ?_, fun u hu => ?_, hn, fun k r j x hk hx => ?_⟩
    · cases e
      simp only [List.getElem?_map, Option.map_eq_some_iff] at hu
      obtain ⟨j', hj', rfl⟩ := hu
      obtain ⟨hlt, rfl⟩ := List.getElem?_eq_some_iff.1 hj'
      simp only [List.length_range] at hlt
      simp only [List.getElem_range]
      obtain ⟨r, x, h1, h2⟩ := hidx j hlt
      rw [Addr.add_mid, ← hc _ r _ x h1 h2]
      congr 2
      have := Nat.div_add_mod j n
      rw [Nat.mul_comm] at this
      omega
    · obtain ⟨j, hj, rfl⟩ := List.mem_map.1 hu
      obtain ⟨r, x, h1, h2⟩ := hidx j (List.mem_range.1 hj)
      exact (hr _ r _ x h1 h2).one
    · have hkl := (List.getElem?_eq_some_iff.1 hk).1
      have hjl := (List.getElem?_eq_some_iff.1 hx).1
      rw [hn r (List.mem_of_getElem? hk)] at hjl
      have hlt : k * n + j < ys.length * n := by
        have : (k + 1) * n ≤ ys.length * n := Nat.mul_le_mul_right n hkl
        rw [Nat.add_mul] at this
        omega
      refine ⟨f k j, ?_, hr k r j x hk hx⟩
      rw [List.getElem?_map, List.getElem?_range hlt]
      have e1 : (k * n + j) / n = k := by rw [Nat.mul_comm, Nat.mul_add_div (by omega), Nat.div_eq_of_lt hjl]; rfl
      have e2 : (k * n + j) % n = j := by rw [Nat.mul_comm, Nat.mul_add_mod, Nat.mod_eq_of_lt hjl]
      simp [e1, e2]
theorem flat_append {D : Nat → Prop} {w : World} {n : Nat} {rows ys : List (List PV)} {flat news : List Value} (hl : flat.length = rows.length * n) (h1 : ∀ (k : Nat) r (j : Nat) x, rows[k]? = some r → r[j]? = some x → ∃ v, flat[k * n + j]? = some v ∧ PR D w x v)
    (h2 : ∀ (k : Nat) r (j : Nat) x, ys[k]? = some r → r[j]? = some x → ∃ v, news[k * n + j]? = some v ∧ PR D w x v) : ∀ (k : Nat) r (j : Nat) x, (rows ++ ys)[k]? = some r → r[j]? = some x → ∃ v, (flat ++ news)[k * n + j]? = some v ∧ PR D w x v := fun k r j x hk hx => by
  rw [List.getElem?_append] at hk
  split at hk
  · rename_i hlt
    obtain ⟨v, h3, h4⟩ := h1 k r j x hk hx
    exact ⟨v, by rw [List.getElem?_append, if_pos (List.getElem?_eq_some_iff.1 h3).1]; exact h3, h4⟩
  · rename_i hge
    obtain ⟨v, h3, h4⟩ := h2 _ r j x hk hx
    refine ⟨v, ?_, h4⟩
    have : rows.length * n ≤ k * n := Nat.mul_le_mul_right n (by omega)
    rw [List.getElem?_append, if_neg (by omega), hl, ← h3]
    congr 1
    rw [Nat.sub_mul]
    omega

structure ElemTy (P : Program) (t : TypeId) (e n bytes : Nat) : Prop where
  h : ∃ i z, P.underlying t = some (.slice e) ∧ P.info? e = some i ∧ i.zero = some z ∧ i.size = n ∧ i.bytes = bytes ∧ z.cells.size = n ∧ 0 < n
def elemTyB (P : Program) (t : TypeId) : Option (Nat × Nat × Nat) := match P.underlying t with
  | some (.slice e) => match P.info? e with
    | some i => match i.zero with
      | some z => if z.cells.size = i.size ∧ 0 < i.size then some (e, i.size, i.bytes) else none
      | none => none
    | none => none
  | _ => none
theorem elemTy_of {P : Program} {t : TypeId} {e n bytes : Nat} (h : elemTyB P t = some (e, n, bytes)) : ElemTy P t e n bytes := by
  unfold elemTyB at h
  split at h
  · rename_i e' hu
    split at h
    · rename_i i hi
      split at h
      · rename_i z hz
        split at h
        · rename_i hc
          cases h
          exact ⟨i, z, hu, hi, hz, rfl, rfl, hc.1, hc.2⟩
        · cases h
      · cases h
    · cases h
  · cases h
/-- append, as it runs, onto a slice of the walk's own. -/
theorem run_append_seq {P : Program} {t ty : TypeId} {e n bytes : Nat} (ht : ElemTy P t e n bytes) {w : World} {v : Value} {m : Nat} {xs : List Value} (hown : w.ownsRow 0 e n v m xs) {D : Nat → Prop} {ys : List (List PV)} {u : Value} (hu : PR D w (.seq n ys) u)
    (h63 : m + ys.length ≤ maxLen) (hbytes : (m + ys.length) * bytes ≤ 140737488355328) : ∃ (v' : Value) (w' : World) (news : List Value), (Builtin.append_ #[t, t] ty #[v, u]).run P w = .ok v' w' ∧ w'.ownsRow 0 e n v' (m + ys.length) (xs ++ news) ∧ w.grownBy w' v.ownBlock ∧ (v'.ownBlock = v.ownBlock ∨ v'.ownBlock = some w.heap.size) ∧
      (∀ u ∈ news, u.oneCell' = true) ∧ (∀ r ∈ ys, r.length = n) ∧ ∀ (k : Nat) r (j : Nat) x, ys[k]? = some r → r[j]? = some x → ∃ v, news[k * n + j]? = some v ∧ PR D w x v := by
  obtain ⟨i, z, hu', hi, hz, hsz, hby, hzs, hn0⟩ := ht.h
  obtain ⟨ad, c, news, rfl, hnil, hlen, hcell, hone, hrn, hpr⟩ := hu.flat
  cases ad with
  | none =>
    obtain ⟨rfl, rfl⟩ := hnil rfl
    have : news = [] := List.eq_nil_of_length_eq_zero (by simpa using hlen)
    subst this
    exact ⟨v, w, [], run_append_owned_none (P := P) (w := w) 0 t ty e i n hu' hi v m xs hown, by simpa using hown, ⟨rfl, rfl, rfl, Nat.le_refl _, fun _ _ _ => rfl⟩, .inl rfl, hone, hrn, hpr⟩
  | some a =>
    obtain ⟨v', w', hr', h2, h3, _, h5⟩ := run_append_own_at (P := P) w 0 t ty e i z n bytes hu' hi hz hsz hby hzs hn0 v m xs hown a ys.length c news hlen (hcell a rfl) hone h63 hbytes (Nat.zero_le _)
    exact ⟨v', w', news, hr', h2, h3, h5, hone, hrn, hpr⟩
theorem blk_own {v : Value} {b : Nat} (h : v.ownBlock = some b) : blkOf v = some b := by
  cases v <;> simp [Value.ownBlock] at h
  rename_i ad _ _
  cases ad <;> simp at h
  simp [blkOf, h]
theorem own_blk {w : World} {B : Nat} {e : TypeId} {n m : Nat} {v : Value} {xs : List Value} (h : w.ownsRow B e n v m xs) {b : Nat} (hb : blkOf v = some b) : v.ownBlock = some b := by
  rcases h.2 with ⟨rfl, _⟩ | ⟨g, c, cur, rfl, _⟩
  · cases hb
  · exact hb

section
variable {P : Program} {ops : Array Oper} {o : Oper} {s : ASt}
theorem op_append (x y : Operand) (ty tag : Nat) (e n bytes : Nat) (rows ys : List (List PV)) (h : o.op = .call { callee := .builtin .append, args := #[x, y], argTypes := #[ty, ty] }) (hx : s.ev x = .own tag) (hlk : s.hp.lookup tag = some (.row e n rows))
    (ht : elemTyB P ty = some (e, n, bytes)) (hy : s.ev y = .p (.seq n ys)) (h63 : rows.length + ys.length ≤ maxLen) (hbytes : (rows.length + ys.length) * bytes ≤ 140737488355328) (hd : ∀ t, o.dst = some t → t < s.n) :
    OpEff P o s (ASt.put { s.subst tag .junk with hp := setHp (s.subst tag .junk).hp tag (.row e n (rows ++ ys)) } o.dst (.own tag)) := fun L loc a w hr => by
  have h1 := hr.ev x (fun _ _ => trivial)
  have h2 := hr.ev y (fun _ _ => trivial)
  rw [hx] at h1
  rw [hy] at h2
  obtain ⟨htN, u, hu, hor⟩ := hr.hp.at' tag _ hlk
  obtain ⟨flat, hown, hrn, hfl, hone⟩ := hor
  generalize hax : a.eval x = ax at h1
  cases h1 with
  | own _ _ _ _ hv =>
  obtain rfl : u = ax := (hv u hu).symm
  generalize hay : a.eval y = ay at h2
  cases h2 with
  | p _ _ hp =>
  obtain ⟨v', w', news, hrun, hown', hg, hat, hone2, hyn, hpr⟩ := run_append_seq (P := P) (ty := o.type) (elemTy_of ht) hown hp h63 hbytes
  have hblk : ∀ b, blkOf v' = some b → blkOf u = some b ∨ b = w.heap.size := fun b hb => by
    have hb' := own_blk hown' hb
    rcases hat with e' | e'
    · rw [e'] at hb'; exact .inl (blk_own hb')
    · rw [e'] at hb'; cases hb'; exact .inr rfl
  have hDu : ∀ b, u.ownBlock = some b → Dm L loc b := fun b hb => .inr ⟨tag, u, hu, blk_own hb⟩
  have hk : Kp (Dm L loc) w w' := ⟨hg.os, hg.tape, hg.output, hg.size, fun k hk hn => hg.block k hk (fun e => hn (hDu k e.symm)), run_drawn hrun⟩
  have hD : ∀ k, k < w.heap.size → Dm L (setLoc loc tag v') k → Dm L loc k := fun k hk hd => (dm_set hd).elim (fun e => (hblk k e).elim (fun e' => .inr ⟨tag, u, hu, e'⟩) (fun e' => by omega)) id
  have hlc : ∀ k z, k < s.N → k ≠ tag → setLoc loc tag v' k = some z → loc k = some z := fun k z _ hne hz => by rwa [setLoc_other _ _ hne] at hz
  have hrun' : (execOp a.eval o).run P w = .ok (.value v') w' := by
    simp only [execOp, h, resolve, invoke, builtin, Sem.run_bind, Sem.run_pure, Result.andThen_ok, List.map_toArray, List.map_cons, List.map_nil, hax, hay, hrun]
  have hv1 : v'.oneCell' = true := by rcases hown'.2 with ⟨rfl, _⟩ | ⟨g, c, cur, rfl, _⟩ <;> rfl
  unfold Oper.wp
  rw [hrun']
  refine ⟨setLoc loc tag v', ?_, ⟨⟨hg.os, hg.tape, hg.output, hg.size, fun k hk hn => hg.block k hk (fun e => hn (.inr ⟨tag, u, hu, blk_own e.symm⟩)), run_drawn hrun⟩, fun b hb => ?_⟩⟩
  · refine Rel.put' (s := { s.subst tag .junk with hp := setHp (s.subst tag .junk).hp tag (.row e n (rows ++ ys)) }) ⟨hr.defers, hr.size, fun t _ => ?_, ⟨fun t ob ht => ?_, fun t ht => ?_, fun t t' z z' b e1 e2 e3 e4 => ?_, fun b hL => Nat.lt_of_lt_of_le (hr.hp.inL b hL) hg.size, fun t z b e1 e2 hL => ?_⟩⟩ hd (.own tag v' htN hv1 fun z hz => ?_)
    · show AR s.N _ _ _ ((s.subst tag .junk).get t) _
      rw [ASt.get_subst]
      exact (hr.fr t trivial).sub (Nat.le_refl _) hk hD hlc (fun v _ _ => .junk v)
    · change (setHp _ _ _).lookup t = some ob at ht
      rw [setHp_lookup] at ht
      have hm : (s.subst tag .junk).hp.lookup tag = some ((AO.row e n rows).sub tag .junk) := by simp only [ASt.subst, lookup_map, hlk]; rfl
      by_cases e : t = tag
      · subst e
        rw [if_pos rfl, hm] at ht
        cases ht
        refine ⟨htN, v', setLoc_same _ _ _, flat ++ news, by rw [List.length_append]; exact hown', fun r hr' => (List.mem_append.1 hr').elim (hrn r) (hyn r), ?_, fun v hv => (List.mem_append.1 hv).elim (hone v) (hone2 v)⟩
        have := flat_append hown.1 hfl hpr
        exact fun k r j x h1 h2 => let ⟨v, h3, h4⟩ := this k r j x h1 h2; ⟨v, h3, h4.mono hk hD⟩
      · rw [if_neg e] at ht
        simp only [ASt.subst, lookup_map, Option.map_eq_some_iff] at ht
        obtain ⟨ob', hob, rfl⟩ := ht
        obtain ⟨h5, z, h6, h7⟩ := hr.hp.at' t ob' hob
        refine ⟨h5, z, by rw [setLoc_other _ _ e]; exact h6, h7.sub (Nat.le_refl _) hk hD hlc (fun v _ _ => .junk v) (fun b hb => hg.block b (h7.blk_lt hb) (fun e' => ?_))⟩
        exact e (hr.hp.apart t tag z u b h6 hu hb (blk_own e'.symm))
    · change (setHp _ _ _).lookup t = none at ht
      rw [setHp_lookup] at ht
      by_cases e : t = tag
      · subst e; rw [if_pos rfl] at ht; simp [ASt.subst, lookup_map, hlk] at ht
      · rw [if_neg e] at ht
        simp only [ASt.subst, lookup_map, Option.map_eq_none_iff] at ht
        rw [setLoc_other _ _ e]; exact hr.hp.dead t ht
    · by_cases h5 : t = tag
      · by_cases h6 : t' = tag
        · rw [h5, h6]
        · subst h5
          rw [setLoc_same] at e1; cases e1
          rw [setLoc_other _ _ h6] at e2
          rcases hblk b e3 with e5 | e5
          · exact absurd (hr.hp.apart t t' u z' b hu e2 e5 e4).symm h6
          · obtain ⟨o', _, ho'⟩ := hr.hp.loc_obj e2
            have := ho'.blk_lt e4
            omega
      · by_cases h6 : t' = tag
        · subst h6
          rw [setLoc_same] at e2; cases e2
          rw [setLoc_other _ _ h5] at e1
          rcases hblk b e4 with e5 | e5
          · exact absurd (hr.hp.apart t t' z u b e1 hu e3 e5) h5
          · obtain ⟨o', _, ho'⟩ := hr.hp.loc_obj e1
            have := ho'.blk_lt e3
            omega
        · rw [setLoc_other _ _ h5] at e1
          rw [setLoc_other _ _ h6] at e2
          exact hr.hp.apart t t' z z' b e1 e2 e3 e4
    · by_cases h5 : t = tag
      · subst h5
        rw [setLoc_same] at e1; cases e1
        rcases hblk b e2 with e5 | e5
        · exact hr.hp.notL t u b hu e5 hL
        · have := hr.hp.inL b hL; omega
      · rw [setLoc_other _ _ h5] at e1
        exact hr.hp.notL t z b e1 e2 hL
    · rw [setLoc_same] at hz; cases hz; rfl
  · rcases dm_set hb with e' | e'
    · rcases hblk b e' with e5 | e5
      · exact .inl (.inr ⟨tag, u, hu, e5⟩)
      · exact .inr (by omega)
    · exact .inl e'
end
end Go.Proofs.Ytbhkcejjehgfcaa
