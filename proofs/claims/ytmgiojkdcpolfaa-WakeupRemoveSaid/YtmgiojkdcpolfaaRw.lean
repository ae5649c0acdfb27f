/- Rows of entries: as a row of one's own, cut, appended. -/
import Derived.Test.YtmgiojkdcpolfaaVt
import Derived.Maps.AppendAt
import Derived.Laws.AppendOwnNone
import Derived.Lib.AppendZerosOnto
import Derived.Laws.NewBlocks
namespace Go.Proofs.Ytmgiojkdcpolfaa
open Go.RowKit Go.Sort

theorem add_mk (b off j : Nat) : (⟨b, off, none⟩ : Addr).add j = ⟨b, off + j, none⟩ := by
  unfold Addr.add
  split
  · rename_i h; subst h; rfl
  · rfl
section
variable {α : Type} {n : Nat} {f : α → List Value} {w w' : World} {ad : Option Addr} {l : List α}
theorem flat_len (hf : ∀ x, (f x).length = n) (l : List α) : (l.flatMap f).length = l.length * n := by
  induction l with
  | nil => simp
  | cons e r ih => simp [List.flatMap_cons, ih, hf, Nat.add_mul]; omega
theorem flat_get (hf : ∀ x, (f x).length = n) : ∀ (l : List α) (k : Nat) (hk : k < l.length) (i : Nat), i < n → (l.flatMap f)[k * n + i]? = (f l[k])[i]?
  | e :: r, 0, _, i, hi => by
    simp only [List.flatMap_cons, Nat.zero_mul, Nat.zero_add, List.getElem_cons_zero]
    rw [List.getElem?_append_left (by rw [hf]; exact hi)]
  | e :: r, k + 1, hk, i, hi => by
    have := flat_get hf r k (by simpa using hk) i hi
    simp only [List.flatMap_cons, List.getElem_cons_succ] at this ⊢
    rw [List.getElem?_append_right (by rw [hf, Nat.add_mul]; omega), show (k + 1) * n + i - (f e).length = k * n + i by rw [hf, Nat.add_mul]; omega]
    exact this
theorem Row.cells (hf : ∀ x, (f x).length = n) (h : Row n f w ad l) : ∀ a, ad = some a → ∀ (j : Nat) u, (l.flatMap f)[j]? = some u → w.cell? (a.add j) = some u := by
  intro a ha j u hu
  have hj := (List.getElem?_eq_some_iff.1 hu).1
  rw [flat_len hf] at hj
  have hn : 0 < n := by
    rcases Nat.eq_zero_or_pos n with h0 | h0
    · rw [h0] at hj; omega
    · exact h0
  have hl : 0 < l.length := by
    rcases Nat.eq_zero_or_pos l.length with h0 | h0
    · rw [h0] at hj; omega
    · exact h0
  obtain ⟨b, off, e, _, hc⟩ := h hl
  rw [ha] at e
  cases e
  have hd : j / n * n + j % n = j := by rw [Nat.mul_comm]; exact Nat.div_add_mod j n
  have hk : j / n < l.length := (Nat.div_lt_iff_lt_mul hn).2 hj
  have hi : j % n < n := Nat.mod_lt _ hn
  have h1 := flat_get hf l (j / n) hk (j % n) hi
  rw [hd, hu] at h1
  rw [add_mk, ← hd, ← Nat.add_assoc, hc _ hk _ hi, h1]
theorem own_val {B : Nat} {e : TypeId} {size n : Nat} {v : Value} {xs : List Value} (h : w.ownsRow B e size v n xs) : ∃ ad cap, v = .slice ad n cap ∧ n ≤ cap ∧ cap ≤ maxLen := by
  rcases h.2 with ⟨rfl, h0⟩ | ⟨g, cap, cur, rfl, _, _, h1, h2, _⟩
  · subst h0; exact ⟨none, 0, rfl, Nat.le_refl _, by simp [maxLen]⟩
  · exact ⟨_, _, rfl, h1, h2⟩
theorem row_own (hf : ∀ x, (f x).length = n) {B : Nat} {T : TypeId} {cap m : Nat} (h : w.ownsRow B T n (.slice ad m cap) m (l.flatMap f)) (hm : m = l.length) : Row n f w ad l := fun h0 => by
  have h' := h
  rcases h.2 with ⟨e, e0⟩ | ⟨g, cap, cur, e, _, hg, _⟩
  · omega
  · cases e
    refine ⟨g, 0, rfl, (Array.getElem?_eq_some_iff.1 hg).1, fun k hk i hi => ?_⟩
    have e := flat_get hf l k hk i hi
    rw [Nat.zero_add]
    cases hu : (f l[k])[i]? with
    | none => rw [List.getElem?_eq_none_iff, hf] at hu; omega
    | some u => exact own_cell h' (e.trans hu)
theorem Row.take (h : Row n f w ad l) (k : Nat) : Row n f w ad (l.take k) := fun h0 => by
  obtain ⟨b, off, e, ho, hc⟩ := h (by rw [List.length_take] at h0; omega)
  refine ⟨b, off, e, ho, fun j hj i hi => ?_⟩
  rw [hc j (by rw [List.length_take] at hj; omega) i hi, List.getElem_take]
theorem Row.drop (h : Row n f w ad l) (k : Nat) {cap : Nat} (hc : l.length ≤ cap) : Row n f w (if cap = k then ad else ad.map (·.add (k * n))) (l.drop k) := fun h0 => by
  rw [List.length_drop] at h0
  obtain ⟨b, off, rfl, ho, hcl⟩ := h (by omega)
  rw [if_neg (by omega)]
  refine ⟨b, off + k * n, by simp [add_mk], ho, fun j hj i hi => ?_⟩
  rw [List.getElem_drop, ← hcl (k + j) (by rw [List.length_drop] at hj; omega) i hi]
  congr 2
  rw [Nat.add_mul]; omega
theorem Row.nil (ad : Option Addr) : Row n f w ad ([] : List α) := fun h => absurd h (by simp)
theorem Row.of_block {b : Nat} {cs : Array Value} {t : TypeId} {fr : Nat × Nat} (hf : ∀ x, (f x).length = n) (h : w.heap[b]? = some (.cells cs t fr)) (hcs : cs.toList = l.flatMap f) : Row n f w (some ⟨b, 0, none⟩) l := fun _ => by
  refine ⟨b, 0, rfl, (Array.getElem?_eq_some_iff.1 h).1, fun k hk i hi => ?_⟩
  rw [Nat.zero_add, row_cells h, ← flat_get hf l k hk i hi, ← hcs, Array.getElem?_toList]
theorem Row.other (h : Row n f w ad l) (hw : ∀ b off, ad = some ⟨b, off, none⟩ → w'.heap[b]? = w.heap[b]?) : Row n f w' ad l := fun h0 => by
  obtain ⟨b, off, e, ho, hc⟩ := h h0
  have hb := hw b off e
  refine ⟨b, off, e, ?_, fun k hk i hi => (World.cell?_of_block (a := ⟨b, off + k * n + i, none⟩) hb).trans (hc k hk i hi)⟩
  have h1 : w.heap[b]? = some (w.heap[b]'ho) := Array.getElem?_eq_getElem ho
  rw [h1] at hb
  exact (Array.getElem?_eq_some_iff.1 hb).1

theorem run_append_row (w : World) {P : Program} (base : Nat) (t ty e : TypeId) (i : TypeInfo) (z : Value) (n bytes : Nat) (ht : P.underlying t = some (.slice e)) (hi : P.info? e = some i) (hz : i.zero = some z)
    (hsize : i.size = n) (hby : i.bytes = bytes) (hzs : z.cells.size = n) (hsz : 0 < n) (hf : ∀ x, (f x).length = n)
    (v : Value) (m : Nat) (xs : List Value) (hown : w.ownsRow base e n v m xs) (ad : Option Addr) (c : Nat) (l : List α) (hnil : ad = none → c = 0) (hr : Row n f w ad l) (h1 : ∀ x, ∀ u ∈ f x, u.oneCell' = true)
    (h63 : m + l.length ≤ maxLen) (hbytes : (m + l.length) * bytes ≤ 140737488355328) (hbase : base ≤ w.heap.size) :
    ∃ v' w', (Builtin.append_ #[t, t] ty #[v, .slice ad l.length c]).run P w = .ok v' w' ∧ w'.ownsRow base e n v' (m + l.length) (xs ++ l.flatMap f) ∧ w.grownBy w' v.ownBlock ∧ (v'.ownBlock = v.ownBlock ∨ v'.ownBlock = some w.heap.size) := by
  cases ad with
  | none =>
    have h0 : l = [] := List.length_eq_zero_iff.1 (Nat.eq_zero_of_not_pos fun h => by obtain ⟨_, _, e, _⟩ := hr h; cases e)
    subst h0
    obtain rfl := hnil rfl
    exact ⟨v, w, run_append_owned_none (P := P) (w := w) base t ty e i n ht hi v m xs hown, by simpa using hown, ⟨rfl, rfl, rfl, Nat.le_refl _, fun _ _ _ => rfl⟩, .inl rfl⟩
  | some a =>
    obtain ⟨v', w', hr', h2, h3, _, h5⟩ := run_append_own_at (P := P) w base t ty e i z n bytes ht hi hz hsize hby hzs hsz v m xs hown a l.length c (l.flatMap f) (flat_len hf l) (hr.cells hf a rfl)
      (fun u hu => by obtain ⟨x, _, hx⟩ := List.mem_flatMap.1 hu; exact h1 x u hx) h63 hbytes hbase
    exact ⟨v', w', hr', h2, h3, h5⟩

theorem wpList_append_row {P : Program} {w : World} {ops : Array Oper} {rest : List Oper} {o : Oper} {a : Act} {Q : Exit → Act → World → Prop} (hgd : o.guard = none) (s x : Operand) (t : TypeId)
    (ho : o.op = .call { callee := .builtin .append, args := #[s, x], argTypes := #[t, t] })
    (base : Nat) (e : TypeId) (i : TypeInfo) (z : Value) (n bytes : Nat) (ht : P.underlying t = some (.slice e)) (hi : P.info? e = some i) (hz : i.zero = some z)
    (hsize : i.size = n) (hby : i.bytes = bytes) (hzs : z.cells.size = n) (hsz : 0 < n) (hf : ∀ x, (f x).length = n) (h1 : ∀ x, ∀ u ∈ f x, u.oneCell' = true)
    (v : Value) (m : Nat) (xs : List Value) (hs : a.eval s = v) (hown : w.ownsRow base e n v m xs) (ad : Option Addr) (c : Nat) (l : List α) (hnil : ad = none → c = 0) (hx : a.eval x = .slice ad l.length c) (hr : Row n f w ad l)
    (h63 : m + l.length ≤ maxLen) (hbytes : (m + l.length) * bytes ≤ 140737488355328) (hbase : base ≤ w.heap.size)
    (h : ∀ v' w', w'.ownsRow base e n v' (m + l.length) (xs ++ l.flatMap f) → w.grownBy w' v.ownBlock → (v'.ownBlock = v.ownBlock ∨ v'.ownBlock = some w.heap.size) → wpList P ops Q rest (a.put o.dst v') w') : wpList P ops Q (o :: rest) a w := by
  refine wpList_plain hgd fun K hK => ?_
  obtain ⟨v', w', hrun, h2, h3, h5⟩ := run_append_row w base t o.type e i z n bytes ht hi hz hsize hby hzs hsz hf v m xs hown ad c l hnil hr h1 h63 hbytes hbase
  unfold Oper.wp execOp
  simp only [ho, resolve, invoke, builtin, Sem.run_bind, Sem.run_pure, Result.andThen_ok, List.map_toArray, List.map_cons, List.map_nil, hs, hx, hrun]
  exact hK _ _ (h v' w' h2 h3 h5)
end

theorem info_of {T : TypeId} {n bytes : Nat} (h : (Try.prog.info? T).map (fun i => (i.zero.map (fun z => z.cells.size), i.size, i.bytes)) = some (some n, n, bytes)) :
    ∃ (i : TypeInfo) (z : Value), Hid (Try.prog.info? T = some i ∧ i.zero = some z ∧ i.size = n ∧ i.bytes = bytes ∧ z.cells.size = n) := by
  cases hi : Try.prog.info? T with
  | none => rw [hi] at h; cases h
  | some i =>
    rw [hi] at h
    simp only [Option.map_some, Option.some.injEq, Prod.mk.injEq] at h
    obtain ⟨h1, h2, h3⟩ := h
    cases hz : i.zero with
    | none => rw [hz] at h1; cases h1
    | some z =>
      rw [hz] at h1
      simp only [Option.map_some, Option.some.injEq] at h1
      exact ⟨i, z, Lib.hid ⟨rfl, hz, h2, h3, h1⟩⟩
theorem step_info : ∃ (i : TypeInfo) (z : Value), Hid (Try.prog.info? 30 = some i ∧ i.zero = some z ∧ i.size = 4 ∧ i.bytes = 64 ∧ z.cells.size = 4) := info_of (by kernel_rfl)
theorem stC_len (p : PS) : (stC p).length = 4 := rfl
theorem stC_one (p : PS) : ∀ u ∈ stC p, u.oneCell' = true := by
  intro u hu
  simp at hu
  rcases hu with rfl | rfl | rfl | rfl <;> rfl

/-- A list of steps: its row, and the rows of its steps. -/
structure Sts (w : World) (ad : Option Addr) (l : List PS) : Prop where
  row : Row 4 stC w ad l
  rd : ∀ p ∈ l, Rd w p
theorem Sts.gw {w : World} {ad : Option Addr} {l : List PS} (h : Sts w ad l) (q : Regrown) : Sts (gw w q) ad l := ⟨h.row.gw q, fun p hp => (h.rd p hp).gw q⟩
theorem Sts.below {w w' : World} {ad : Option Addr} {l : List PS} (h : Sts w ad l) (hb : Below w.heap.size w w') : Sts w' ad l := ⟨h.row.below hb, fun p hp => (h.rd p hp).below hb⟩
theorem Sts.at {w : World} {ad : Option Addr} {l : List PS} (h : Sts w ad l) {k : Nat} {x : PS} (hk : l[k]? = some x) : Rd w x := h.rd x (List.mem_of_getElem? hk)
theorem Sts.take {w : World} {ad : Option Addr} {l : List PS} (h : Sts w ad l) (k : Nat) : Sts w ad (l.take k) := ⟨h.row.take k, fun p hp => h.rd p (List.mem_of_mem_take hp)⟩
theorem Sts.drop {w : World} {ad : Option Addr} {l : List PS} (h : Sts w ad l) (k : Nat) {cap : Nat} (hc : l.length ≤ cap) : Sts w (if cap = k then ad else ad.map (·.add (k * 4))) (l.drop k) := ⟨h.row.drop k hc, fun p hp => h.rd p (List.mem_of_mem_drop hp)⟩

end Go.Proofs.Ytmgiojkdcpolfaa
