/- Abstract values: what a walk knows of a value. Data that nobody writes (seq), and objects of the walk's own (by tags). -/
import Derived.Test.YtbhkcejjehgfcaaDr
namespace Go.Proofs.Ytbhkcejjehgfcaa
open Go.RowKit Go.Sort

/-- A value of one cell: known, or a slice over memory that nobody writes (n cells an element). -/
inductive PV where
  | val (v : Value)
  | seq (n : Nat) (rows : List (List PV))
instance : Inhabited PV := ⟨.val (.bool false)⟩

/-- The value v is as told, in the world w; the blocks of D do not bear it. -/
inductive PR (D : Nat → Prop) (w : World) : PV → Value → Prop where
  | val (v : Value) (h : v.oneCell' = true) : PR D w (.val v) v
  | nil (n : Nat) (a : Option Addr) (cap : Nat) (h0 : a = none → cap = 0) : PR D w (.seq n []) (.slice a 0 cap)
  | seq (n b off cap : Nat) (rows : List (List PV)) (f : Nat → Nat → Value) (hb : b < w.heap.size) (hD : ¬ D b) (hcap : rows.length ≤ cap) (hmax : cap ≤ maxLen)
      (hn : ∀ r ∈ rows, r.length = n)
      (hc : ∀ k r j x, rows[k]? = some r → r[j]? = some x → w.cell? ⟨b, off + k * n + j, none⟩ = some (f k j))
      (hr : ∀ k r j x, rows[k]? = some r → r[j]? = some x → PR D w x (f k j)) : PR D w (.seq n rows) (.slice (some ⟨b, off, none⟩) rows.length cap)

/-- Blocks outside D are as they were. -/
structure Kp (D : Nat → Prop) (w w' : World) : Prop where
  os : w'.os = w.os
  tape : w'.tape = w.tape
  output : w'.output = w.output
  size : w.heap.size ≤ w'.heap.size
  block : ∀ k, k < w.heap.size → ¬ D k → w'.heap[k]? = w.heap[k]?
  drawn : w.drawn ≤ w'.drawn
theorem Kp.refl (D : Nat → Prop) (w : World) : Kp D w w := ⟨rfl, rfl, rfl, Nat.le_refl _, fun _ _ _ => rfl, Nat.le_refl _⟩
theorem Kp.trans {D D1 : Nat → Prop} {a b c : World} (h : Kp D a b) (k : Kp D1 b c) (hD : ∀ x, D1 x → D x ∨ a.heap.size ≤ x) : Kp D a c :=
  ⟨k.os.trans h.os, k.tape.trans h.tape, k.output.trans h.output, Nat.le_trans h.size k.size, fun i hi hn => (k.block i (Nat.lt_of_lt_of_le hi h.size) (fun h1 => (hD i h1).elim hn (fun h2 => by omega))).trans (h.block i hi hn), Nat.le_trans h.drawn k.drawn⟩
theorem Kp.of_below {D : Nat → Prop} {w w' : World} (h : Blw w.heap.size w w') : Kp D w w' := ⟨h.os, h.tape, h.output, h.size, fun k hk _ => h.block k hk, h.drawn⟩
theorem Kp.below {w w' : World} (h : Kp (fun _ => False) w w') : Blw w.heap.size w w' := ⟨⟨h.os, h.tape, h.output, h.size, fun k hk => h.block k hk id⟩, h.drawn⟩
theorem Kp.cell {D : Nat → Prop} {w w' : World} (h : Kp D w w') {b o : Nat} (hb : b < w.heap.size) (hn : ¬ D b) : w'.cell? ⟨b, o, none⟩ = w.cell? ⟨b, o, none⟩ := World.cell?_of_block (w := w) (h.block b hb hn)

theorem PR.one {D : Nat → Prop} {w : World} {x : PV} {v : Value} (h : PR D w x v) : v.oneCell' = true := by
  cases h <;> first | assumption | rfl
theorem PR.mono {D D' : Nat → Prop} {w w' : World} {x : PV} {v : Value} (h : PR D w x v) (hk : Kp D w w') (hD : ∀ k, k < w.heap.size → D' k → D k) : PR D' w' x v := by
  induction h with
  | val v h => exact .val v h
  | nil n a cap h0 => exact .nil n a cap h0
  | seq n b off cap rows f hb hnD hcap hmax hn hc hr ih =>
    exact .seq n b off cap rows f (Nat.lt_of_lt_of_le hb hk.size) (fun h => hnD (hD _ hb h)) hcap hmax hn (fun k r j x h1 h2 => (hk.cell hb hnD).trans (hc k r j x h1 h2)) ih

/-- What a walk knows of a slot. -/
inductive AV where
  | p (x : PV)
  | elt (row : List PV) (off : Nat)
  | ptr (t off : Nat)
  | rptr (t n k off : Nat)
  | own (t : Nat)
  | pre (t m : Nat)
  | cap0
  | fn (f : Fn) (caps : List AV)
  | agg (cs : List AV)
  | tup (cs : List AV)
  | junk
instance : Inhabited AV := ⟨.junk⟩

/-- loc: where the walk's own objects lie; N: a bound of the tags. -/
inductive AR (N : Nat) (D : Nat → Prop) (loc : Nat → Option Value) (w : World) : AV → Value → Prop where
  | p (x : PV) (v : Value) (h : PR D w x v) : AR N D loc w (.p x) v
  | elt (row : List PV) (off b o : Nat) (f : Nat → Value) (hb : b < w.heap.size) (hD : ¬ D b) (hc : ∀ j x, row[j]? = some x → w.cell? ⟨b, o + j, none⟩ = some (f j)) (hr : ∀ j x, row[j]? = some x → PR D w x (f j)) :
      AR N D loc w (.elt row off) (.pointer (some ⟨b, o + off, none⟩))
  | ptr (t off : Nat) (v : Value) (ht : t < N) (h1 : v.oneCell' = true) (h : ∀ b, loc t = some (.pointer (some ⟨b, 0, none⟩)) → v = .pointer (some ⟨b, off, none⟩)) : AR N D loc w (.ptr t off) v
  | rptr (t n k off : Nat) (v : Value) (ht : t < N) (h1 : v.oneCell' = true) (h : ∀ b l c, loc t = some (.slice (some ⟨b, 0, none⟩) l c) → v = .pointer (some ⟨b, k * n + off, none⟩)) : AR N D loc w (.rptr t n k off) v
  | own (t : Nat) (v : Value) (ht : t < N) (h1 : v.oneCell' = true) (h : ∀ u, loc t = some u → v = u) : AR N D loc w (.own t) v
  | pre (t m : Nat) (v : Value) (ht : t < N) (h1 : v.oneCell' = true) (h : ∀ b l c, loc t = some (.slice (some ⟨b, 0, none⟩) l c) → v = .slice (some ⟨b, 0, none⟩) m c) : AR N D loc w (.pre t m) v
  | fn (f : Fn) (caps : List AV) (vs : Array Value) (hl : vs.size = caps.length) (h : ∀ j x, caps[j]? = some x → AR N D loc w x (vs.getD j undef)) : AR N D loc w (.fn f caps) (.func f #[] vs)
  | agg (cs : List AV) (vs : Array Value) (hl : vs.size = cs.length) (h : ∀ j x, cs[j]? = some x → AR N D loc w x (vs.getD j undef)) (h1 : ∀ j, j < vs.size → (vs.getD j undef).oneCell' = true) : AR N D loc w (.agg cs) (.agg vs)
  | tup (cs : List AV) (vs : Array Value) (hl : vs.size = cs.length) (h : ∀ j x, cs[j]? = some x → AR N D loc w x (vs.getD j undef)) : AR N D loc w (.tup cs) (.tuple vs)
  | cap0 (a : Option Addr) (h : ∀ x, a = some x → x.block < w.heap.size ∧ ¬ D x.block ∧ x.spot = none) : AR N D loc w .cap0 (.slice a 0 0)
  | junk (v : Value) : AR N D loc w .junk v

theorem AR.mono {N N' : Nat} {D D' : Nat → Prop} {loc loc' : Nat → Option Value} {w w' : World} {x : AV} {v : Value} (h : AR N D loc w x v) (hN : N ≤ N') (hk : Kp D w w') (hD : ∀ k, k < w.heap.size → D' k → D k)
    (hl : ∀ t u, t < N → loc' t = some u → loc t = some u) : AR N' D' loc' w' x v := by
  induction h with
  | p x v h => exact .p x v (h.mono hk hD)
  | elt row off b o f hb hnD hc hr => exact .elt row off b o f (Nat.lt_of_lt_of_le hb hk.size) (fun h => hnD (hD _ hb h)) (fun j x h1 => (hk.cell hb hnD).trans (hc j x h1)) (fun j x h1 => (hr j x h1).mono hk hD)
  | ptr t off v ht h1 h => exact .ptr t off v (Nat.lt_of_lt_of_le ht hN) h1 (fun b hb => h b (hl t _ ht hb))
  | rptr t n k off v ht h1 h => exact .rptr t n k off v (Nat.lt_of_lt_of_le ht hN) h1 (fun b l c hb => h b l c (hl t _ ht hb))
  | own t v ht h1 h => exact .own t v (Nat.lt_of_lt_of_le ht hN) h1 (fun u hu => h u (hl t u ht hu))
  | pre t m v ht h1 h => exact .pre t m v (Nat.lt_of_lt_of_le ht hN) h1 (fun b l c hu => h b l c (hl t _ ht hu))
  | cap0 a h => exact .cap0 a fun x hx => ⟨Nat.lt_of_lt_of_le (h x hx).1 hk.size, fun hd => (h x hx).2.1 (hD _ (h x hx).1 hd), (h x hx).2.2⟩
  | fn f caps vs hlen _ ih => exact .fn f caps vs hlen ih
  | agg cs vs hlen _ h1 ih => exact .agg cs vs hlen ih h1
  | tup cs vs hlen _ ih => exact .tup cs vs hlen ih
  | junk v => exact .junk v

/-- The tags of a value lie below n. -/
def AV.okB (n : Nat) : AV → Bool
  | .ptr t _ => decide (t < n)
  | .rptr t _ _ _ => decide (t < n)
  | .own t => decide (t < n)
  | .pre t _ => decide (t < n)
  | .fn _ cs => cs.attach.all fun ⟨c, _⟩ => c.okB n
  | .agg cs => cs.attach.all fun ⟨c, _⟩ => c.okB n
  | .tup cs => cs.attach.all fun ⟨c, _⟩ => c.okB n
  | _ => true
theorem AR.low {N n : Nat} {D : Nat → Prop} {loc : Nat → Option Value} {w : World} {x : AV} {v : Value} (h : AR N D loc w x v) (hx : x.okB n = true) : AR n D loc w x v := by
  induction h with
  | p x v h => exact .p x v h
  | elt row off b o f hb hnD hc hr => exact .elt row off b o f hb hnD hc hr
  | ptr t off v ht h1 h => exact .ptr t off v (by simpa [AV.okB] using hx) h1 h
  | rptr t n k off v ht h1 h => exact .rptr t n k off v (by simpa [AV.okB] using hx) h1 h
  | own t v ht h1 h => exact .own t v (by simpa [AV.okB] using hx) h1 h
  | pre t m v ht h1 h => exact .pre t m v (by simpa [AV.okB] using hx) h1 h
  | cap0 a h => exact .cap0 a h
  | fn f caps vs hlen _ ih =>
    simp only [AV.okB, List.all_eq_true, List.mem_attach, forall_const, Subtype.forall] at hx
    exact .fn f caps vs hlen fun j y hy => ih j y hy (hx y (List.mem_of_getElem? hy))
  | agg cs vs hlen _ h1 ih =>
    simp only [AV.okB, List.all_eq_true, List.mem_attach, forall_const, Subtype.forall] at hx
    exact .agg cs vs hlen (fun j y hy => ih j y hy (hx y (List.mem_of_getElem? hy))) h1
  | tup cs vs hlen _ ih =>
    simp only [AV.okB, List.all_eq_true, List.mem_attach, forall_const, Subtype.forall] at hx
    exact .tup cs vs hlen fun j y hy => ih j y hy (hx y (List.mem_of_getElem? hy))
  | junk v => exact .junk v
end Go.Proofs.Ytbhkcejjehgfcaa
