/- The branch that insert builds. -/
import Derived.Test.YtmgiojkdcpolfaaPi
import Derived.Test.YtmgiojkdcpolfaaBk
namespace Go.Proofs.Ytmgiojkdcpolfaa
open Go.RowKit Go.Sort Go.Shelf PT

theorem row_avoid {α : Type} {n : Nat} {f : α → List Value} {A : World} {ad : Option Addr} {l : List α} (h : Row n f A ad l) (hn : 0 < n) (hf : ∀ x, (f x).length = n) {row : Option Nat} (hr : ∀ r, row = some r → ∃ o : Obj, A.heap[r]? = some o ∧ o.isCells = false) (hl : 0 < l.length) : ∀ a, ad = some a → some a.block ≠ row := fun a ha e => by
  obtain ⟨b, off, e', _, hc⟩ := h hl
  rw [ha] at e'
  cases e'
  obtain ⟨o, ho, hco⟩ := hr b e.symm
  have h0 := hc 0 hl 0 hn
  have : (f l[0])[0]? = some ((f l[0])[0]'(by rw [hf]; exact hn)) := List.getElem?_eq_getElem _
  rw [this] at h0
  obtain ⟨o', ho', hco'⟩ := cells_of_cell h0
  rw [ho] at ho'
  cases ho'
  rw [hco] at hco'
  cases hco'
theorem Row.keep {α : Type} {n : Nat} {f : α → List Value} {A B : World} {ad : Option Addr} {l : List α} (h : Row n f A ad l) (hn : 0 < n) (hf : ∀ x, (f x).length = n) {row : Option Nat} (hg : A.grownBy B row) (hr : ∀ r, row = some r → ∃ o : Obj, A.heap[r]? = some o ∧ o.isCells = false) : Row n f B ad l := fun h0 =>
  h.grown hg (row_avoid h hn hf hr h0) h0
theorem Lies.keep {W0 A B : World} {t : PT} (h : Lies W0 A t) {row : Option Nat} (hg : A.grownBy B row) (hr : ∀ r, row = some r → ∃ o : Obj, A.heap[r]? = some o ∧ o.isCells = false) : Lies W0 B t := fun n hn =>
  ⟨(h n hn).rd, (h n hn).row.keep (by omega) trC_len hg hr, fun a e => by have := ((h n hn).old a e).lt; have := hg.size; simp only [Old]; omega⟩
theorem block_keep {A B : World} {row : Option Nat} (hg : A.grownBy B row) (hr : ∀ r, row = some r → ∃ o : Obj, A.heap[r]? = some o ∧ o.isCells = false) {k : Nat} {c : Array Value} {t : TypeId} {z : Nat × Nat} (h : A.heap[k]? = some (.cells c t z)) : B.heap[k]? = some (.cells c t z) :=
  (hg.block k (Array.getElem?_eq_some_iff.1 h).1 (fun e => by
    obtain ⟨o, ho, hc⟩ := hr k e.symm
    rw [h] at ho; cases ho; cases hc)).trans h
theorem own_keep {A B : World} {row : Option Nat} {base : Nat} {e : TypeId} {size n : Nat} {v : Value} {xs : List Value} (h : A.ownsRow base e size v n xs) (hg : A.grownBy B row) (hr : ∀ r, row = some r → ∃ o : Obj, A.heap[r]? = some o ∧ o.isCells = false) : B.ownsRow base e size v n xs := by
  refine ⟨h.1, ?_⟩
  rcases h.2 with h0 | ⟨g, cap, cur, e1, e2, hh, rest⟩
  · exact .inl h0
  · exact .inr ⟨g, cap, cur, e1, e2, block_keep hg hr hh, rest⟩
theorem CI.keep {W0 w A B : World} {s : PS} {rb bo : Nat} {v : Value} {cs : List PT} (h : CI W0 w A s rb bo v cs) {row : Option Nat} (hg : A.grownBy B row) (hr : ∀ r, row = some r → w.heap.size ≤ r ∧ ∃ o : Obj, A.heap[r]? = some o ∧ o.isCells = false) : CI W0 w B s rb bo v cs :=
  ⟨below_grown h.below hg h.below.size (fun k hk => (hr k hk).1), own_keep h.own hg (fun r e => (hr r e).2), fun c hc => ⟨(h.lies c hc).1.keep hg (fun r e => (hr r e).2), (h.lies c hc).2⟩, block_keep hg (fun r e => (hr r e).2) h.box, h.low, h.ne, block_keep hg (fun r e => (hr r e).2) h.res, h.rne, h.rnv⟩

/-- The branch's box is apart from all others. -/
structure Apart (w : World) (rb bo bb : Nat) (v : Value) (cs : List PT) : Prop where
  low : w.heap.size ≤ bb
  ne1 : bb ≠ bo
  ne2 : bb ≠ rb
  ne3 : v.ownBlock ≠ some bb
  av : ∀ c ∈ cs, Avoid (some bb) c
  lt1 : bo < bb
  lt2 : rb < bb
  lt3 : ∀ g, v.ownBlock = some g → g < bb
/-- The branch so far. -/
structure BI (W0 w W : World) (s : PS) (rb bo bb : Nat) (v : Value) (cs : List PT) (pre : List PS) (last : PS) : Prop where
  ci : CI W0 w W s rb bo v cs
  br : ∃ bt : PT, W.heap[bb]? = some (.cells (trC bt).toArray 33 (0, 0)) ∧ Lies W0 W bt ∧ Avoid (some bb) bt ∧ Fresh (bb + 1) bt ∧ [sh bt] = chain (pre.reverse ++ [last])
theorem BI.keep {W0 w A B : World} {s : PS} {rb bo bb : Nat} {v : Value} {cs : List PT} {pre : List PS} {last : PS} (h : BI W0 w A s rb bo bb v cs pre last) {row : Option Nat} (hg : A.grownBy B row) (hr : ∀ r, row = some r → w.heap.size ≤ r ∧ ∃ o : Obj, A.heap[r]? = some o ∧ o.isCells = false) : BI W0 w B s rb bo bb v cs pre last := by
  obtain ⟨hci, bt, h1, h2, h3, h4, h5⟩ := h
  exact ⟨hci.keep hg hr, bt, block_keep hg (fun r e => (hr r e).2) h1, h2.keep hg (fun r e => (hr r e).2), h3, h4, h5⟩
def set5 (W : World) (b : Nat) (v0 v1 v2 v3 v4 : Value) : World := ((((W.setCell ⟨b, 0, none⟩ v0).setCell ⟨b, 1, none⟩ v1).setCell ⟨b, 2, none⟩ v2).setCell ⟨b, 3, none⟩ v3).setCell ⟨b, 4, none⟩ v4
theorem grown_set5 (W : World) (b : Nat) (v0 v1 v2 v3 v4 : Value) : W.grownBy (set5 W b v0 v1 v2 v3 v4) (some b) :=
  World.grownBy.trans (World.grownBy.trans (World.grownBy.trans (World.grownBy.trans (grown_set W ⟨b, 0, none⟩ v0) (grown_set _ ⟨b, 1, none⟩ v1)) (grown_set _ ⟨b, 2, none⟩ v2)) (grown_set _ ⟨b, 3, none⟩ v3)) (grown_set _ ⟨b, 4, none⟩ v4)
theorem set5_row {W : World} {b : Nat} {x0 x1 x2 x3 x4 : Value} {t : TypeId} {z : Nat × Nat} (h : W.heap[b]? = some (.cells #[x0, x1, x2, x3, x4] t z)) (v0 v1 v2 v3 v4 : Value) : (set5 W b v0 v1 v2 v3 v4).heap[b]? = some (.cells #[v0, v1, v2, v3, v4] t z) := by
  simp [set5, World.setCell, Array.getElem?_modify, h]
theorem BI.step {W0 w W : World} {s : PS} {rb bo bb : Nat} {v : Value} {cs : List PT} {pre : List PS} {last x : PS} {bt : PT} (hci : CI W0 w W s rb bo v cs) (hap : Apart w rb bo bb v cs) (h1 : W.heap[bb]? = some (.cells (trC bt).toArray 33 (0, 0))) (h2 : Lies W0 W bt) (h3 : Avoid (some bb) bt) (h4 : Fresh (bb + 1) bt) (h5 : [sh bt] = chain (pre.reverse ++ [last])) (hx : Rd W0 x) :
    BI W0 w ((set5 W bb (.int .i64 x.g) (.int .i64 x.c) (.slice x.ga x.gs.length x.gc) (.slice x.ta x.ts.length x.tc) (.slice (some ⟨W.heap.size, 0, none⟩) 1 1)).alloc (.cells (trC bt).toArray 33)) s rb bo bb v cs (pre ++ [x]) last := by
  have hg := grown_set5 W bb (.int .i64 x.g) (.int .i64 x.c) (.slice x.ga x.gs.length x.gc) (.slice x.ta x.ts.length x.tc) (.slice (some ⟨W.heap.size, 0, none⟩) 1 1)
  have hrow := set5_row (h1.trans rfl) (.int .i64 x.g) (.int .i64 x.c) (.slice x.ga x.gs.length x.gc) (.slice x.ta x.ts.length x.tc) (.slice (some ⟨W.heap.size, 0, none⟩) 1 1)
  have hsz : (set5 W bb (.int .i64 x.g) (.int .i64 x.c) (.slice x.ga x.gs.length x.gc) (.slice x.ta x.ts.length x.tc) (.slice (some ⟨W.heap.size, 0, none⟩) 1 1)).heap.size = W.heap.size := by simp [set5]
  have hlt := (Array.getElem?_eq_some_iff.1 h1).1
  generalize set5 W bb (.int .i64 x.g) (.int .i64 x.c) (.slice x.ga x.gs.length x.gc) (.slice x.ta x.ts.length x.tc) (.slice (some ⟨W.heap.size, 0, none⟩) 1 1) = V at *
  have hbel : Below V.heap.size V (V.alloc (.cells (trC bt).toArray 33)) := (Below.refl _ _).alloc (Nat.le_refl _) _
  have hV := (hci.other hg hap.low hap.ne1 hap.ne2 hap.ne3 hap.av).below' hbel
  refine ⟨hV, .mk x (some ⟨W.heap.size, 0, none⟩) 1 [bt], ?_, ?_, ?_, ?_, ?_⟩
  · rw [heap_alloc_past' _ _ _ (show Old _ _ by simp only [Old]; omega)]; exact hrow
  · refine Lies.mk' hx (Row.of_block trC_len (heap_alloc_at' V _ _ hsz.symm) (by simp)) (fun a ha => by cases ha; simp [Old]; omega) (fun k hk => ?_)
    rw [List.mem_singleton.1 hk]
    exact (h2.grown hg h3).below hbel
  · intro n hn a ha he
    rcases mem_nodes.1 hn with rfl | ⟨k, hk1, hk2⟩
    · cases ha; simp at he; omega
    · rw [List.mem_singleton.1 hk1] at hk2
      exact h3 n hk2 a ha he
  · refine Fresh.mk' (fun a ha => by cases ha; exact hlt) (fun k hk => ?_)
    rw [List.mem_singleton.1 hk]
    exact h4
  · rw [sh_eq]
    simp only [PT.s, PT.ks, List.map_singleton, List.reverse_append, List.cons_append, List.reverse_cons, List.reverse_nil, List.nil_append, chain]
    rw [← h5]

theorem backward_any (w : World) (ad : Option Addr) (n c : Nat) : Calls Try.prog 64 #[.slice ad n c] w fun e w' => e = .returned (.func (.func 86) #[] #[.pointer (some ⟨w.heap.size, 0, none⟩)]) ∧ w' = w.alloc (.cells #[.slice ad n c] 41) := by
  go_enter Try.func64, Try.ntmps64
  go_wp2
  go_ret
  exact ⟨rfl, rfl⟩

theorem bi_start {W0 w W : World} {s : PS} {rb bo : Nat} {v : Value} {cs : List PT} {y : PS} (h : CI W0 w W s rb bo v cs) (hy : Rd W0 y) :
    Apart w rb bo W.heap.size v cs ∧ BI W0 w (W.alloc (.cells #[.int .i64 y.g, .int .i64 y.c, .slice y.ga y.gs.length y.gc, .slice y.ta y.ts.length y.tc, .slice none 0 0] 33)) s rb bo W.heap.size v cs [] y := by
  have hbo := (Array.getElem?_eq_some_iff.1 h.box).1
  have hrb := (Array.getElem?_eq_some_iff.1 h.res).1
  refine ⟨⟨h.below.size, by omega, by omega, fun e => by have := (h.own.lt _ e).2; omega, fun c hc => Avoid.of_lies (h.lies c hc).1 (Nat.le_refl _), hbo, hrb, fun g e => (h.own.lt g e).2⟩, h.below' ((Below.refl _ _).alloc (Nat.le_refl _) _), .mk y none 0 [], heap_alloc_at' _ _ _ rfl, ?_, ?_, ?_, ?_⟩
  · exact Lies.mk' hy (Row.nil _) (fun a ha => by cases ha) (fun k hk => by cases hk)
  · intro n hn a ha
    rcases mem_nodes.1 hn with rfl | ⟨k, hk, _⟩
    · cases ha
    · cases hk
  · exact Fresh.mk' (fun a ha => by cases ha) (fun k hk => by cases hk)
  · rw [sh_eq]; rfl

theorem BI.app {W0 w W w5 : World} {s : PS} {rb bo bb : Nat} {v v' : Value} {cs : List PT} {bt : PT} (hci : CI W0 w W s rb bo v cs) (hap : Apart w rb bo bb v cs) (h2 : Lies W0 W bt) (h4 : Fresh (bb + 1) bt)
    (hown : w5.ownsRow w.heap.size 33 5 v' (cs.length + 1) (cs.flatMap trC ++ trC bt)) (hg : (W.alloc (.cells (trC bt).toArray 33)).grownBy w5 v.ownBlock) (hat : v'.ownBlock = v.ownBlock ∨ v'.ownBlock = some (W.alloc (.cells (trC bt).toArray 33)).heap.size) :
    CI W0 w (w5.setCell ⟨bo, 4, none⟩ v') s rb bo v' (cs ++ [bt]) := by
  refine hci.app' ((Below.refl _ _).alloc (Nat.le_refl _) _) (h2.below ((Below.refl _ _).alloc (Nat.le_refl _) _)) (h4.mono (by have := hap.low; omega)) ?_ (Avoid.of_fresh h4 (by have := hap.lt1; omega)) (Avoid.of_fresh h4 (by have := hap.lt2; omega)) hown hg hat
  cases e : v.ownBlock with
  | none => exact Avoid.none' _
  | some g => exact Avoid.of_fresh h4 (by have := hap.lt3 g e; omega)
theorem ins_put {W0 w W : World} {t : T} {v : Value} {D : Nat} {o o' : Obj} (h : InsPost W0 t w (.returned v) W) (hD : w.heap.size ≤ D) (ho : W.heap[D]? = some o) (hc : o.isCells = false) : InsPost W0 t w (.returned v) (W.putObj D o') := by
  obtain ⟨t', p, h1, h2, h3, h4, h5⟩ := h
  have hg := grownBy_putObj' W D o'
  have hr : ∀ r, some D = some r → ∃ o : Obj, W.heap[r]? = some o ∧ o.isCells = false := fun r e => by cases e; exact ⟨o, ho, hc⟩
  have hb : Below w.heap.size w W := by rw [h2]; exact gw_below _ _
  obtain ⟨q, hq⟩ := gw_of_below (below_grown hb hg hb.size (fun k e => by cases e; exact hD))
  exact ⟨t', q, h1, hq, h3, h4.keep hg hr, h5⟩
theorem take_last {l : List PS} {y : PS} (h : l[l.length - 1]? = some y) : l.take (l.length - 1) ++ [y] = l := by
  obtain ⟨hlt, he⟩ := List.getElem?_eq_some_iff.1 h
  have h1 := List.take_append_drop (l.length - 1) l
  rw [List.drop_eq_getElem_cons hlt, he, show l.length - 1 + 1 = l.length by omega, List.drop_length] at h1
  exact h1
theorem results_c {fn : Func} {a : Tmp} {ty : TypeId} (h : fn.results = #[.cell a ty]) (tmps : Array Value) (P : Program) (w : World) (p : Addr) (hp : tmps.getD a undef = .pointer (some p)) (x : Value) (hl : (loadVar ty p).run P w = .ok x w) :
    (results fn tmps).run P w = .ok x w := by
  have hp' : tmps[a]?.getD undef = .pointer (some p) := by simpa using hp
  simp [results, h, hp', asAddr, hl]

end Go.Proofs.Ytmgiojkdcpolfaa
