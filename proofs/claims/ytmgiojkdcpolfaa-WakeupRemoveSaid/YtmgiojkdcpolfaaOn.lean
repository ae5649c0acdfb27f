/- Steps as they come in. -/
import Derived.Test.YtmgiojkdcpolfaaPh
import Derived.Test.YtmgiojkdcpolfaaLaw
import Derived.OpenShut
namespace Go.Proofs.Ytmgiojkdcpolfaa
open Go.RowKit Go.Sort Go.ChangeShapes Go.WideShapes Go.ChangeAt

set_option maxRecDepth 100000
variable {H : Type} {enc : TypeId × Value → H} {W : World} {base : Nat} {spare : Nat → Bool} {held : Bool}
theorem split2 {α : Type} (cs : List α) {a b : Nat} (h : cs.length = a + b) : cs = (cs.drop 0).take a ++ (cs.drop a).take b := by
  rw [List.drop_zero, List.take_of_length_le (l := cs.drop a) (by simp; omega), List.take_append_drop]
theorem split3 {α : Type} (cs : List α) {a b c : Nat} (h : cs.length = a + b + c) : cs = (cs.drop 0).take a ++ (cs.drop a).take b ++ (cs.drop (a + b)).take c := by
  rw [List.drop_zero, List.take_of_length_le (l := cs.drop (a + b)) (by simp; omega)]
  rw [List.append_assoc, ← List.drop_drop, List.take_append_drop, List.take_append_drop]
theorem split4 {α : Type} (cs : List α) (h : cs.length = 4) : cs = (cs.drop 0).take 1 ++ (cs.drop 1).take 1 ++ (cs.drop 2).take 1 ++ (cs.drop 3).take 1 := by
  match cs, h with
  | [a, b, c, d], _ => rfl
theorem one_int {n : Nat} {cs : List Value} {y : DataW H × List MemPlace} (h : DataW.trod enc Try.prog W base spare held n 3 cs = some y) : ∃ x : Int, cs = [.int .i64 x] ∧ -9223372036854775808 ≤ x ∧ x ≤ 9223372036854775807 := by
  obtain ⟨x, hx, _, wx⟩ := DataW.trod_int (by kernel_rfl : Try.prog.underlying 3 = some (.int .i64)) h
  refine ⟨x, hx, ?_⟩
  simp [Lit.wf, IntKind.min, IntKind.max, IntKind.bits, IntKind.signed] at wx
  omega
theorem one_bool {n : Nat} {cs : List Value} {y : DataW H × List MemPlace} (h : DataW.trod enc Try.prog W base spare held n 4 cs = some y) : ∃ x, cs = [.bool x] := by
  obtain ⟨x, hx, _⟩ := DataW.trod_bool (by kernel_rfl : Try.prog.underlying 4 = some .bool) h
  exact ⟨x, hx⟩
theorem pick_of {n : Nat} {cs : List Value} {y : DataW H × List MemPlace} (h : DataW.trod enc Try.prog W base spare held n 26 cs = some y) : ∃ o f : Int, cs = [.int .i64 o, .int .i64 f] := by
  obtain ⟨xs, m, _, _, hl, hx, hf⟩ := DataW.trod_struct (P := Try.prog) (t := 26) rfl h
  have hx' : xs.length = 2 := hx
  have f0 := hf 0 _ rfl
  have f1 := hf 1 _ rfl
  rw [List.getElem?_eq_getElem (by omega)] at f0 f1
  obtain ⟨o, e0, _⟩ := one_int f0
  obtain ⟨f, e1, _⟩ := one_int f1
  have hc : Try.prog.cellsOf 3 = 1 := by kernel_rfl
  have hcl : Try.prog.cellsOf 26 = 2 := by kernel_rfl
  rw [hcl] at hl
  have hs := split2 cs (a := 1) (b := 1) hl
  refine ⟨o, f, ?_⟩
  rw [hs]
  change (cs.drop 0).take (Try.prog.cellsOf 3) = _ at e0
  rw [hc] at e0
  change (cs.drop 1).take (Try.prog.cellsOf 3) = _ at e1
  rw [hc] at e1
  rw [e0, e1]; rfl
theorem touch_of {n : Nat} {cs : List Value} {y : DataW H × List MemPlace} (h : DataW.trod enc Try.prog W base spare held n 70 cs = some y) : ∃ x : Tch, cs = tchC x := by
  obtain ⟨xs, m, _, _, hl, hx, hf⟩ := DataW.trod_struct (P := Try.prog) (t := 70) rfl h
  have hx' : xs.length = 4 := hx
  have f0 := hf 0 _ rfl
  have f1 := hf 1 _ rfl
  have f2 := hf 2 _ rfl
  have f3 := hf 3 _ rfl
  rw [List.getElem?_eq_getElem (by omega)] at f0 f1 f2 f3
  obtain ⟨a, e0, _⟩ := one_int f0
  obtain ⟨b, e1, _⟩ := one_int f1
  obtain ⟨c, e2, _⟩ := one_int f2
  obtain ⟨d, e3⟩ := one_bool f3
  have hc : Try.prog.cellsOf 3 = 1 := by kernel_rfl
  have hb : Try.prog.cellsOf 4 = 1 := by kernel_rfl
  have hcl : Try.prog.cellsOf 70 = 4 := by kernel_rfl
  rw [hcl] at hl
  have hs := split4 cs hl
  refine ⟨(a, b, c, d), ?_⟩
  rw [hs]
  change (cs.drop 0).take (Try.prog.cellsOf 3) = _ at e0
  rw [hc] at e0
  change (cs.drop 1).take (Try.prog.cellsOf 3) = _ at e1
  rw [hc] at e1
  change (cs.drop 2).take (Try.prog.cellsOf 3) = _ at e2
  rw [hc] at e2
  change (cs.drop 3).take (Try.prog.cellsOf 4) = _ at e3
  rw [hb] at e3
  rw [e0, e1, e2, e3]; rfl

/-- A slice, whose elements are known. -/
theorem sl_of {α : Type} {n : Nat} {f : α → List Value} {Q : α → Prop} {e t : TypeId} (hu : Try.prog.underlying t = some (.slice e)) (hc : Try.prog.cellsOf e = n) (hf : ∀ x, (f x).length = n) (hn : 0 < n)
    (hel : ∀ m cs y, DataW.trod enc Try.prog W base spare held m e cs = some y → ∃ x, cs = f x ∧ Q x) {m : Nat} {cs : List Value} {y : DataW H × List MemPlace} (h : DataW.trod enc Try.prog W base spare held m t cs = some y) :
    ∃ (ad : Option Addr) (L : List α) (cap : Nat), cs = [.slice ad L.length cap] ∧ Row n f W ad L ∧ L.length ≤ cap ∧ (ad = none → cap = 0) ∧ ∀ x ∈ L, Q x := by
  rcases DataW.trod_slice hu h with ⟨h0, _⟩ | ⟨a, len, cap, elems, rest, k, _, hcs, _, _, hlc, _, hlen, hel', _⟩
  · exact ⟨none, [], 0, h0, Row.nil _, Nat.le_refl _, fun _ => rfl, fun _ h => absurd h (by simp)⟩
  · have hall : ∀ i, i < len → ∃ x : α, (∀ j, j < n → W.cell? ((a.add (i * n)).add j) = (f x)[j]?) ∧ Q x := fun i hi => by
      have hE := hel' i hi
      rw [List.getElem?_eq_getElem (by omega), Option.bind_eq_some_iff, hc] at hE
      obtain ⟨cs, hcs, hy⟩ := hE
      obtain ⟨_, hl, hat⟩ := World.cells?_some hcs
      obtain ⟨x, rfl, hq⟩ := hel _ _ _ hy
      exact ⟨x, fun j hj => hat j hj, hq⟩
    by_cases h0 : 0 < len
    · obtain ⟨e0, hc0, _⟩ := hall 0 h0
      have hc00 := hc0 0 hn
      obtain ⟨b, off, spot⟩ := a
      rw [List.getElem?_eq_getElem (by rw [hf]; exact hn)] at hc00
      have hspot : spot = none := by
        have := World.cell?_spot hc00
        simpa [Addr.add] using this
      subst hspot
      have hall2 : ∀ i, i < len → ∃ x : α, (∀ j, j < n → W.cell? ⟨b, off + i * n + j, none⟩ = (f x)[j]?) ∧ Q x := fun i hi => by
        obtain ⟨x, h1, h2⟩ := hall i hi
        refine ⟨x, fun j hj => ?_, h2⟩
        have := h1 j hj
        rw [Go.WideShapes.add_plain, Go.WideShapes.add_plain] at this
        exact this
      have hOld : Old b W := by
        obtain ⟨x, h1, _⟩ := hall2 0 h0
        have := h1 0 hn
        rw [List.getElem?_eq_getElem (by rw [hf]; exact hn)] at this
        exact Old.of_cell this
      refine ⟨some ⟨b, off, none⟩, (List.finRange len).map fun i => (hall2 i.1 i.2).choose, cap, by rw [hcs]; simp, fun _ => ⟨b, off, rfl, hOld, fun k hk i hi => ?_⟩, by simpa using hlc, fun h => (by cases h), fun x hx => ?_⟩
      · have hk' : k < len := by simpa using hk
        have hs := (hall2 k hk').choose_spec.1 i hi
        simpa using hs
      · obtain ⟨i, _, rfl⟩ := List.mem_map.1 hx
        exact (hall2 i.1 i.2).choose_spec.2
    · obtain rfl : len = 0 := by omega
      exact ⟨some a, [], cap, hcs, Row.nil _, Nat.zero_le _, fun h => (by cases h), fun _ h => absurd h (by simp)⟩

/-- The rows of a step, whatever their lengths. -/
def RdU (W : World) (p : PS) : Prop := Row 1 intC W p.ga p.gs ∧ Row 4 tchC W p.ta p.ts
theorem step_of {n : Nat} {cs : List Value} {y : DataW H × List MemPlace} (h : DataW.trod enc Try.prog W base spare held n 30 cs = some y) : ∃ p : PS, cs = stC p ∧ RdU W p := by
  obtain ⟨xs, m, _, _, hl, hx, hf⟩ := DataW.trod_struct (P := Try.prog) (t := 30) rfl h
  have hx' : xs.length = 3 := hx
  have f0 := hf 0 _ rfl
  have f1 := hf 1 _ rfl
  have f2 := hf 2 _ rfl
  rw [List.getElem?_eq_getElem (by omega)] at f0 f1 f2
  obtain ⟨g, c, e0⟩ := pick_of f0
  obtain ⟨ga, gs, gc, e1, r1, _⟩ := sl_of (e := 3) (n := 1) (f := intC) (Q := fun _ => True) (by kernel_rfl) (by kernel_rfl) (fun _ => rfl) (by omega) (fun m cs y h => by obtain ⟨x, hx, _⟩ := one_int h; exact ⟨x, hx, trivial⟩) f1
  obtain ⟨ta, ts, tc, e2, r2, _⟩ := sl_of (e := 70) (n := 4) (f := tchC) (Q := fun _ => True) (by kernel_rfl) (by kernel_rfl) (fun _ => rfl) (by omega) (fun m cs y h => by obtain ⟨x, hx⟩ := touch_of h; exact ⟨x, hx, trivial⟩) f2
  have h0 : Try.prog.cellsOf 26 = 2 := by kernel_rfl
  have h1 : Try.prog.cellsOf 27 = 1 := by kernel_rfl
  have h2 : Try.prog.cellsOf 28 = 1 := by kernel_rfl
  have hcl : Try.prog.cellsOf 30 = 4 := by kernel_rfl
  rw [hcl] at hl
  have hs := split3 cs (a := 2) (b := 1) (c := 1) hl
  refine ⟨⟨g, c, ga, gs, gc, ta, ts, tc⟩, ?_, r1, r2⟩
  rw [hs]
  change (cs.drop 0).take (Try.prog.cellsOf 26) = _ at e0
  rw [h0] at e0
  change (cs.drop 2).take (Try.prog.cellsOf 27) = _ at e1
  rw [h1] at e1
  change (cs.drop (2 + 1)).take (Try.prog.cellsOf 28) = _ at e2
  rw [h2] at e2
  rw [e0, e1, e2]; rfl
/-- A sequence of steps as it comes in. -/
structure SeqU (W : World) (q : PA) : Prop where
  row : Row 4 stC W q.ad q.l
  cap : q.l.length ≤ q.cap
  nil : q.ad = none → q.cap = 0
  rd : ∀ s ∈ q.l, RdU W s
theorem seq_of {n : Nat} {cs : List Value} {y : DataW H × List MemPlace} (h : DataW.trod enc Try.prog W base spare held n 41 cs = some y) : ∃ q : PA, cs = paC q ∧ SeqU W q := by
  obtain ⟨ad, l, cap, e, r, hc, hn, hq⟩ := sl_of (e := 30) (n := 4) (f := stC) (Q := RdU W) (by kernel_rfl) (by kernel_rfl) stC_len (by omega) (fun m cs y h => step_of h) h
  exact ⟨⟨ad, l, cap⟩, e, r, hc, hn, hq⟩
theorem seqs_of {n : Nat} {cs : List Value} {y : DataW H × List MemPlace} (h : DataW.trod enc Try.prog W base spare held n 22 cs = some y) : ∃ (ad : Option Addr) (ps : List PA) (cap : Nat), cs = [.slice ad ps.length cap] ∧ Row 1 paC W ad ps ∧ ps.length ≤ cap ∧ (ad = none → cap = 0) ∧ ∀ q ∈ ps, SeqU W q :=
  sl_of (e := 41) (n := 1) (f := paC) (Q := SeqU W) (by kernel_rfl) (by kernel_rfl) paC_len (by omega) (fun m cs y h => seq_of h) h

theorem slice_of_cells {P : Program} {w : World} {r : Reach} {base : Nat} {t e : TypeId} {v x : Value} (hu : P.underlying t = some (.slice e)) (hok : Value.okWide P w r base t v) (h : v.cells.toList = [x]) : v = x := by
  unfold Value.okWide at hok
  rw [hu] at hok
  cases v <;> simp [Value.cells] at h <;> first | exact h | (simp [Cell.okWide, Cell.ok, hu] at hok)
theorem open_seqs {r : Reach} {v : Value} {d : DataW H} {p : List MemPlace} (hval : Value.okWide Try.prog W r base 22 v)
    (h : DataW.Trod enc Try.prog W 0 (fun _ => true) true 22 v d p) : ∃ (ad : Option Addr) (ps : List PA) (cap : Nat), v = .slice ad ps.length cap ∧ Row 1 paC W ad ps ∧ ∀ q ∈ ps, SeqU W q := by
  obtain ⟨fuel, h⟩ := h
  obtain ⟨ad, ps, cap, e, hr, _, _, hq⟩ := seqs_of h
  exact ⟨ad, ps, cap, slice_of_cells (e := 41) (by kernel_rfl) hval e, hr, hq⟩
theorem open_seq {r : Reach} {v : Value} {d : DataW H} {p : List MemPlace} (hval : Value.okWide Try.prog W r base 41 v)
    (h : DataW.Trod enc Try.prog W 0 (fun _ => true) true 41 v d p) : ∃ q : PA, v = paV q ∧ SeqU W q := by
  obtain ⟨fuel, h⟩ := h
  obtain ⟨q, e, hq⟩ := seq_of h
  exact ⟨q, slice_of_cells (e := 30) (by kernel_rfl) hval e, hq⟩
theorem Try.own : ownKnob Try.prog.godebug = none := by kernel_rfl

end Go.Proofs.Ytmgiojkdcpolfaa
