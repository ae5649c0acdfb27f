/- Changes as they come in. -/
import Derived.Test.YtioajmhfofmdoaaAg
import Derived.Test.YtioajmhfofmdoaaLaw
import Derived.OpenShut
namespace Go.Proofs.Ytioajmhfofmdoaa
open Go.RowKit Go.Sort Go.ChangeShapes Go.WideShapes Go.ChangeAt

set_option maxRecDepth 100000
variable {H : Type} {enc : TypeId × Value → H} {W : World} {base : Nat} {spare : Nat → Bool} {held : Bool}
theorem split2 {α : Type} (cs : List α) {a b : Nat} (h : cs.length = a + b) : cs = (cs.drop 0).take a ++ (cs.drop a).take b := by
  rw [List.drop_zero, List.take_of_length_le (l := cs.drop a) (by simp; omega), List.take_append_drop]
theorem split3 {α : Type} (cs : List α) {a b c : Nat} (h : cs.length = a + b + c) : cs = (cs.drop 0).take a ++ (cs.drop a).take b ++ (cs.drop (a + b)).take c := by
  rw [List.drop_zero, List.take_of_length_le (l := cs.drop (a + b)) (by simp; omega)]
  rw [List.append_assoc, ← List.drop_drop, List.take_append_drop, List.take_append_drop]
theorem one_int {n : Nat} {cs : List Value} {y : DataW H × List MemPlace} (h : DataW.trod enc Try.prog W base spare held n 3 cs = some y) : ∃ x, cs = [.int .i64 x] ∧ I64 x := by
  obtain ⟨x, hx, _, wx⟩ := DataW.trod_int (by kernel_rfl : Try.prog.underlying 3 = some (.int .i64)) h
  refine ⟨x, hx, ?_⟩
  simp [Lit.wf, IntKind.min, IntKind.max, IntKind.bits, IntKind.signed] at wx
  unfold I64; omega
theorem one_bool {n : Nat} {cs : List Value} {y : DataW H × List MemPlace} (h : DataW.trod enc Try.prog W base spare held n 4 cs = some y) : ∃ x, cs = [.bool x] := by
  obtain ⟨x, hx, _⟩ := DataW.trod_bool (by kernel_rfl : Try.prog.underlying 4 = some .bool) h
  exact ⟨x, hx⟩
theorem loc_of {n : Nat} {cs : List Value} {y : DataW H × List MemPlace} (h : DataW.trod enc Try.prog W base spare held n 24 cs = some y) : ∃ o f, cs = [.int .i64 o, .int .i64 f] ∧ I64 o ∧ I64 f := by
  obtain ⟨xs, m, _, _, hl, hx, hf⟩ := DataW.trod_struct (P := Try.prog) (t := 24) rfl h
  have hx' : xs.length = 2 := hx
  have f0 := hf 0 _ rfl
  have f1 := hf 1 _ rfl
  rw [List.getElem?_eq_getElem (by omega)] at f0 f1
  obtain ⟨o, e0, b0⟩ := one_int f0
  obtain ⟨f, e1, b1⟩ := one_int f1
  have hc : Try.prog.cellsOf 3 = 1 := by kernel_rfl
  have hcl : Try.prog.cellsOf 24 = 2 := by kernel_rfl
  rw [hcl] at hl
  have hs := split2 cs (a := 1) (b := 1) hl
  refine ⟨o, f, ?_, b0, b1⟩
  rw [hs]
  change (cs.drop 0).take (Try.prog.cellsOf 3) = _ at e0
  rw [hc] at e0
  change (cs.drop 1).take (Try.prog.cellsOf 3) = _ at e1
  rw [hc] at e1
  rw [e0, e1]; rfl
theorem ep_of {n : Nat} {cs : List Value} {y : DataW H × List MemPlace} (h : DataW.trod enc Try.prog W base spare held n 31 cs = some y) : ∃ o f, cs = [.int .i64 o, .int .i64 f] := by
  obtain ⟨xs, m, _, _, hl, hx, hf⟩ := DataW.trod_struct (P := Try.prog) (t := 31) rfl h
  have hx' : xs.length = 2 := hx
  have f0 := hf 0 _ rfl
  have f1 := hf 1 _ rfl
  rw [List.getElem?_eq_getElem (by omega)] at f0 f1
  obtain ⟨o, e0, b0⟩ := one_int f0
  obtain ⟨f, e1, b1⟩ := one_int f1
  have hc : Try.prog.cellsOf 3 = 1 := by kernel_rfl
  have hcl : Try.prog.cellsOf 31 = 2 := by kernel_rfl
  rw [hcl] at hl
  have hs := split2 cs (a := 1) (b := 1) hl
  refine ⟨o, f, ?_⟩
  rw [hs]
  change (cs.drop 0).take (Try.prog.cellsOf 3) = _ at e0
  rw [hc] at e0
  change (cs.drop 1).take (Try.prog.cellsOf 3) = _ at e1
  rw [hc] at e1
  rw [e0, e1]; rfl
theorem clk_of {n : Nat} {cs : List Value} {y : DataW H × List MemPlace} (h : DataW.trod enc Try.prog W base spare held n 33 cs = some y) : ∃ c : Nat → Int, cs = [.int .i64 (c 0), .int .i64 (c 1), .int .i64 (c 2), .int .i64 (c 3), .int .i64 (c 4), .int .i64 (c 5), .int .i64 (c 6), .int .i64 (c 7)] := by
  obtain ⟨xs, m, _, _, hl, hx, hf⟩ := DataW.trod_array (P := Try.prog) (t := 33) (n := 8) (e := 3) (by kernel_rfl) h
  have hc : Try.prog.cellsOf 3 = 1 := by kernel_rfl
  have hcl : Try.prog.cellsOf 33 = 8 := by kernel_rfl
  rw [hcl] at hl
  have hall : ∀ i, i < 8 → ∃ x, cs[i]? = some (.int .i64 x) := fun i hi => by
    have hE := hf i hi
    rw [List.getElem?_eq_getElem (by omega)] at hE
    obtain ⟨x, e, _⟩ := one_int hE
    rw [hc, Nat.mul_one] at e
    refine ⟨x, ?_⟩
    have := congrArg (·[0]?) e
    simpa [List.getElem?_take, List.getElem?_drop] using this
  refine ⟨fun i => if hi : i < 8 then (hall i hi).choose else 0, ?_⟩
  have hsp : ∀ i (hi : i < 8), cs[i]? = some (.int .i64 (if hi : i < 8 then (hall i hi).choose else 0)) := fun i hi => by rw [dif_pos hi]; exact (hall i hi).choose_spec
  apply List.ext_getElem?
  intro i
  by_cases hi : i < 8
  · rw [hsp i hi]
    match i, hi with
    | 0, _ => rfl
    | 1, _ => rfl
    | 2, _ => rfl
    | 3, _ => rfl
    | 4, _ => rfl
    | 5, _ => rfl
    | 6, _ => rfl
    | 7, _ => rfl
  · rw [List.getElem?_eq_none (by omega), List.getElem?_eq_none (by simp; omega)]
theorem reads_of {n : Nat} {cs : List Value} {y : DataW H × List MemPlace} (h : DataW.trod enc Try.prog W base spare held n 35 cs = some y) : ∃ (s : Bool) (g k : Int) (c : Nat → Int), cs = [.bool s, .int .i64 g, .int .i64 k, .int .i64 (c 0), .int .i64 (c 1), .int .i64 (c 2), .int .i64 (c 3), .int .i64 (c 4), .int .i64 (c 5), .int .i64 (c 6), .int .i64 (c 7)] := by
  obtain ⟨xs, m, _, _, hl, hx, hf⟩ := DataW.trod_struct (P := Try.prog) (t := 35) rfl h
  have hx' : xs.length = 3 := hx
  have f0 := hf 0 _ rfl
  have f1 := hf 1 _ rfl
  have f2 := hf 2 _ rfl
  rw [List.getElem?_eq_getElem (by omega)] at f0 f1 f2
  obtain ⟨s, e0⟩ := one_bool f0
  obtain ⟨g, k, e1⟩ := ep_of f1
  obtain ⟨c, e2⟩ := clk_of f2
  have h0 : Try.prog.cellsOf 4 = 1 := by kernel_rfl
  have h1 : Try.prog.cellsOf 31 = 2 := by kernel_rfl
  have h2 : Try.prog.cellsOf 33 = 8 := by kernel_rfl
  have hcl : Try.prog.cellsOf 35 = 11 := by kernel_rfl
  rw [hcl] at hl
  have hs := split3 cs (a := 1) (b := 2) (c := 8) hl
  refine ⟨s, g, k, c, ?_⟩
  rw [hs]
  change (cs.drop 0).take (Try.prog.cellsOf 4) = _ at e0
  rw [h0] at e0
  change (cs.drop 1).take (Try.prog.cellsOf 31) = _ at e1
  rw [h1] at e1
  change (cs.drop (1 + 2)).take (Try.prog.cellsOf 33) = _ at e2
  rw [h2] at e2
  rw [e0, e1, e2]; rfl
theorem word_of {n : Nat} {cs : List Value} {y : DataW H × List MemPlace} (h : DataW.trod enc Try.prog W base spare held n 37 cs = some y) : ∃ x : Wd, cs = (wc x).toList := by
  obtain ⟨xs, m, _, _, hl, hx, hf⟩ := DataW.trod_struct (P := Try.prog) (t := 37) rfl h
  have hx' : xs.length = 2 := hx
  have f0 := hf 0 _ rfl
  have f1 := hf 1 _ rfl
  rw [List.getElem?_eq_getElem (by omega)] at f0 f1
  obtain ⟨g, k, e0⟩ := ep_of f0
  obtain ⟨s, rg, rn, c, e1⟩ := reads_of f1
  have h0 : Try.prog.cellsOf 31 = 2 := by kernel_rfl
  have h1 : Try.prog.cellsOf 35 = 11 := by kernel_rfl
  have hcl : Try.prog.cellsOf 37 = 13 := by kernel_rfl
  rw [hcl] at hl
  have hs := split2 cs (a := 2) (b := 11) hl
  refine ⟨⟨g, k, s, rg, rn, c⟩, ?_⟩
  rw [hs]
  change (cs.drop 0).take (Try.prog.cellsOf 31) = _ at e0
  rw [h0] at e0
  change (cs.drop 2).take (Try.prog.cellsOf 35) = _ at e1
  rw [h1] at e1
  rw [e0, e1]; rfl
theorem op_of {n : Nat} {cs : List Value} {y : DataW H × List MemPlace} (h : DataW.trod enc Try.prog W base spare held n 39 cs = some y) : ∃ e : OpT, cs = opC e ∧ I64 e.1 ∧ I64 e.2.1 := by
  obtain ⟨xs, m, _, _, hl, hx, hf⟩ := DataW.trod_struct (P := Try.prog) (t := 39) rfl h
  have hx' : xs.length = 3 := hx
  have f0 := hf 0 _ rfl
  have f1 := hf 1 _ rfl
  have f2 := hf 2 _ rfl
  rw [List.getElem?_eq_getElem (by omega)] at f0 f1 f2
  obtain ⟨o, f, e0, b0, b1⟩ := loc_of f0
  obtain ⟨x, e1⟩ := word_of f1
  obtain ⟨d, e2⟩ := one_bool f2
  have h0 : Try.prog.cellsOf 24 = 2 := by kernel_rfl
  have h1 : Try.prog.cellsOf 37 = 13 := by kernel_rfl
  have h2 : Try.prog.cellsOf 4 = 1 := by kernel_rfl
  have hcl : Try.prog.cellsOf 39 = 16 := by kernel_rfl
  rw [hcl] at hl
  have hs := split3 cs (a := 2) (b := 13) (c := 1) hl
  refine ⟨(o, f, x, d), ?_, b0, b1⟩
  rw [hs]
  change (cs.drop 0).take (Try.prog.cellsOf 24) = _ at e0
  rw [h0] at e0
  change (cs.drop 2).take (Try.prog.cellsOf 37) = _ at e1
  rw [h1] at e1
  change (cs.drop (2 + 13)).take (Try.prog.cellsOf 4) = _ at e2
  rw [h2] at e2
  rw [e0, e1, e2]; rfl

theorem slice_of_cells {P : Program} {w : World} {r : Reach} {base : Nat} {t e : TypeId} {v x : Value} (hu : P.underlying t = some (.slice e)) (hok : Value.okWide P w r base t v) (h : v.cells.toList = [x]) : v = x := by
  unfold Value.okWide at hok
  rw [hu] at hok
  cases v <;> simp [Value.cells] at h <;> first | exact h | (simp [Cell.okWide, Cell.ok, hu] at hok)
theorem open_ops {r : Reach} {base : Nat} {H : Type} {enc : TypeId × Value → H} {W : World} {v : Value} {d : DataW H} {p : List MemPlace} (hval : Value.okWide Try.prog W r base 22 v)
    (h : DataW.Trod enc Try.prog W 0 (fun _ => true) true 22 v d p) : ∃ L, OpsAt W.heap.size W v L ∧ ∀ e ∈ L, I64 e.1 ∧ I64 e.2.1 := by
  obtain ⟨fuel, h⟩ := h
  have hc : Try.prog.cellsOf 39 = 16 := by kernel_rfl
  rcases DataW.trod_slice (e := 39) (by kernel_rfl) h with ⟨h0, _⟩ | ⟨a, len, cap, elems, rest, n, _, hcs, _, _, _, _, hlen, hel, _⟩
  · refine ⟨[], ⟨none, 0, slice_of_cells (e := 39) (by kernel_rfl) hval h0, fun h => absurd h (by simp)⟩, fun e he => by cases he⟩
  · have hv := slice_of_cells (e := 39) (by kernel_rfl) hval hcs
    rw [hc] at hel
    have hall : ∀ i, i < len → ∃ e : OpT, (∀ j, j < 16 → W.cell? ((a.add (i * 16)).add j) = (opC e)[j]?) ∧ I64 e.1 ∧ I64 e.2.1 := fun i hi => by
      have hE := hel i hi
      rw [List.getElem?_eq_getElem (by omega), Option.bind_eq_some_iff] at hE
      obtain ⟨cs, hcs, hy⟩ := hE
      obtain ⟨_, hl, hat⟩ := World.cells?_some hcs
      obtain ⟨e, rfl, b0, b1⟩ := op_of hy
      exact ⟨e, fun j hj => hat j (by simpa using hj), b0, b1⟩
    by_cases h0 : 0 < len
    · obtain ⟨e0, hc0, _⟩ := hall 0 h0
      have hc00 := hc0 0 (by omega)
      obtain ⟨b, off, spot⟩ := a
      have hspot : spot = none := by
        have := World.cell?_spot hc00
        simpa [Addr.add] using this
      subst hspot
      have hall2 : ∀ i, i < len → ∃ e : OpT, (∀ j, j < 16 → W.cell? ⟨b, off + i * 16 + j, none⟩ = (opC e)[j]?) ∧ I64 e.1 ∧ I64 e.2.1 := fun i hi => by
        obtain ⟨e, h1, h2⟩ := hall i hi
        refine ⟨e, fun j hj => ?_, h2⟩
        have := h1 j hj
        rw [Go.WideShapes.add_plain, Go.WideShapes.add_plain] at this
        exact this
      have hOld : Old b W := by
        obtain ⟨e, h1, _⟩ := hall2 0 h0
        exact Old.of_cell (h1 0 (by omega))
      refine ⟨(List.finRange len).map fun i => (hall2 i.1 i.2).choose, ⟨some ⟨b, off, none⟩, cap, by rw [hv]; simp, fun _ => ⟨b, off, rfl, hOld.lt, hOld, fun k hk i hi => ?_⟩⟩, fun e he => ?_⟩
      · have hk' : k < len := by simpa using hk
        have hs := (hall2 k hk').choose_spec.1 i hi
        simpa using hs
      · obtain ⟨i, _, rfl⟩ := List.mem_map.1 he
        exact (hall2 i.1 i.2).choose_spec.2
    · obtain rfl : len = 0 := by omega
      exact ⟨[], ⟨some a, cap, hv, fun h => absurd h (by simp)⟩, fun e he => by cases he⟩

theorem open_loc {r : Reach} {base : Nat} {W : World} {v : Value} (hval : Value.okWide Try.prog W r base 24 v) : ∃ a b, v = locv a b ∧ I64 a ∧ I64 b := by
  obtain ⟨cs, rfl, hs, hc⟩ := okWide_row (n := 2) (ts := [3, 3]) (by kernel_rfl) (by kernel_rfl) (by kernel_rfl) rfl hval
  obtain ⟨l⟩ := cs
  obtain ⟨x, y, rfl⟩ := two_of l hs
  obtain ⟨a, rfl, ha⟩ := cell_int (k := .i64) (by kernel_rfl) (hc 0 x 3 rfl rfl)
  obtain ⟨b, rfl, hb⟩ := cell_int (k := .i64) (by kernel_rfl) (hc 1 y 3 rfl rfl)
  exact ⟨a, b, rfl, has_i64 ha, has_i64 hb⟩
theorem Try.own : ownKnob Try.prog.godebug = none := by kernel_rfl

end Go.Proofs.Ytioajmhfofmdoaa
