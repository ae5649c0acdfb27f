/- Set of the given memory: loads of a part of a row, composites; a page that is being written. -/
import Derived.Test.YtioajmhfofmdoaaVw
namespace Go.Proofs.Ytioajmhfofmdoaa
open Go.RowKit Go.Sort Go.Maps

theorem wpList_load_part {P : Program} {ops : Array Oper} {Q : Exit → Act → World → Prop} {a : Act} {w : World} {rest : List Oper} {o : Oper} (hgd : o.guard = none) (ty : TypeId) (x : Operand) (ho : o.op = .load ty x)
    (g off n : Nat) (hx : a.eval x = .pointer (some ⟨g, off, none⟩)) (t : TypeId) (cs u : Array Value) (fr : Nat × Nat) (hg : w.heap[g]? = some (.cells cs t fr))
    (hu : (match P.underlying ty with | some (.struct _) | some (.array _ _) => true | _ => false) = true) (hi : (P.info? ty).map (·.size) = some n) (hle : off + n ≤ cs.size) (he : cs.extract off (off + n) = u)
    (h : wpList P ops Q rest (a.put o.dst (.agg u)) w) : wpList P ops Q (o :: rest) a w := by
  refine wpList_plain hgd fun K hK => ?_
  have hl : (loadCells ⟨g, off, none⟩ u.toList.length).run P w = .ok u.toList.toArray w :=
    run_loadCells_list (P := P) w ⟨g, off, none⟩ u.toList (fun j v hv => by
      have hadd : (⟨g, off, none⟩ : Addr).add j = ⟨g, off + j, none⟩ := by unfold Addr.add; split <;> simp_all
      rw [hadd, cell_of_row w g (off + j) cs t fr hg]
      subst he
      have hj : j < n := by
        have := (List.getElem?_eq_some_iff.1 hv).1
        simp at this; omega
      rw [Array.getElem?_toList, Array.getElem?_extract, if_pos (by omega)] at hv
      exact hv)
  have hs : u.size = n := by subst he; simp; omega
  cases hq : P.info? ty with
  | none => simp [hq] at hi
  | some i =>
    have hsz : i.size = n := by simpa [hq] using hi
    cases hd : P.underlying ty with
    | none => simp [hd] at hu
    | some d =>
      have hagg : (isAgg ty).run P w = .ok true w := by
        unfold isAgg
        rw [Sem.run_bind, run_underlying hd w]
        rw [hd] at hu
        cases d <;> simp_all
      simp only [Array.length_toList, Array.toArray_toList, hs] at hl
      unfold Oper.wp execOp
      simp [ho, hx, Instr.loadAt, Instr.sureAddr, Sem.run_bind, loadVar, hagg, sizeOf, typeInfo, hq, hsz, hl, Oper.upon]
      exact hK _ _ h
theorem wpList_build_at {P : Program} {ops : Array Oper} {Q : Exit → Act → World → Prop} {a : Act} {w : World} {rest : List Oper} {o : Oper} (hgd : o.guard = none) (t : TypeId) (parts : Array (Nat × Operand)) (ho : o.op = .build t parts)
    (vs : Array (Nat × Value)) (hv : (parts.map fun (i, x) => (i, a.eval x)) = vs) (u : Array Value) (hb : P.built t vs.toList = some u)
    (h : wpList P ops Q rest (a.put o.dst (.agg u)) w) : wpList P ops Q (o :: rest) a w := by
  refine wpList_plain hgd fun K hK => ?_
  have hr := run_build (P := P) w t vs u hb
  unfold Oper.wp execOp
  simp [ho, hv, hr, Oper.upon]
  exact hK _ _ h
theorem pgC_congr {m m' : Nat → Wd} (h : ∀ i, i < 16 → wv (m i) = wv (m' i)) (tk : Nat) : pgC m tk = pgC m' tk := by
  unfold pgC
  congr 1
  funext i
  split
  · rename_i hi
    have : wc (m (i.val / 13)) = wc (m' (i.val / 13)) := by have := h (i.val / 13) (by omega); simpa using this
    rw [this]
  · rfl
theorem built_new (tk : Nat) : Try.prog.built 70 [(1, .pointer (some ⟨tk, 0, none⟩))] = some (pgC (fun _ => wz) tk) := by kernel_rfl
theorem built_zero : Try.prog.built 68 [] = some (pw (fun _ => wz)) := by kernel_rfl
theorem pgC_words (m : Nat → Wd) (tk : Nat) : (pgC m tk).extract 0 (0 + 208) = pw m := by
  apply Array.ext_getElem?
  intro j
  rw [Array.getElem?_extract]
  by_cases hj : j < 208
  · rw [if_pos (by rw [pgC_size]; omega)]
    obtain ⟨a, b, ha, hb, rfl⟩ : ∃ a b, a < 16 ∧ b < 13 ∧ j = a * 13 + b := ⟨j / 13, j % 13, by omega, by omega, by omega⟩
    rw [Nat.zero_add, pgC_at _ _ ha hb, pw_at _ ha hb]
  · rw [if_neg (by omega), Array.getElem?_eq_none (by simp [pw]; omega)]

/-- The page of block pb is being written, on the way to the map of block bp; all else stays. -/
structure PgSt (w wr : World) (bp pb : Nat) (m : Nat → Wd) (tk n : Nat) (D : DataW Nat) : Prop where
  os : wr.os = w.os
  tape : wr.tape = w.tape
  output : wr.output = w.output
  size : w.heap.size ≤ wr.heap.size
  block : ∀ k, k < w.heap.size → k ≠ bp → k ≠ pb → wr.heap[k]? = w.heap[k]?
  row : wr.heap[pb]? = some (.cells (pgC m tk) 70 (0, 0))
  own : wr.ownsMap Try.prog 67 pgR bp n D
theorem PgSt.gw {w wr : World} {bp pb : Nat} {m : Nat → Wd} {tk n : Nat} {D : DataW Nat} (h : PgSt w wr bp pb m tk n D) (q : Regrown) : PgSt w (gw wr q) bp pb m tk n D :=
  ⟨h.os, h.tape, h.output, by have := h.size; simp; omega, fun k hk h1 h2 => (gw_heap _ _ _ (by have := h.size; omega)).trans (h.block k hk h1 h2), (gw_heap _ _ _ (Array.getElem?_eq_some_iff.1 h.row).1).trans h.row, map_gw h.own q⟩
theorem PgSt.drew {w wr : World} {bp pb : Nat} {m : Nat → Wd} {tk n : Nat} {D : DataW Nat} (h : PgSt w wr bp pb m tk n D) : PgSt w wr.drew bp pb m tk n D :=
  ⟨h.os, h.tape, h.output, h.size, h.block, h.row, h.own⟩
theorem PgSt.set {w wr : World} {bp pb : Nat} {m : Nat → Wd} {tk n : Nat} {D : DataW Nat} (h : PgSt w wr bp pb m tk n D) (hne : pb ≠ bp) (m' : Nat → Wd) : PgSt w (wr.setRow pb (pgC m' tk)) bp pb m' tk n D := by
  have hg := below_setRow' (B := pb) (Below.refl pb wr) (Nat.le_refl _) (pgC m' tk)
  have hother : ∀ k, k ≠ pb → (wr.setRow pb (pgC m' tk)).heap[k]? = wr.heap[k]? := fun k hk => by
    simp only [World.setRow, Array.getElem?_modify]
    rw [if_neg (fun e => hk e.symm)]
  refine ⟨h.os, h.tape, h.output, by simpa [World.setRow] using h.size, fun k hk h1 h2 => (hother k h2).trans (h.block k hk h1 h2), setRow_heap _ _ _ _ _ _ h.row, ?_⟩
  exact h.own.kept (row := some pb) ⟨rfl, rfl, rfl, by simp [World.setRow], fun k _ hk => hother k (fun e => hk (by rw [e]))⟩ (by simp; omega)
theorem PgSt.map {w wr w2 : World} {bp pb : Nat} {m : Nat → Wd} {tk n n' : Nat} {D D' : DataW Nat} (h : PgSt w wr bp pb m tk n D) (hne : pb ≠ bp) (ho : w2.ownsMap Try.prog 67 pgR bp n' D') (hg : wr.grownBy w2 (some bp)) : PgSt w w2 bp pb m tk n' D' :=
  ⟨hg.os.trans h.os, hg.tape.trans h.tape, hg.output.trans h.output, Nat.le_trans h.size hg.size,
    fun k hk h1 h2 => (hg.block k (by have := h.size; omega) (by simpa using h1)).trans (h.block k hk h1 h2),
    (hg.block pb (Array.getElem?_eq_some_iff.1 h.row).1 (by simpa using hne)).trans h.row, ho⟩
theorem PgSt.cell {w wr : World} {bp pb : Nat} {m : Nat → Wd} {tk n : Nat} {D : DataW Nat} (h : PgSt w wr bp pb m tk n D) {a : Addr} (hk : a.block < w.heap.size) (h1 : a.block ≠ bp) (h2 : a.block ≠ pb) : wr.cell? a = w.cell? a :=
  World.cell?_of_block (h.block _ hk h1 h2)

end Go.Proofs.Ytioajmhfofmdoaa
