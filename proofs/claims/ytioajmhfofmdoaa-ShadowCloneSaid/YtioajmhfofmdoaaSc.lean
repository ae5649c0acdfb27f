/- Set of the given memory: its boxes; loads and composites within drawn regions. -/
import Derived.Test.YtioajmhfofmdoaaSb
import Derived.LaidEqlPtr
namespace Go.Proofs.Ytioajmhfofmdoaa
open Go.RowKit Go.Sort Go.Maps

/-- The boxes of Set: the location, the word, the key. -/
structure Bx (w w3 : World) (kb : Nat) (o F q : Int) (x : Wd) : Prop where
  below : Below w.heap.size w w3
  loc : ∀ j, w3.cell? ⟨w.heap.size, j, none⟩ = (#[.int .i64 o, .int .i64 F] : Array Value)[j]?
  word : ∀ j, w3.cell? ⟨w.heap.size + 1, j, none⟩ = (wc x)[j]?
  key : ∀ j, w3.cell? ⟨kb, j, none⟩ = (#[.int .i64 o, .int .i64 q] : Array Value)[j]?
  lo : w.heap.size + 1 < kb
  hi : kb < w3.heap.size
theorem Bx.made (w : World) (o F q : Int) (x : Wd) (p1 : Regrown) : Bx w (World.alloc (gw ((w.alloc (.cells #[.int .i64 o, .int .i64 F] 24)).alloc (.cells (wc x) 37)) p1) (.cells #[.int .i64 o, .int .i64 q] 67)) (w.heap.size + 1 + 1 + p1.os.size) o F q x := by
  refine ⟨(by repeat (first | exact Below.refl _ _ | refine below_gw ?_ (by simp; try omega) _ | refine Below.alloc ?_ (by simp; try omega) _ | refine Below.setCell ?_ (by simp; try omega) _ | refine Below.drew ?_)), fun j => ?_, fun j => ?_, fun j => ?_, by omega, by simp⟩
  · refine row_cells (t := 24) (fr := (0, 0)) ?_ j
    rw [heap_alloc_old _ _ (by simp; omega), gw_heap _ _ _ (by simp; omega), heap_alloc_old _ _ (by simp), heap_alloc_at' _ _ _ rfl]
  · refine row_cells (t := 37) (fr := (0, 0)) ?_ j
    rw [heap_alloc_old _ _ (by simp; omega), gw_heap _ _ _ (by simp), heap_alloc_at' _ _ _ (by simp)]
  · refine row_cells (t := 67) (fr := (0, 0)) ?_ j
    rw [heap_alloc_at' _ _ _ (by simp)]
theorem Bx.gw {w w3 : World} {kb : Nat} {o F q : Int} {x : Wd} (h : Bx w w3 kb o F q x) (p : Regrown) : Bx w (gw w3 p) kb o F q x := by
  have h1 := h.lo
  have h2 := h.hi
  refine ⟨below_gw h.below h.below.size p, fun j => (gw_cell _ _ _ _ (by simp [Old]; omega)).trans (h.loc j), fun j => (gw_cell _ _ _ _ (by simp [Old]; omega)).trans (h.word j), fun j => (gw_cell _ _ _ _ (by simp [Old]; omega)).trans (h.key j), h1, by simp; omega⟩
theorem Bx.drew {w w3 : World} {kb : Nat} {o F q : Int} {x : Wd} (h : Bx w w3 kb o F q x) : Bx w w3.drew kb o F q x :=
  ⟨Below.drew h.below, h.loc, h.word, h.key, h.lo, h.hi⟩
theorem MemAt.drew {T : Nat → Prop} {B : Nat} {w : World} {bm bp tk n : Nat} {D : DataW Nat} {M : Int → Int → Wd} (h : MemAt T B w bm bp tk n D M) : MemAt T B w.drew bm bp tk n D M :=
  ⟨h.cell, h.own.drew, h.page, h.apart, h.keys, h.tok, h.toks, h.mine⟩
/-- The boxes stay while a page is written. -/
theorem Bx.st {w w4 wr : World} {kb : Nat} {o F q : Int} {x : Wd} (h : Bx w w4 kb o F q x) {bp pb : Nat} {m : Nat → Wd} {tk n : Nat} {D : DataW Nat} (st : PgSt w4 wr bp pb m tk n D) (hbp : bp < w.heap.size) (hpb : pb < w.heap.size ∨ w4.heap.size ≤ pb) : 
    (∀ j, wr.cell? ⟨w.heap.size, j, none⟩ = (#[.int .i64 o, .int .i64 F] : Array Value)[j]?) ∧ (∀ j, wr.cell? ⟨w.heap.size + 1, j, none⟩ = (wc x)[j]?) ∧ (∀ j, wr.cell? ⟨kb, j, none⟩ = (#[.int .i64 o, .int .i64 q] : Array Value)[j]?) ∧ Old w.heap.size wr ∧ Old (w.heap.size + 1) wr ∧ Old kb wr := by
  have h1 := h.lo
  have h2 := h.hi
  have h3 := st.size
  refine ⟨fun j => (st.cell (by simp; omega) (by simp; omega) (by simp; omega)).trans (h.loc j), fun j => (st.cell (by simp; omega) (by simp; omega) (by simp; omega)).trans (h.word j), fun j => (st.cell (by simp; omega) (by simp; omega) (by simp; omega)).trans (h.key j), by simp [Old]; omega, by simp [Old]; omega, by simp [Old]; omega⟩
theorem PgSt.here {T : Nat → Prop} {B : Nat} {w : World} {bm bp tk n pb : Nat} {D : DataW Nat} {M : Int → Int → Wd} (h : MemAt T B w bm bp tk n D M) {m : Nat → Wd} (hr : w.heap[pb]? = some (.cells (pgC m tk) 70 (0, 0))) : PgSt w w bp pb m tk n D :=
  ⟨rfl, rfl, rfl, Nat.le_refl _, fun _ _ _ _ => rfl, hr, h.own⟩
theorem PgSt.new {T : Nat → Prop} {B : Nat} {w : World} {bm bp tk n : Nat} {D : DataW Nat} {M : Int → Int → Wd} (h : MemAt T B w bm bp tk n D M) (m : Nat → Wd) : PgSt w (w.alloc (.cells (pgC m tk) 70)) bp w.heap.size m tk n D :=
  ⟨rfl, rfl, rfl, by simp, fun k hk _ _ => heap_alloc_old _ _ hk, heap_alloc_at' _ _ _ rfl, h.own.alloc _⟩

theorem wpG_load_part {P : Program} {ops : Array Oper} {W : World} {R : Act → Prop} {a : Act} {o : Oper} {rest : List Oper} (hgd : o.guard = none) (ty : TypeId) (x : Operand) (ho : o.op = .load ty x)
    (g off n : Nat) (hx : a.eval x = .pointer (some ⟨g, off, none⟩)) (t : TypeId) (cs u : Array Value) (fr : Nat × Nat) (hg : W.heap[g]? = some (.cells cs t fr))
    (hu : (match P.underlying ty with | some (.struct _) | some (.array _ _) => true | _ => false) = true) (hi : (P.info? ty).map (·.size) = some n) (hle : off + n ≤ cs.size) (he : cs.extract off (off + n) = u)
    (h : wpG P ops W R rest (a.put o.dst (.agg u))) : wpG P ops W R (o :: rest) a := by
  refine wpG_step fun K hK => ?_
  rw [if_pos (by simp [Region.wanted, hgd])]
  refine ⟨.agg u, fun p => ?_, hK _ h⟩
  have hg' : (gw W p).heap[g]? = some (.cells cs t fr) := by rw [gw_heap W p g (Array.getElem?_eq_some_iff.1 hg).1]; exact hg
  have hl : (loadCells ⟨g, off, none⟩ u.toList.length).run P (gw W p) = .ok u.toList.toArray (gw W p) :=
    run_loadCells_list (P := P) (gw W p) ⟨g, off, none⟩ u.toList (fun j v hv => by
      have hadd : (⟨g, off, none⟩ : Addr).add j = ⟨g, off + j, none⟩ := by unfold Addr.add; split <;> simp_all
      rw [hadd, cell_of_row (gw W p) g (off + j) cs t fr hg']
      subst he
      have hj : j < n := by
        have := (List.getElem?_eq_some_iff.1 hv).1
        simp at this; omega
      rw [Array.getElem?_toList, Array.getElem?_extract, if_pos (by omega)] at hv
      exact hv)
  have hs : u.size = n := by subst he; simp; omega
  cases hq : P.info? ty with
  | none => simp [hq] at hi
  | some i =>
    have hsz : i.size = n := by simpa [hq] using hi
    cases hd : P.underlying ty with
    | none => simp [hd] at hu
    | some d =>
      have hagg : (isAgg ty).run P (gw W p) = .ok true (gw W p) := by
        unfold isAgg
        rw [Sem.run_bind, run_underlying hd]
        rw [hd] at hu
        cases d <;> simp_all
      simp only [Array.length_toList, Array.toArray_toList, hs] at hl
      unfold gqAt execOp
      simp [ho, hx, Instr.loadAt, Instr.sureAddr, Sem.run_bind, loadVar, hagg, sizeOf, typeInfo, hq, hsz, hl]
      exact ⟨rfl, rfl⟩
theorem wpG_build_at {P : Program} {ops : Array Oper} {W : World} {R : Act → Prop} {a : Act} {o : Oper} {rest : List Oper} (hgd : o.guard = none) (t : TypeId) (parts : Array (Nat × Operand)) (ho : o.op = .build t parts)
    (vs : Array (Nat × Value)) (hv : (parts.map fun (i, x) => (i, a.eval x)) = vs) (u : Array Value) (hb : P.built t vs.toList = some u)
    (h : wpG P ops W R rest (a.put o.dst (.agg u))) : wpG P ops W R (o :: rest) a := by
  refine wpG_step fun K hK => ?_
  rw [if_pos (by simp [Region.wanted, hgd])]
  refine ⟨.agg u, fun p => ?_, hK _ h⟩
  have hr := run_build (P := P) (gw W p) t vs u hb
  unfold gqAt execOp
  simp [ho, hv, hr]
  exact ⟨rfl, rfl⟩

theorem zero_words (w : World) : (zeroValue 68).run Try.prog w = .ok (.agg (pw (fun _ => wz))) w := by kernel_rfl
set_option maxRecDepth 100000 in
theorem built_copy (m : Nat → Wd) (tk : Nat) : Try.prog.built 70 [(0, .agg (pw m)), (1, .pointer (some ⟨tk, 0, none⟩))] = some (pgC m tk) := by kernel_rfl
theorem tok_u : Try.prog.underlying 60 = some (.pointer 5) := by kernel_rfl
theorem tok_i : ∃ j, Hid (Try.prog.info? 5 = some j ∧ j.size ≠ 0) := by
  have h : (Try.prog.info? 5).map (·.size) = some 1 := by kernel_rfl
  cases hq : Try.prog.info? 5 with
  | none => rw [hq] at h; cases h
  | some j => rw [hq] at h; simp at h; exact ⟨j, Lib.hid ⟨rfl, by omega⟩⟩
theorem run_neq_tok_same (t : Nat) (w : World) : (binOp .neq 60 (.pointer (some ⟨t, 0, none⟩)) (.pointer (some ⟨t, 0, none⟩))).run Try.prog w = .ok (.bool false) w := by
  obtain ⟨j, hj⟩ := tok_i
  have h : ∀ d : Nat, (Op.equalIn (d + 1) 60 (.pointer (some ⟨t, 0, none⟩)) (.pointer (some ⟨t, 0, none⟩))).run Try.prog w = .ok true w := fun d => by
    simp [Op.equalIn, run_underlying tok_u, sizeOf, typeInfo, hj.out.1, run_sameAddr_same]
  simp only [binOp]
  simp [Op.equal, Op.maxDepth, h 9999]
theorem run_neq_tok_other {t u : Nat} (hne : t ≠ u) (w : World) {ca cb : Array Value} (ha : w.heap[t]? = some (.cells ca 5 (0, 0))) (hb : w.heap[u]? = some (.cells cb 5 (0, 0))) : (binOp .neq 60 (.pointer (some ⟨t, 0, none⟩)) (.pointer (some ⟨u, 0, none⟩))).run Try.prog w = .ok (.bool true) w := by
  obtain ⟨j, hj⟩ := tok_i
  have h : ∀ d : Nat, (Op.equalIn (d + 1) 60 (.pointer (some ⟨t, 0, none⟩)) (.pointer (some ⟨u, 0, none⟩))).run Try.prog w = .ok false w := fun d => by
    simp [Op.equalIn, run_underlying tok_u, sizeOf, typeInfo, hj.out.1, hj.out.2, run_sameAddr_other (a := ⟨t, 0, none⟩) (b := ⟨u, 0, none⟩) w (fun e => hne (by simpa using congrArg Addr.block e)) ha hb]
  simp only [binOp]
  simp [Op.equal, Op.maxDepth, h 9999]

end Go.Proofs.Ytioajmhfofmdoaa
