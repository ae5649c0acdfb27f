/- The document's memory: Set. -/
import Derived.Test.YtioajmhfofmdoaaRg
namespace Go.Proofs.Ytioajmhfofmdoaa
open Go.RowKit Go.Sort

theorem setGo_step {o f : Int} {x : Wd} {l : List Ent} {k : Nat} {d : Bool} (hk : k < l.length) : setGo o f x (l.drop k) d =
    (if !d && lessM o f l[k].1 l[k].2.1 then [(o, f, x)] else []) ++ (if isLoc l[k] o f then [] else [l[k]]) ++ setGo o f x (l.drop (k + 1)) (d || lessM o f l[k].1 l[k].2.1) := by
  rw [List.drop_eq_getElem_cons hk, setGo]
theorem run_neq_loc (o f o' f' : Int) (w : World) : (binOp .neq 24 (locv o f) (locv o' f')).run Try.prog w = .ok (.bool (!(o == o' && f == f'))) w := by
  simp [go_sem]
  by_cases h1 : o = o' <;> by_cases h2 : f = f' <;> simp [h1, h2]
/-- Out, so far. -/
structure SetAt (w wr : World) (v : Value) (o f : Int) (x : Wd) (l : List Ent) (k : Nat) (d : Bool) (out : List Ent) : Prop where
  eq : out ++ setGo o f x (l.drop k) d = setGo o f x l (zeroM x)
  len : out.length ≤ 2 * k
  out : OutAt w wr v out

set_option maxRecDepth 100000 in
set_option maxHeartbeats 8000000 in
theorem setR_go (v : Value) (l : List Ent) (o f : Int) (x : Wd) (w : World) (h : EntAt w v l) (hn : l.length ≤ 1000) (h1 : ¬ o < 0) (h2 : ¬ f < 0) :
    Calls Try.prog 24 #[v, locv o f, wv x] w fun e w' => ∃ v', e = .returned v' ∧ OutAt w w' v' (setGo o f x l (zeroM x)) := by
  obtain ⟨ad, cap, rfl, hrow⟩ := h
  have HR := Lib.hid hrow; clear hrow
  obtain ⟨i0, z0, HI⟩ := cell_info
  have qz : ∀ w, (binOp .eql 37 (wv x) (.agg #[.int .i64 0, .int .i64 0, .bool false, .int .i64 0, .int .i64 0, .int .i64 0, .int .i64 0, .int .i64 0, .int .i64 0, .int .i64 0, .int .i64 0, .int .i64 0, .int .i64 0])).run Try.prog w = .ok (.bool (zeroM x)) w := fun w => run_eql_wd x wz w
  go_enter Try.func24, Try.ntmps24
  go_wp2
  go_loopw [7, 8, 9] (fun v dv i wr => ∃ (k : Nat) (d : Bool) (out : List Ent), k ≤ l.length ∧ i = .int .i64 k ∧ dv = .bool d ∧ SetAt ((w.alloc (.cells #[.int .i64 o, .int .i64 f] 24)).alloc (.cells (wc x) 37)) wr v o f x l k d out) (fun _ _ i _ => l.length - (intOf i).toNat)
  case atStart => exact ⟨0, zeroM x, [], by omega, rfl, rfl, ⟨rfl, by simp, out_nil _ _ (Below.refl _ _)⟩⟩
  case round =>
    obtain ⟨k, d, out, hk, rfl, rfl, ho⟩ := hrel
    have HO := Lib.hid ho; clear ho
    by_cases hlt : k < l.length
    · obtain ⟨b, off, rfl, hold, hcs⟩ := HR.out (by omega)
      have HE0 := Lib.hid (fun i (hi : i < 15) => (show ((w.alloc (.cells #[.int .i64 o, .int .i64 f] 24)).alloc (.cells (wc x) 37)).cell? ⟨b, off + k * 15 + i, none⟩ = w.cell? ⟨b, off + k * 15 + i, none⟩ by simp [go_sem, hold]).trans (hcs k hlt i hi))
      have HS := Lib.hid (setGo_step (o := o) (f := f) (x := x) (d := d) hlt)
      have kb : (k : Int) < l.length := by omega
      clear hcs
      generalize l[k] = e at *
      obtain ⟨eo, ef, y⟩ := e
      have HE := Lib.hid (fun i (hi : i < 15) => HE0.out i hi)
      simp only at HS
      have HLs := Lib.hid (fun w => less_any o f eo ef w)
      have hil : isLoc (eo, ef, y) o f = (eo == o && ef == f) := rfl
      have ql : ∀ w, (binOp .neq 24 (locv eo ef) (locv o f)).run Try.prog w = .ok (.bool (!isLoc (eo, ef, y) o f)) w := fun w => by rw [hil]; exact run_neq_loc _ _ _ _ _
      have hlx : lessM o f eo ef = true → isLoc (eo, ef, y) o f = false := fun h => by
        have := lessM_iff.1 h
        rw [hil]
        cases h' : (eo == o && ef == f)
        · rfl
        · simp at h'; omega
      clear hil
      have HLX := Lib.hid hlx; clear hlx
      generalize lessM o f eo ef = ls at *
      generalize isLoc (eo, ef, y) o f = il at *
      by_cases hA : (!d && ls) = true
      · have hd : d = false := by cases d <;> simp_all
        have hls : ls = true := by cases ls <;> simp_all
        subst hd
        subst hls
        have hil := HLX.out rfl
        subst hil
        have bl0 : wr.cell? ⟨w.heap.size, 0, none⟩ = some (.int .i64 o) := ((HO.out.out.below).cell (p := ⟨w.heap.size, 0, none⟩) (by simp; omega)).trans (by simp [go_sem])
        have bl1 : wr.cell? ⟨w.heap.size, 1, none⟩ = some (.int .i64 f) := ((HO.out.out.below).cell (p := ⟨w.heap.size, 1, none⟩) (by simp; omega)).trans (by simp [go_sem])
        have bw0 : wr.cell? ⟨w.heap.size + 1, 0, none⟩ = some (.int .i64 x.g) := ((HO.out.out.below).cell (p := ⟨w.heap.size + 1, 0, none⟩) (by simp)).trans (by simp [go_sem])
        have bw1 : wr.cell? ⟨w.heap.size + 1, 1, none⟩ = some (.int .i64 x.n) := ((HO.out.out.below).cell (p := ⟨w.heap.size + 1, 1, none⟩) (by simp)).trans (by simp [go_sem])
        have bw2 : wr.cell? ⟨w.heap.size + 1, 2, none⟩ = some (.bool x.s) := ((HO.out.out.below).cell (p := ⟨w.heap.size + 1, 2, none⟩) (by simp)).trans (by simp [go_sem])
        have bw3 : wr.cell? ⟨w.heap.size + 1, 3, none⟩ = some (.int .i64 x.rg) := ((HO.out.out.below).cell (p := ⟨w.heap.size + 1, 3, none⟩) (by simp)).trans (by simp [go_sem])
        have bw4 : wr.cell? ⟨w.heap.size + 1, 4, none⟩ = some (.int .i64 x.rn) := ((HO.out.out.below).cell (p := ⟨w.heap.size + 1, 4, none⟩) (by simp)).trans (by simp [go_sem])
        have bw5 : wr.cell? ⟨w.heap.size + 1, 5, none⟩ = some (.int .i64 (x.c 0)) := ((HO.out.out.below).cell (p := ⟨w.heap.size + 1, 5, none⟩) (by simp)).trans (by simp [go_sem])
        have bw6 : wr.cell? ⟨w.heap.size + 1, 6, none⟩ = some (.int .i64 (x.c 1)) := ((HO.out.out.below).cell (p := ⟨w.heap.size + 1, 6, none⟩) (by simp)).trans (by simp [go_sem])
        have bw7 : wr.cell? ⟨w.heap.size + 1, 7, none⟩ = some (.int .i64 (x.c 2)) := ((HO.out.out.below).cell (p := ⟨w.heap.size + 1, 7, none⟩) (by simp)).trans (by simp [go_sem])
        have bw8 : wr.cell? ⟨w.heap.size + 1, 8, none⟩ = some (.int .i64 (x.c 3)) := ((HO.out.out.below).cell (p := ⟨w.heap.size + 1, 8, none⟩) (by simp)).trans (by simp [go_sem])
        have bw9 : wr.cell? ⟨w.heap.size + 1, 9, none⟩ = some (.int .i64 (x.c 4)) := ((HO.out.out.below).cell (p := ⟨w.heap.size + 1, 9, none⟩) (by simp)).trans (by simp [go_sem])
        have bw10 : wr.cell? ⟨w.heap.size + 1, 10, none⟩ = some (.int .i64 (x.c 5)) := ((HO.out.out.below).cell (p := ⟨w.heap.size + 1, 10, none⟩) (by simp)).trans (by simp [go_sem])
        have bw11 : wr.cell? ⟨w.heap.size + 1, 11, none⟩ = some (.int .i64 (x.c 6)) := ((HO.out.out.below).cell (p := ⟨w.heap.size + 1, 11, none⟩) (by simp)).trans (by simp [go_sem])
        have bw12 : wr.cell? ⟨w.heap.size + 1, 12, none⟩ = some (.int .i64 (x.c 7)) := ((HO.out.out.below).cell (p := ⟨w.heap.size + 1, 12, none⟩) (by simp)).trans (by simp [go_sem])
        have el0 : wr.cell? ⟨b, off + k * 15, none⟩ = some (.int .i64 eo) := ((HO.out.out.below).cell (p := ⟨b, off + k * 15 + 0, none⟩) (by have := hold.lt; simp; omega)).trans (HE.out 0 (by omega))
        have el1 : wr.cell? ⟨b, off + k * 15 + 1, none⟩ = some (.int .i64 ef) := ((HO.out.out.below).cell (p := ⟨b, off + k * 15 + 1, none⟩) (by have := hold.lt; simp; omega)).trans (HE.out 1 (by omega))
        have el2 : wr.cell? ⟨b, off + k * 15 + 2, none⟩ = some (.int .i64 y.g) := ((HO.out.out.below).cell (p := ⟨b, off + k * 15 + 2, none⟩) (by have := hold.lt; simp; omega)).trans (HE.out 2 (by omega))
        have el3 : wr.cell? ⟨b, off + k * 15 + 3, none⟩ = some (.int .i64 y.n) := ((HO.out.out.below).cell (p := ⟨b, off + k * 15 + 3, none⟩) (by have := hold.lt; simp; omega)).trans (HE.out 3 (by omega))
        have el4 : wr.cell? ⟨b, off + k * 15 + 4, none⟩ = some (.bool y.s) := ((HO.out.out.below).cell (p := ⟨b, off + k * 15 + 4, none⟩) (by have := hold.lt; simp; omega)).trans (HE.out 4 (by omega))
        have el5 : wr.cell? ⟨b, off + k * 15 + 5, none⟩ = some (.int .i64 y.rg) := ((HO.out.out.below).cell (p := ⟨b, off + k * 15 + 5, none⟩) (by have := hold.lt; simp; omega)).trans (HE.out 5 (by omega))
        have el6 : wr.cell? ⟨b, off + k * 15 + 6, none⟩ = some (.int .i64 y.rn) := ((HO.out.out.below).cell (p := ⟨b, off + k * 15 + 6, none⟩) (by have := hold.lt; simp; omega)).trans (HE.out 6 (by omega))
        have el7 : wr.cell? ⟨b, off + k * 15 + 7, none⟩ = some (.int .i64 (y.c 0)) := ((HO.out.out.below).cell (p := ⟨b, off + k * 15 + 7, none⟩) (by have := hold.lt; simp; omega)).trans (HE.out 7 (by omega))
        have el8 : wr.cell? ⟨b, off + k * 15 + 8, none⟩ = some (.int .i64 (y.c 1)) := ((HO.out.out.below).cell (p := ⟨b, off + k * 15 + 8, none⟩) (by have := hold.lt; simp; omega)).trans (HE.out 8 (by omega))
        have el9 : wr.cell? ⟨b, off + k * 15 + 9, none⟩ = some (.int .i64 (y.c 2)) := ((HO.out.out.below).cell (p := ⟨b, off + k * 15 + 9, none⟩) (by have := hold.lt; simp; omega)).trans (HE.out 9 (by omega))
        have el10 : wr.cell? ⟨b, off + k * 15 + 10, none⟩ = some (.int .i64 (y.c 3)) := ((HO.out.out.below).cell (p := ⟨b, off + k * 15 + 10, none⟩) (by have := hold.lt; simp; omega)).trans (HE.out 10 (by omega))
        have el11 : wr.cell? ⟨b, off + k * 15 + 11, none⟩ = some (.int .i64 (y.c 4)) := ((HO.out.out.below).cell (p := ⟨b, off + k * 15 + 11, none⟩) (by have := hold.lt; simp; omega)).trans (HE.out 11 (by omega))
        have el12 : wr.cell? ⟨b, off + k * 15 + 12, none⟩ = some (.int .i64 (y.c 5)) := ((HO.out.out.below).cell (p := ⟨b, off + k * 15 + 12, none⟩) (by have := hold.lt; simp; omega)).trans (HE.out 12 (by omega))
        have el13 : wr.cell? ⟨b, off + k * 15 + 13, none⟩ = some (.int .i64 (y.c 6)) := ((HO.out.out.below).cell (p := ⟨b, off + k * 15 + 13, none⟩) (by have := hold.lt; simp; omega)).trans (HE.out 13 (by omega))
        have el14 : wr.cell? ⟨b, off + k * 15 + 14, none⟩ = some (.int .i64 (y.c 7)) := ((HO.out.out.below).cell (p := ⟨b, off + k * 15 + 14, none⟩) (by have := hold.lt; simp; omega)).trans (HE.out 14 (by omega))
        have ow0 : Old w.heap.size wr := Old.of_cell bl0
        have ow1 : Old (w.heap.size + 1) wr := Old.of_cell bw0
        have ow2 : Old b wr := Old.of_cell el0
        go_wp2
        refine wp_region_gw (by kernel_rfl) (by kernel_rfl) ?_
        repeat (quiet_step (first | (go_at_call 33; exact Gives.call (HLs.out _))))
        refine wpQuiet_nil ?_
        intro _ hw'
        obtain ⟨p1, hw''⟩ := hw'
        subst hw''
        have ho2 := HO.out.out.gw p1
        clear bl0 bl1 bw0 bw1 bw2 bw3 bw4 bw5 bw6 bw7 bw8 bw9 bw10 bw11 bw12 el0 el1 el2 el3 el4 el5 el6 el7 el8 el9 el10 el11 el12 el13 el14 ow0 ow1 ow2
        generalize gw wr p1 = wr2 at *
        have HO2 := Lib.hid ho2
        clear ho2
        have bl0 : wr2.cell? ⟨w.heap.size, 0, none⟩ = some (.int .i64 o) := ((HO2.out.below).cell (p := ⟨w.heap.size, 0, none⟩) (by simp; omega)).trans (by simp [go_sem])
        have bl1 : wr2.cell? ⟨w.heap.size, 1, none⟩ = some (.int .i64 f) := ((HO2.out.below).cell (p := ⟨w.heap.size, 1, none⟩) (by simp; omega)).trans (by simp [go_sem])
        have bw0 : wr2.cell? ⟨w.heap.size + 1, 0, none⟩ = some (.int .i64 x.g) := ((HO2.out.below).cell (p := ⟨w.heap.size + 1, 0, none⟩) (by simp)).trans (by simp [go_sem])
        have bw1 : wr2.cell? ⟨w.heap.size + 1, 1, none⟩ = some (.int .i64 x.n) := ((HO2.out.below).cell (p := ⟨w.heap.size + 1, 1, none⟩) (by simp)).trans (by simp [go_sem])
        have bw2 : wr2.cell? ⟨w.heap.size + 1, 2, none⟩ = some (.bool x.s) := ((HO2.out.below).cell (p := ⟨w.heap.size + 1, 2, none⟩) (by simp)).trans (by simp [go_sem])
        have bw3 : wr2.cell? ⟨w.heap.size + 1, 3, none⟩ = some (.int .i64 x.rg) := ((HO2.out.below).cell (p := ⟨w.heap.size + 1, 3, none⟩) (by simp)).trans (by simp [go_sem])
        have bw4 : wr2.cell? ⟨w.heap.size + 1, 4, none⟩ = some (.int .i64 x.rn) := ((HO2.out.below).cell (p := ⟨w.heap.size + 1, 4, none⟩) (by simp)).trans (by simp [go_sem])
        have bw5 : wr2.cell? ⟨w.heap.size + 1, 5, none⟩ = some (.int .i64 (x.c 0)) := ((HO2.out.below).cell (p := ⟨w.heap.size + 1, 5, none⟩) (by simp)).trans (by simp [go_sem])
        have bw6 : wr2.cell? ⟨w.heap.size + 1, 6, none⟩ = some (.int .i64 (x.c 1)) := ((HO2.out.below).cell (p := ⟨w.heap.size + 1, 6, none⟩) (by simp)).trans (by simp [go_sem])
        have bw7 : wr2.cell? ⟨w.heap.size + 1, 7, none⟩ = some (.int .i64 (x.c 2)) := ((HO2.out.below).cell (p := ⟨w.heap.size + 1, 7, none⟩) (by simp)).trans (by simp [go_sem])
        have bw8 : wr2.cell? ⟨w.heap.size + 1, 8, none⟩ = some (.int .i64 (x.c 3)) := ((HO2.out.below).cell (p := ⟨w.heap.size + 1, 8, none⟩) (by simp)).trans (by simp [go_sem])
        have bw9 : wr2.cell? ⟨w.heap.size + 1, 9, none⟩ = some (.int .i64 (x.c 4)) := ((HO2.out.below).cell (p := ⟨w.heap.size + 1, 9, none⟩) (by simp)).trans (by simp [go_sem])
        have bw10 : wr2.cell? ⟨w.heap.size + 1, 10, none⟩ = some (.int .i64 (x.c 5)) := ((HO2.out.below).cell (p := ⟨w.heap.size + 1, 10, none⟩) (by simp)).trans (by simp [go_sem])
        have bw11 : wr2.cell? ⟨w.heap.size + 1, 11, none⟩ = some (.int .i64 (x.c 6)) := ((HO2.out.below).cell (p := ⟨w.heap.size + 1, 11, none⟩) (by simp)).trans (by simp [go_sem])
        have bw12 : wr2.cell? ⟨w.heap.size + 1, 12, none⟩ = some (.int .i64 (x.c 7)) := ((HO2.out.below).cell (p := ⟨w.heap.size + 1, 12, none⟩) (by simp)).trans (by simp [go_sem])
        have el0 : wr2.cell? ⟨b, off + k * 15, none⟩ = some (.int .i64 eo) := ((HO2.out.below).cell (p := ⟨b, off + k * 15 + 0, none⟩) (by have := hold.lt; simp; omega)).trans (HE.out 0 (by omega))
        have el1 : wr2.cell? ⟨b, off + k * 15 + 1, none⟩ = some (.int .i64 ef) := ((HO2.out.below).cell (p := ⟨b, off + k * 15 + 1, none⟩) (by have := hold.lt; simp; omega)).trans (HE.out 1 (by omega))
        have el2 : wr2.cell? ⟨b, off + k * 15 + 2, none⟩ = some (.int .i64 y.g) := ((HO2.out.below).cell (p := ⟨b, off + k * 15 + 2, none⟩) (by have := hold.lt; simp; omega)).trans (HE.out 2 (by omega))
        have el3 : wr2.cell? ⟨b, off + k * 15 + 3, none⟩ = some (.int .i64 y.n) := ((HO2.out.below).cell (p := ⟨b, off + k * 15 + 3, none⟩) (by have := hold.lt; simp; omega)).trans (HE.out 3 (by omega))
        have el4 : wr2.cell? ⟨b, off + k * 15 + 4, none⟩ = some (.bool y.s) := ((HO2.out.below).cell (p := ⟨b, off + k * 15 + 4, none⟩) (by have := hold.lt; simp; omega)).trans (HE.out 4 (by omega))
        have el5 : wr2.cell? ⟨b, off + k * 15 + 5, none⟩ = some (.int .i64 y.rg) := ((HO2.out.below).cell (p := ⟨b, off + k * 15 + 5, none⟩) (by have := hold.lt; simp; omega)).trans (HE.out 5 (by omega))
        have el6 : wr2.cell? ⟨b, off + k * 15 + 6, none⟩ = some (.int .i64 y.rn) := ((HO2.out.below).cell (p := ⟨b, off + k * 15 + 6, none⟩) (by have := hold.lt; simp; omega)).trans (HE.out 6 (by omega))
        have el7 : wr2.cell? ⟨b, off + k * 15 + 7, none⟩ = some (.int .i64 (y.c 0)) := ((HO2.out.below).cell (p := ⟨b, off + k * 15 + 7, none⟩) (by have := hold.lt; simp; omega)).trans (HE.out 7 (by omega))
        have el8 : wr2.cell? ⟨b, off + k * 15 + 8, none⟩ = some (.int .i64 (y.c 1)) := ((HO2.out.below).cell (p := ⟨b, off + k * 15 + 8, none⟩) (by have := hold.lt; simp; omega)).trans (HE.out 8 (by omega))
        have el9 : wr2.cell? ⟨b, off + k * 15 + 9, none⟩ = some (.int .i64 (y.c 2)) := ((HO2.out.below).cell (p := ⟨b, off + k * 15 + 9, none⟩) (by have := hold.lt; simp; omega)).trans (HE.out 9 (by omega))
        have el10 : wr2.cell? ⟨b, off + k * 15 + 10, none⟩ = some (.int .i64 (y.c 3)) := ((HO2.out.below).cell (p := ⟨b, off + k * 15 + 10, none⟩) (by have := hold.lt; simp; omega)).trans (HE.out 10 (by omega))
        have el11 : wr2.cell? ⟨b, off + k * 15 + 11, none⟩ = some (.int .i64 (y.c 4)) := ((HO2.out.below).cell (p := ⟨b, off + k * 15 + 11, none⟩) (by have := hold.lt; simp; omega)).trans (HE.out 11 (by omega))
        have el12 : wr2.cell? ⟨b, off + k * 15 + 12, none⟩ = some (.int .i64 (y.c 5)) := ((HO2.out.below).cell (p := ⟨b, off + k * 15 + 12, none⟩) (by have := hold.lt; simp; omega)).trans (HE.out 12 (by omega))
        have el13 : wr2.cell? ⟨b, off + k * 15 + 13, none⟩ = some (.int .i64 (y.c 6)) := ((HO2.out.below).cell (p := ⟨b, off + k * 15 + 13, none⟩) (by have := hold.lt; simp; omega)).trans (HE.out 13 (by omega))
        have el14 : wr2.cell? ⟨b, off + k * 15 + 14, none⟩ = some (.int .i64 (y.c 7)) := ((HO2.out.below).cell (p := ⟨b, off + k * 15 + 14, none⟩) (by have := hold.lt; simp; omega)).trans (HE.out 14 (by omega))
        have ow0 : Old w.heap.size wr2 := Old.of_cell bl0
        have ow1 : Old (w.heap.size + 1) wr2 := Old.of_cell bw0
        have ow2 : Old b wr2 := Old.of_cell el0
        go_wp2_with (refine wpList_append_own _ rfl _ _ 29 rfl _ 55 i0 z0 15 120 rfl HI.out.1 HI.out.2.1 HI.out.2.2.1 HI.out.2.2.2.1 HI.out.2.2.2.2 (by omega) u7 out.length (out.flatMap entC) rfl ((HO2.out.own).alloc _) ⟨(wr2).heap.size, 0, none⟩ 1 1 (entC ((o, f, x) : Ent)) rfl rfl (news_row _ (entC ((o, f, x) : Ent)) _) (by simp [Value.oneCell']) (by have := HO.out.len; simp only [maxLen]; omega) (by have := HO.out.len; omega) (by have := HO2.out.below.size; simp at this ⊢; omega) ?_; intro v5 w5 hown hgrow hnil; have HM5 := Lib.hid (HO2.out.app hown hgrow); clear hown hgrow hnil; refine Stop.here ?_)
        refine Stop.on ?_
        have HL5 := Lib.hid (show (out ++ [((o, f, x) : Ent)]).length ≤ 2 * k + 1 by have := HO.out.len; simp; omega)
        clear bl0 bl1 bw0 bw1 bw2 bw3 bw4 bw5 bw6 bw7 bw8 bw9 bw10 bw11 bw12 el0 el1 el2 el3 el4 el5 el6 el7 el8 el9 el10 el11 el12 el13 el14 ow0 ow1 ow2
        have bl0 : w5.cell? ⟨w.heap.size, 0, none⟩ = some (.int .i64 o) := ((HM5.out.below).cell (p := ⟨w.heap.size, 0, none⟩) (by simp; omega)).trans (by simp [go_sem])
        have bl1 : w5.cell? ⟨w.heap.size, 1, none⟩ = some (.int .i64 f) := ((HM5.out.below).cell (p := ⟨w.heap.size, 1, none⟩) (by simp; omega)).trans (by simp [go_sem])
        have bw0 : w5.cell? ⟨w.heap.size + 1, 0, none⟩ = some (.int .i64 x.g) := ((HM5.out.below).cell (p := ⟨w.heap.size + 1, 0, none⟩) (by simp)).trans (by simp [go_sem])
        have bw1 : w5.cell? ⟨w.heap.size + 1, 1, none⟩ = some (.int .i64 x.n) := ((HM5.out.below).cell (p := ⟨w.heap.size + 1, 1, none⟩) (by simp)).trans (by simp [go_sem])
        have bw2 : w5.cell? ⟨w.heap.size + 1, 2, none⟩ = some (.bool x.s) := ((HM5.out.below).cell (p := ⟨w.heap.size + 1, 2, none⟩) (by simp)).trans (by simp [go_sem])
        have bw3 : w5.cell? ⟨w.heap.size + 1, 3, none⟩ = some (.int .i64 x.rg) := ((HM5.out.below).cell (p := ⟨w.heap.size + 1, 3, none⟩) (by simp)).trans (by simp [go_sem])
        have bw4 : w5.cell? ⟨w.heap.size + 1, 4, none⟩ = some (.int .i64 x.rn) := ((HM5.out.below).cell (p := ⟨w.heap.size + 1, 4, none⟩) (by simp)).trans (by simp [go_sem])
        have bw5 : w5.cell? ⟨w.heap.size + 1, 5, none⟩ = some (.int .i64 (x.c 0)) := ((HM5.out.below).cell (p := ⟨w.heap.size + 1, 5, none⟩) (by simp)).trans (by simp [go_sem])
        have bw6 : w5.cell? ⟨w.heap.size + 1, 6, none⟩ = some (.int .i64 (x.c 1)) := ((HM5.out.below).cell (p := ⟨w.heap.size + 1, 6, none⟩) (by simp)).trans (by simp [go_sem])
        have bw7 : w5.cell? ⟨w.heap.size + 1, 7, none⟩ = some (.int .i64 (x.c 2)) := ((HM5.out.below).cell (p := ⟨w.heap.size + 1, 7, none⟩) (by simp)).trans (by simp [go_sem])
        have bw8 : w5.cell? ⟨w.heap.size + 1, 8, none⟩ = some (.int .i64 (x.c 3)) := ((HM5.out.below).cell (p := ⟨w.heap.size + 1, 8, none⟩) (by simp)).trans (by simp [go_sem])
        have bw9 : w5.cell? ⟨w.heap.size + 1, 9, none⟩ = some (.int .i64 (x.c 4)) := ((HM5.out.below).cell (p := ⟨w.heap.size + 1, 9, none⟩) (by simp)).trans (by simp [go_sem])
        have bw10 : w5.cell? ⟨w.heap.size + 1, 10, none⟩ = some (.int .i64 (x.c 5)) := ((HM5.out.below).cell (p := ⟨w.heap.size + 1, 10, none⟩) (by simp)).trans (by simp [go_sem])
        have bw11 : w5.cell? ⟨w.heap.size + 1, 11, none⟩ = some (.int .i64 (x.c 6)) := ((HM5.out.below).cell (p := ⟨w.heap.size + 1, 11, none⟩) (by simp)).trans (by simp [go_sem])
        have bw12 : w5.cell? ⟨w.heap.size + 1, 12, none⟩ = some (.int .i64 (x.c 7)) := ((HM5.out.below).cell (p := ⟨w.heap.size + 1, 12, none⟩) (by simp)).trans (by simp [go_sem])
        have el0 : w5.cell? ⟨b, off + k * 15, none⟩ = some (.int .i64 eo) := ((HM5.out.below).cell (p := ⟨b, off + k * 15 + 0, none⟩) (by have := hold.lt; simp; omega)).trans (HE.out 0 (by omega))
        have el1 : w5.cell? ⟨b, off + k * 15 + 1, none⟩ = some (.int .i64 ef) := ((HM5.out.below).cell (p := ⟨b, off + k * 15 + 1, none⟩) (by have := hold.lt; simp; omega)).trans (HE.out 1 (by omega))
        have el2 : w5.cell? ⟨b, off + k * 15 + 2, none⟩ = some (.int .i64 y.g) := ((HM5.out.below).cell (p := ⟨b, off + k * 15 + 2, none⟩) (by have := hold.lt; simp; omega)).trans (HE.out 2 (by omega))
        have el3 : w5.cell? ⟨b, off + k * 15 + 3, none⟩ = some (.int .i64 y.n) := ((HM5.out.below).cell (p := ⟨b, off + k * 15 + 3, none⟩) (by have := hold.lt; simp; omega)).trans (HE.out 3 (by omega))
        have el4 : w5.cell? ⟨b, off + k * 15 + 4, none⟩ = some (.bool y.s) := ((HM5.out.below).cell (p := ⟨b, off + k * 15 + 4, none⟩) (by have := hold.lt; simp; omega)).trans (HE.out 4 (by omega))
        have el5 : w5.cell? ⟨b, off + k * 15 + 5, none⟩ = some (.int .i64 y.rg) := ((HM5.out.below).cell (p := ⟨b, off + k * 15 + 5, none⟩) (by have := hold.lt; simp; omega)).trans (HE.out 5 (by omega))
        have el6 : w5.cell? ⟨b, off + k * 15 + 6, none⟩ = some (.int .i64 y.rn) := ((HM5.out.below).cell (p := ⟨b, off + k * 15 + 6, none⟩) (by have := hold.lt; simp; omega)).trans (HE.out 6 (by omega))
        have el7 : w5.cell? ⟨b, off + k * 15 + 7, none⟩ = some (.int .i64 (y.c 0)) := ((HM5.out.below).cell (p := ⟨b, off + k * 15 + 7, none⟩) (by have := hold.lt; simp; omega)).trans (HE.out 7 (by omega))
        have el8 : w5.cell? ⟨b, off + k * 15 + 8, none⟩ = some (.int .i64 (y.c 1)) := ((HM5.out.below).cell (p := ⟨b, off + k * 15 + 8, none⟩) (by have := hold.lt; simp; omega)).trans (HE.out 8 (by omega))
        have el9 : w5.cell? ⟨b, off + k * 15 + 9, none⟩ = some (.int .i64 (y.c 2)) := ((HM5.out.below).cell (p := ⟨b, off + k * 15 + 9, none⟩) (by have := hold.lt; simp; omega)).trans (HE.out 9 (by omega))
        have el10 : w5.cell? ⟨b, off + k * 15 + 10, none⟩ = some (.int .i64 (y.c 3)) := ((HM5.out.below).cell (p := ⟨b, off + k * 15 + 10, none⟩) (by have := hold.lt; simp; omega)).trans (HE.out 10 (by omega))
        have el11 : w5.cell? ⟨b, off + k * 15 + 11, none⟩ = some (.int .i64 (y.c 4)) := ((HM5.out.below).cell (p := ⟨b, off + k * 15 + 11, none⟩) (by have := hold.lt; simp; omega)).trans (HE.out 11 (by omega))
        have el12 : w5.cell? ⟨b, off + k * 15 + 12, none⟩ = some (.int .i64 (y.c 5)) := ((HM5.out.below).cell (p := ⟨b, off + k * 15 + 12, none⟩) (by have := hold.lt; simp; omega)).trans (HE.out 12 (by omega))
        have el13 : w5.cell? ⟨b, off + k * 15 + 13, none⟩ = some (.int .i64 (y.c 6)) := ((HM5.out.below).cell (p := ⟨b, off + k * 15 + 13, none⟩) (by have := hold.lt; simp; omega)).trans (HE.out 13 (by omega))
        have el14 : w5.cell? ⟨b, off + k * 15 + 14, none⟩ = some (.int .i64 (y.c 7)) := ((HM5.out.below).cell (p := ⟨b, off + k * 15 + 14, none⟩) (by have := hold.lt; simp; omega)).trans (HE.out 14 (by omega))
        have ow0 : Old w.heap.size w5 := Old.of_cell bl0
        have ow1 : Old (w.heap.size + 1) w5 := Old.of_cell bw0
        have ow2 : Old b w5 := Old.of_cell el0
        go_wp2
        refine wp_region_gw (by kernel_rfl) (by kernel_rfl) ?_
        repeat (quiet_step (first | fail))
        refine wpQuiet_nil ?_
        intro _ hw'
        obtain ⟨p2, hw''⟩ := hw'
        subst hw''
        have ho2 := HM5.out.gw p2
        clear bl0 bl1 bw0 bw1 bw2 bw3 bw4 bw5 bw6 bw7 bw8 bw9 bw10 bw11 bw12 el0 el1 el2 el3 el4 el5 el6 el7 el8 el9 el10 el11 el12 el13 el14 ow0 ow1 ow2
        generalize gw w5 p2 = wr6 at *
        have HO6 := Lib.hid ho2
        clear ho2
        have bl0 : wr6.cell? ⟨w.heap.size, 0, none⟩ = some (.int .i64 o) := ((HO6.out.below).cell (p := ⟨w.heap.size, 0, none⟩) (by simp; omega)).trans (by simp [go_sem])
        have bl1 : wr6.cell? ⟨w.heap.size, 1, none⟩ = some (.int .i64 f) := ((HO6.out.below).cell (p := ⟨w.heap.size, 1, none⟩) (by simp; omega)).trans (by simp [go_sem])
        have bw0 : wr6.cell? ⟨w.heap.size + 1, 0, none⟩ = some (.int .i64 x.g) := ((HO6.out.below).cell (p := ⟨w.heap.size + 1, 0, none⟩) (by simp)).trans (by simp [go_sem])
        have bw1 : wr6.cell? ⟨w.heap.size + 1, 1, none⟩ = some (.int .i64 x.n) := ((HO6.out.below).cell (p := ⟨w.heap.size + 1, 1, none⟩) (by simp)).trans (by simp [go_sem])
        have bw2 : wr6.cell? ⟨w.heap.size + 1, 2, none⟩ = some (.bool x.s) := ((HO6.out.below).cell (p := ⟨w.heap.size + 1, 2, none⟩) (by simp)).trans (by simp [go_sem])
        have bw3 : wr6.cell? ⟨w.heap.size + 1, 3, none⟩ = some (.int .i64 x.rg) := ((HO6.out.below).cell (p := ⟨w.heap.size + 1, 3, none⟩) (by simp)).trans (by simp [go_sem])
        have bw4 : wr6.cell? ⟨w.heap.size + 1, 4, none⟩ = some (.int .i64 x.rn) := ((HO6.out.below).cell (p := ⟨w.heap.size + 1, 4, none⟩) (by simp)).trans (by simp [go_sem])
        have bw5 : wr6.cell? ⟨w.heap.size + 1, 5, none⟩ = some (.int .i64 (x.c 0)) := ((HO6.out.below).cell (p := ⟨w.heap.size + 1, 5, none⟩) (by simp)).trans (by simp [go_sem])
        have bw6 : wr6.cell? ⟨w.heap.size + 1, 6, none⟩ = some (.int .i64 (x.c 1)) := ((HO6.out.below).cell (p := ⟨w.heap.size + 1, 6, none⟩) (by simp)).trans (by simp [go_sem])
        have bw7 : wr6.cell? ⟨w.heap.size + 1, 7, none⟩ = some (.int .i64 (x.c 2)) := ((HO6.out.below).cell (p := ⟨w.heap.size + 1, 7, none⟩) (by simp)).trans (by simp [go_sem])
        have bw8 : wr6.cell? ⟨w.heap.size + 1, 8, none⟩ = some (.int .i64 (x.c 3)) := ((HO6.out.below).cell (p := ⟨w.heap.size + 1, 8, none⟩) (by simp)).trans (by simp [go_sem])
        have bw9 : wr6.cell? ⟨w.heap.size + 1, 9, none⟩ = some (.int .i64 (x.c 4)) := ((HO6.out.below).cell (p := ⟨w.heap.size + 1, 9, none⟩) (by simp)).trans (by simp [go_sem])
        have bw10 : wr6.cell? ⟨w.heap.size + 1, 10, none⟩ = some (.int .i64 (x.c 5)) := ((HO6.out.below).cell (p := ⟨w.heap.size + 1, 10, none⟩) (by simp)).trans (by simp [go_sem])
        have bw11 : wr6.cell? ⟨w.heap.size + 1, 11, none⟩ = some (.int .i64 (x.c 6)) := ((HO6.out.below).cell (p := ⟨w.heap.size + 1, 11, none⟩) (by simp)).trans (by simp [go_sem])
        have bw12 : wr6.cell? ⟨w.heap.size + 1, 12, none⟩ = some (.int .i64 (x.c 7)) := ((HO6.out.below).cell (p := ⟨w.heap.size + 1, 12, none⟩) (by simp)).trans (by simp [go_sem])
        have el0 : wr6.cell? ⟨b, off + k * 15, none⟩ = some (.int .i64 eo) := ((HO6.out.below).cell (p := ⟨b, off + k * 15 + 0, none⟩) (by have := hold.lt; simp; omega)).trans (HE.out 0 (by omega))
        have el1 : wr6.cell? ⟨b, off + k * 15 + 1, none⟩ = some (.int .i64 ef) := ((HO6.out.below).cell (p := ⟨b, off + k * 15 + 1, none⟩) (by have := hold.lt; simp; omega)).trans (HE.out 1 (by omega))
        have el2 : wr6.cell? ⟨b, off + k * 15 + 2, none⟩ = some (.int .i64 y.g) := ((HO6.out.below).cell (p := ⟨b, off + k * 15 + 2, none⟩) (by have := hold.lt; simp; omega)).trans (HE.out 2 (by omega))
        have el3 : wr6.cell? ⟨b, off + k * 15 + 3, none⟩ = some (.int .i64 y.n) := ((HO6.out.below).cell (p := ⟨b, off + k * 15 + 3, none⟩) (by have := hold.lt; simp; omega)).trans (HE.out 3 (by omega))
        have el4 : wr6.cell? ⟨b, off + k * 15 + 4, none⟩ = some (.bool y.s) := ((HO6.out.below).cell (p := ⟨b, off + k * 15 + 4, none⟩) (by have := hold.lt; simp; omega)).trans (HE.out 4 (by omega))
        have el5 : wr6.cell? ⟨b, off + k * 15 + 5, none⟩ = some (.int .i64 y.rg) := ((HO6.out.below).cell (p := ⟨b, off + k * 15 + 5, none⟩) (by have := hold.lt; simp; omega)).trans (HE.out 5 (by omega))
        have el6 : wr6.cell? ⟨b, off + k * 15 + 6, none⟩ = some (.int .i64 y.rn) := ((HO6.out.below).cell (p := ⟨b, off + k * 15 + 6, none⟩) (by have := hold.lt; simp; omega)).trans (HE.out 6 (by omega))
        have el7 : wr6.cell? ⟨b, off + k * 15 + 7, none⟩ = some (.int .i64 (y.c 0)) := ((HO6.out.below).cell (p := ⟨b, off + k * 15 + 7, none⟩) (by have := hold.lt; simp; omega)).trans (HE.out 7 (by omega))
        have el8 : wr6.cell? ⟨b, off + k * 15 + 8, none⟩ = some (.int .i64 (y.c 1)) := ((HO6.out.below).cell (p := ⟨b, off + k * 15 + 8, none⟩) (by have := hold.lt; simp; omega)).trans (HE.out 8 (by omega))
        have el9 : wr6.cell? ⟨b, off + k * 15 + 9, none⟩ = some (.int .i64 (y.c 2)) := ((HO6.out.below).cell (p := ⟨b, off + k * 15 + 9, none⟩) (by have := hold.lt; simp; omega)).trans (HE.out 9 (by omega))
        have el10 : wr6.cell? ⟨b, off + k * 15 + 10, none⟩ = some (.int .i64 (y.c 3)) := ((HO6.out.below).cell (p := ⟨b, off + k * 15 + 10, none⟩) (by have := hold.lt; simp; omega)).trans (HE.out 10 (by omega))
        have el11 : wr6.cell? ⟨b, off + k * 15 + 11, none⟩ = some (.int .i64 (y.c 4)) := ((HO6.out.below).cell (p := ⟨b, off + k * 15 + 11, none⟩) (by have := hold.lt; simp; omega)).trans (HE.out 11 (by omega))
        have el12 : wr6.cell? ⟨b, off + k * 15 + 12, none⟩ = some (.int .i64 (y.c 5)) := ((HO6.out.below).cell (p := ⟨b, off + k * 15 + 12, none⟩) (by have := hold.lt; simp; omega)).trans (HE.out 12 (by omega))
        have el13 : wr6.cell? ⟨b, off + k * 15 + 13, none⟩ = some (.int .i64 (y.c 6)) := ((HO6.out.below).cell (p := ⟨b, off + k * 15 + 13, none⟩) (by have := hold.lt; simp; omega)).trans (HE.out 13 (by omega))
        have el14 : wr6.cell? ⟨b, off + k * 15 + 14, none⟩ = some (.int .i64 (y.c 7)) := ((HO6.out.below).cell (p := ⟨b, off + k * 15 + 14, none⟩) (by have := hold.lt; simp; omega)).trans (HE.out 14 (by omega))
        have ow0 : Old w.heap.size wr6 := Old.of_cell bl0
        have ow1 : Old (w.heap.size + 1) wr6 := Old.of_cell bw0
        have ow2 : Old b wr6 := Old.of_cell el0
        go_wp2_with (refine wpList_append_own _ rfl _ _ 29 rfl _ 55 i0 z0 15 120 rfl HI.out.1 HI.out.2.1 HI.out.2.2.1 HI.out.2.2.2.1 HI.out.2.2.2.2 (by omega) v5 (out ++ [(o, f, x)]).length ((out ++ [(o, f, x)]).flatMap entC) rfl ((HO6.out.own).alloc _) ⟨(wr6).heap.size, 0, none⟩ 1 1 (entC ((eo, ef, y) : Ent)) rfl rfl (news_row _ (entC ((eo, ef, y) : Ent)) _) (by simp [Value.oneCell']) (by have := HL5.out; simp only [maxLen]; omega) (by have := HL5.out; omega) (by have := HO6.out.below.size; simp at this ⊢; omega) ?_; intro v7 w7 hown hgrow hnil; have HM7 := Lib.hid (HO6.out.app hown hgrow); clear hown hgrow hnil; refine Stop.here ?_)
        refine Stop.on ?_
        go_wp2
        go_roundw
        case rel => exact ⟨k + 1, true, out ++ [(o, f, x)] ++ [(eo, ef, y)], by omega, by go_num, rfl, ⟨by rw [← HO.out.eq, HS.out]; simp, by have := HO.out.len; simp; omega, HM7.out⟩⟩
        case measure => simp [intOf]; omega
      · cases d
        · have hls : ls = false := by cases ls <;> simp_all
          subst hls
          clear hA HLX
          cases il
          · have bl0 : wr.cell? ⟨w.heap.size, 0, none⟩ = some (.int .i64 o) := ((HO.out.out.below).cell (p := ⟨w.heap.size, 0, none⟩) (by simp; omega)).trans (by simp [go_sem])
            have bl1 : wr.cell? ⟨w.heap.size, 1, none⟩ = some (.int .i64 f) := ((HO.out.out.below).cell (p := ⟨w.heap.size, 1, none⟩) (by simp; omega)).trans (by simp [go_sem])
            have bw0 : wr.cell? ⟨w.heap.size + 1, 0, none⟩ = some (.int .i64 x.g) := ((HO.out.out.below).cell (p := ⟨w.heap.size + 1, 0, none⟩) (by simp)).trans (by simp [go_sem])
            have bw1 : wr.cell? ⟨w.heap.size + 1, 1, none⟩ = some (.int .i64 x.n) := ((HO.out.out.below).cell (p := ⟨w.heap.size + 1, 1, none⟩) (by simp)).trans (by simp [go_sem])
            have bw2 : wr.cell? ⟨w.heap.size + 1, 2, none⟩ = some (.bool x.s) := ((HO.out.out.below).cell (p := ⟨w.heap.size + 1, 2, none⟩) (by simp)).trans (by simp [go_sem])
            have bw3 : wr.cell? ⟨w.heap.size + 1, 3, none⟩ = some (.int .i64 x.rg) := ((HO.out.out.below).cell (p := ⟨w.heap.size + 1, 3, none⟩) (by simp)).trans (by simp [go_sem])
            have bw4 : wr.cell? ⟨w.heap.size + 1, 4, none⟩ = some (.int .i64 x.rn) := ((HO.out.out.below).cell (p := ⟨w.heap.size + 1, 4, none⟩) (by simp)).trans (by simp [go_sem])
            have bw5 : wr.cell? ⟨w.heap.size + 1, 5, none⟩ = some (.int .i64 (x.c 0)) := ((HO.out.out.below).cell (p := ⟨w.heap.size + 1, 5, none⟩) (by simp)).trans (by simp [go_sem])
            have bw6 : wr.cell? ⟨w.heap.size + 1, 6, none⟩ = some (.int .i64 (x.c 1)) := ((HO.out.out.below).cell (p := ⟨w.heap.size + 1, 6, none⟩) (by simp)).trans (by simp [go_sem])
            have bw7 : wr.cell? ⟨w.heap.size + 1, 7, none⟩ = some (.int .i64 (x.c 2)) := ((HO.out.out.below).cell (p := ⟨w.heap.size + 1, 7, none⟩) (by simp)).trans (by simp [go_sem])
            have bw8 : wr.cell? ⟨w.heap.size + 1, 8, none⟩ = some (.int .i64 (x.c 3)) := ((HO.out.out.below).cell (p := ⟨w.heap.size + 1, 8, none⟩) (by simp)).trans (by simp [go_sem])
            have bw9 : wr.cell? ⟨w.heap.size + 1, 9, none⟩ = some (.int .i64 (x.c 4)) := ((HO.out.out.below).cell (p := ⟨w.heap.size + 1, 9, none⟩) (by simp)).trans (by simp [go_sem])
            have bw10 : wr.cell? ⟨w.heap.size + 1, 10, none⟩ = some (.int .i64 (x.c 5)) := ((HO.out.out.below).cell (p := ⟨w.heap.size + 1, 10, none⟩) (by simp)).trans (by simp [go_sem])
            have bw11 : wr.cell? ⟨w.heap.size + 1, 11, none⟩ = some (.int .i64 (x.c 6)) := ((HO.out.out.below).cell (p := ⟨w.heap.size + 1, 11, none⟩) (by simp)).trans (by simp [go_sem])
            have bw12 : wr.cell? ⟨w.heap.size + 1, 12, none⟩ = some (.int .i64 (x.c 7)) := ((HO.out.out.below).cell (p := ⟨w.heap.size + 1, 12, none⟩) (by simp)).trans (by simp [go_sem])
            have el0 : wr.cell? ⟨b, off + k * 15, none⟩ = some (.int .i64 eo) := ((HO.out.out.below).cell (p := ⟨b, off + k * 15 + 0, none⟩) (by have := hold.lt; simp; omega)).trans (HE.out 0 (by omega))
            have el1 : wr.cell? ⟨b, off + k * 15 + 1, none⟩ = some (.int .i64 ef) := ((HO.out.out.below).cell (p := ⟨b, off + k * 15 + 1, none⟩) (by have := hold.lt; simp; omega)).trans (HE.out 1 (by omega))
            have el2 : wr.cell? ⟨b, off + k * 15 + 2, none⟩ = some (.int .i64 y.g) := ((HO.out.out.below).cell (p := ⟨b, off + k * 15 + 2, none⟩) (by have := hold.lt; simp; omega)).trans (HE.out 2 (by omega))
            have el3 : wr.cell? ⟨b, off + k * 15 + 3, none⟩ = some (.int .i64 y.n) := ((HO.out.out.below).cell (p := ⟨b, off + k * 15 + 3, none⟩) (by have := hold.lt; simp; omega)).trans (HE.out 3 (by omega))
            have el4 : wr.cell? ⟨b, off + k * 15 + 4, none⟩ = some (.bool y.s) := ((HO.out.out.below).cell (p := ⟨b, off + k * 15 + 4, none⟩) (by have := hold.lt; simp; omega)).trans (HE.out 4 (by omega))
            have el5 : wr.cell? ⟨b, off + k * 15 + 5, none⟩ = some (.int .i64 y.rg) := ((HO.out.out.below).cell (p := ⟨b, off + k * 15 + 5, none⟩) (by have := hold.lt; simp; omega)).trans (HE.out 5 (by omega))
            have el6 : wr.cell? ⟨b, off + k * 15 + 6, none⟩ = some (.int .i64 y.rn) := ((HO.out.out.below).cell (p := ⟨b, off + k * 15 + 6, none⟩) (by have := hold.lt; simp; omega)).trans (HE.out 6 (by omega))
            have el7 : wr.cell? ⟨b, off + k * 15 + 7, none⟩ = some (.int .i64 (y.c 0)) := ((HO.out.out.below).cell (p := ⟨b, off + k * 15 + 7, none⟩) (by have := hold.lt; simp; omega)).trans (HE.out 7 (by omega))
            have el8 : wr.cell? ⟨b, off + k * 15 + 8, none⟩ = some (.int .i64 (y.c 1)) := ((HO.out.out.below).cell (p := ⟨b, off + k * 15 + 8, none⟩) (by have := hold.lt; simp; omega)).trans (HE.out 8 (by omega))
            have el9 : wr.cell? ⟨b, off + k * 15 + 9, none⟩ = some (.int .i64 (y.c 2)) := ((HO.out.out.below).cell (p := ⟨b, off + k * 15 + 9, none⟩) (by have := hold.lt; simp; omega)).trans (HE.out 9 (by omega))
            have el10 : wr.cell? ⟨b, off + k * 15 + 10, none⟩ = some (.int .i64 (y.c 3)) := ((HO.out.out.below).cell (p := ⟨b, off + k * 15 + 10, none⟩) (by have := hold.lt; simp; omega)).trans (HE.out 10 (by omega))
            have el11 : wr.cell? ⟨b, off + k * 15 + 11, none⟩ = some (.int .i64 (y.c 4)) := ((HO.out.out.below).cell (p := ⟨b, off + k * 15 + 11, none⟩) (by have := hold.lt; simp; omega)).trans (HE.out 11 (by omega))
            have el12 : wr.cell? ⟨b, off + k * 15 + 12, none⟩ = some (.int .i64 (y.c 5)) := ((HO.out.out.below).cell (p := ⟨b, off + k * 15 + 12, none⟩) (by have := hold.lt; simp; omega)).trans (HE.out 12 (by omega))
            have el13 : wr.cell? ⟨b, off + k * 15 + 13, none⟩ = some (.int .i64 (y.c 6)) := ((HO.out.out.below).cell (p := ⟨b, off + k * 15 + 13, none⟩) (by have := hold.lt; simp; omega)).trans (HE.out 13 (by omega))
            have el14 : wr.cell? ⟨b, off + k * 15 + 14, none⟩ = some (.int .i64 (y.c 7)) := ((HO.out.out.below).cell (p := ⟨b, off + k * 15 + 14, none⟩) (by have := hold.lt; simp; omega)).trans (HE.out 14 (by omega))
            have ow0 : Old w.heap.size wr := Old.of_cell bl0
            have ow1 : Old (w.heap.size + 1) wr := Old.of_cell bw0
            have ow2 : Old b wr := Old.of_cell el0
            go_wp2
            refine wp_region_gw (by kernel_rfl) (by kernel_rfl) ?_
            repeat (quiet_step (first | (go_at_call 33; exact Gives.call (HLs.out _))))
            refine wpQuiet_nil ?_
            intro _ hw'
            obtain ⟨p1, hw''⟩ := hw'
            subst hw''
            go_wp2
            refine wp_region_gw (by kernel_rfl) (by kernel_rfl) ?_
            repeat (quiet_step (first | fail))
            refine wpQuiet_nil ?_
            intro _ hw'
            obtain ⟨p2, hw''⟩ := hw'
            subst hw''
            have ho2 := (HO.out.out.gw p1).gw p2
            clear bl0 bl1 bw0 bw1 bw2 bw3 bw4 bw5 bw6 bw7 bw8 bw9 bw10 bw11 bw12 el0 el1 el2 el3 el4 el5 el6 el7 el8 el9 el10 el11 el12 el13 el14 ow0 ow1 ow2
            generalize gw (gw wr p1) p2 = wr6 at *
            have HO6 := Lib.hid ho2
            clear ho2
            have bl0 : wr6.cell? ⟨w.heap.size, 0, none⟩ = some (.int .i64 o) := ((HO6.out.below).cell (p := ⟨w.heap.size, 0, none⟩) (by simp; omega)).trans (by simp [go_sem])
            have bl1 : wr6.cell? ⟨w.heap.size, 1, none⟩ = some (.int .i64 f) := ((HO6.out.below).cell (p := ⟨w.heap.size, 1, none⟩) (by simp; omega)).trans (by simp [go_sem])
            have bw0 : wr6.cell? ⟨w.heap.size + 1, 0, none⟩ = some (.int .i64 x.g) := ((HO6.out.below).cell (p := ⟨w.heap.size + 1, 0, none⟩) (by simp)).trans (by simp [go_sem])
            have bw1 : wr6.cell? ⟨w.heap.size + 1, 1, none⟩ = some (.int .i64 x.n) := ((HO6.out.below).cell (p := ⟨w.heap.size + 1, 1, none⟩) (by simp)).trans (by simp [go_sem])
            have bw2 : wr6.cell? ⟨w.heap.size + 1, 2, none⟩ = some (.bool x.s) := ((HO6.out.below).cell (p := ⟨w.heap.size + 1, 2, none⟩) (by simp)).trans (by simp [go_sem])
            have bw3 : wr6.cell? ⟨w.heap.size + 1, 3, none⟩ = some (.int .i64 x.rg) := ((HO6.out.below).cell (p := ⟨w.heap.size + 1, 3, none⟩) (by simp)).trans (by simp [go_sem])
            have bw4 : wr6.cell? ⟨w.heap.size + 1, 4, none⟩ = some (.int .i64 x.rn) := ((HO6.out.below).cell (p := ⟨w.heap.size + 1, 4, none⟩) (by simp)).trans (by simp [go_sem])
            have bw5 : wr6.cell? ⟨w.heap.size + 1, 5, none⟩ = some (.int .i64 (x.c 0)) := ((HO6.out.below).cell (p := ⟨w.heap.size + 1, 5, none⟩) (by simp)).trans (by simp [go_sem])
            have bw6 : wr6.cell? ⟨w.heap.size + 1, 6, none⟩ = some (.int .i64 (x.c 1)) := ((HO6.out.below).cell (p := ⟨w.heap.size + 1, 6, none⟩) (by simp)).trans (by simp [go_sem])
            have bw7 : wr6.cell? ⟨w.heap.size + 1, 7, none⟩ = some (.int .i64 (x.c 2)) := ((HO6.out.below).cell (p := ⟨w.heap.size + 1, 7, none⟩) (by simp)).trans (by simp [go_sem])
            have bw8 : wr6.cell? ⟨w.heap.size + 1, 8, none⟩ = some (.int .i64 (x.c 3)) := ((HO6.out.below).cell (p := ⟨w.heap.size + 1, 8, none⟩) (by simp)).trans (by simp [go_sem])
            have bw9 : wr6.cell? ⟨w.heap.size + 1, 9, none⟩ = some (.int .i64 (x.c 4)) := ((HO6.out.below).cell (p := ⟨w.heap.size + 1, 9, none⟩) (by simp)).trans (by simp [go_sem])
            have bw10 : wr6.cell? ⟨w.heap.size + 1, 10, none⟩ = some (.int .i64 (x.c 5)) := ((HO6.out.below).cell (p := ⟨w.heap.size + 1, 10, none⟩) (by simp)).trans (by simp [go_sem])
            have bw11 : wr6.cell? ⟨w.heap.size + 1, 11, none⟩ = some (.int .i64 (x.c 6)) := ((HO6.out.below).cell (p := ⟨w.heap.size + 1, 11, none⟩) (by simp)).trans (by simp [go_sem])
            have bw12 : wr6.cell? ⟨w.heap.size + 1, 12, none⟩ = some (.int .i64 (x.c 7)) := ((HO6.out.below).cell (p := ⟨w.heap.size + 1, 12, none⟩) (by simp)).trans (by simp [go_sem])
            have el0 : wr6.cell? ⟨b, off + k * 15, none⟩ = some (.int .i64 eo) := ((HO6.out.below).cell (p := ⟨b, off + k * 15 + 0, none⟩) (by have := hold.lt; simp; omega)).trans (HE.out 0 (by omega))
            have el1 : wr6.cell? ⟨b, off + k * 15 + 1, none⟩ = some (.int .i64 ef) := ((HO6.out.below).cell (p := ⟨b, off + k * 15 + 1, none⟩) (by have := hold.lt; simp; omega)).trans (HE.out 1 (by omega))
            have el2 : wr6.cell? ⟨b, off + k * 15 + 2, none⟩ = some (.int .i64 y.g) := ((HO6.out.below).cell (p := ⟨b, off + k * 15 + 2, none⟩) (by have := hold.lt; simp; omega)).trans (HE.out 2 (by omega))
            have el3 : wr6.cell? ⟨b, off + k * 15 + 3, none⟩ = some (.int .i64 y.n) := ((HO6.out.below).cell (p := ⟨b, off + k * 15 + 3, none⟩) (by have := hold.lt; simp; omega)).trans (HE.out 3 (by omega))
            have el4 : wr6.cell? ⟨b, off + k * 15 + 4, none⟩ = some (.bool y.s) := ((HO6.out.below).cell (p := ⟨b, off + k * 15 + 4, none⟩) (by have := hold.lt; simp; omega)).trans (HE.out 4 (by omega))
            have el5 : wr6.cell? ⟨b, off + k * 15 + 5, none⟩ = some (.int .i64 y.rg) := ((HO6.out.below).cell (p := ⟨b, off + k * 15 + 5, none⟩) (by have := hold.lt; simp; omega)).trans (HE.out 5 (by omega))
            have el6 : wr6.cell? ⟨b, off + k * 15 + 6, none⟩ = some (.int .i64 y.rn) := ((HO6.out.below).cell (p := ⟨b, off + k * 15 + 6, none⟩) (by have := hold.lt; simp; omega)).trans (HE.out 6 (by omega))
            have el7 : wr6.cell? ⟨b, off + k * 15 + 7, none⟩ = some (.int .i64 (y.c 0)) := ((HO6.out.below).cell (p := ⟨b, off + k * 15 + 7, none⟩) (by have := hold.lt; simp; omega)).trans (HE.out 7 (by omega))
            have el8 : wr6.cell? ⟨b, off + k * 15 + 8, none⟩ = some (.int .i64 (y.c 1)) := ((HO6.out.below).cell (p := ⟨b, off + k * 15 + 8, none⟩) (by have := hold.lt; simp; omega)).trans (HE.out 8 (by omega))
            have el9 : wr6.cell? ⟨b, off + k * 15 + 9, none⟩ = some (.int .i64 (y.c 2)) := ((HO6.out.below).cell (p := ⟨b, off + k * 15 + 9, none⟩) (by have := hold.lt; simp; omega)).trans (HE.out 9 (by omega))
            have el10 : wr6.cell? ⟨b, off + k * 15 + 10, none⟩ = some (.int .i64 (y.c 3)) := ((HO6.out.below).cell (p := ⟨b, off + k * 15 + 10, none⟩) (by have := hold.lt; simp; omega)).trans (HE.out 10 (by omega))
            have el11 : wr6.cell? ⟨b, off + k * 15 + 11, none⟩ = some (.int .i64 (y.c 4)) := ((HO6.out.below).cell (p := ⟨b, off + k * 15 + 11, none⟩) (by have := hold.lt; simp; omega)).trans (HE.out 11 (by omega))
            have el12 : wr6.cell? ⟨b, off + k * 15 + 12, none⟩ = some (.int .i64 (y.c 5)) := ((HO6.out.below).cell (p := ⟨b, off + k * 15 + 12, none⟩) (by have := hold.lt; simp; omega)).trans (HE.out 12 (by omega))
            have el13 : wr6.cell? ⟨b, off + k * 15 + 13, none⟩ = some (.int .i64 (y.c 6)) := ((HO6.out.below).cell (p := ⟨b, off + k * 15 + 13, none⟩) (by have := hold.lt; simp; omega)).trans (HE.out 13 (by omega))
            have el14 : wr6.cell? ⟨b, off + k * 15 + 14, none⟩ = some (.int .i64 (y.c 7)) := ((HO6.out.below).cell (p := ⟨b, off + k * 15 + 14, none⟩) (by have := hold.lt; simp; omega)).trans (HE.out 14 (by omega))
            have ow0 : Old w.heap.size wr6 := Old.of_cell bl0
            have ow1 : Old (w.heap.size + 1) wr6 := Old.of_cell bw0
            have ow2 : Old b wr6 := Old.of_cell el0
            go_wp2_with (refine wpList_append_own _ rfl _ _ 29 rfl _ 55 i0 z0 15 120 rfl HI.out.1 HI.out.2.1 HI.out.2.2.1 HI.out.2.2.2.1 HI.out.2.2.2.2 (by omega) u7 out.length (out.flatMap entC) rfl ((HO6.out.own).alloc _) ⟨(wr6).heap.size, 0, none⟩ 1 1 (entC ((eo, ef, y) : Ent)) rfl rfl (news_row _ (entC ((eo, ef, y) : Ent)) _) (by simp [Value.oneCell']) (by have := HO.out.len; simp only [maxLen]; omega) (by have := HO.out.len; omega) (by have := HO6.out.below.size; simp at this ⊢; omega) ?_; intro v7 w7 hown hgrow hnil; have HM7 := Lib.hid (HO6.out.app hown hgrow); clear hown hgrow hnil; refine Stop.here ?_)
            refine Stop.on ?_
            go_wp2
            go_roundw
            case rel => exact ⟨k + 1, false, out ++ [(eo, ef, y)], by omega, by go_num, rfl, ⟨by rw [← HO.out.eq, HS.out]; simp, by have := HO.out.len; simp; omega, HM7.out⟩⟩
            case measure => simp [intOf]; omega
          · have bl0 : wr.cell? ⟨w.heap.size, 0, none⟩ = some (.int .i64 o) := ((HO.out.out.below).cell (p := ⟨w.heap.size, 0, none⟩) (by simp; omega)).trans (by simp [go_sem])
            have bl1 : wr.cell? ⟨w.heap.size, 1, none⟩ = some (.int .i64 f) := ((HO.out.out.below).cell (p := ⟨w.heap.size, 1, none⟩) (by simp; omega)).trans (by simp [go_sem])
            have bw0 : wr.cell? ⟨w.heap.size + 1, 0, none⟩ = some (.int .i64 x.g) := ((HO.out.out.below).cell (p := ⟨w.heap.size + 1, 0, none⟩) (by simp)).trans (by simp [go_sem])
            have bw1 : wr.cell? ⟨w.heap.size + 1, 1, none⟩ = some (.int .i64 x.n) := ((HO.out.out.below).cell (p := ⟨w.heap.size + 1, 1, none⟩) (by simp)).trans (by simp [go_sem])
            have bw2 : wr.cell? ⟨w.heap.size + 1, 2, none⟩ = some (.bool x.s) := ((HO.out.out.below).cell (p := ⟨w.heap.size + 1, 2, none⟩) (by simp)).trans (by simp [go_sem])
            have bw3 : wr.cell? ⟨w.heap.size + 1, 3, none⟩ = some (.int .i64 x.rg) := ((HO.out.out.below).cell (p := ⟨w.heap.size + 1, 3, none⟩) (by simp)).trans (by simp [go_sem])
            have bw4 : wr.cell? ⟨w.heap.size + 1, 4, none⟩ = some (.int .i64 x.rn) := ((HO.out.out.below).cell (p := ⟨w.heap.size + 1, 4, none⟩) (by simp)).trans (by simp [go_sem])
            have bw5 : wr.cell? ⟨w.heap.size + 1, 5, none⟩ = some (.int .i64 (x.c 0)) := ((HO.out.out.below).cell (p := ⟨w.heap.size + 1, 5, none⟩) (by simp)).trans (by simp [go_sem])
            have bw6 : wr.cell? ⟨w.heap.size + 1, 6, none⟩ = some (.int .i64 (x.c 1)) := ((HO.out.out.below).cell (p := ⟨w.heap.size + 1, 6, none⟩) (by simp)).trans (by simp [go_sem])
            have bw7 : wr.cell? ⟨w.heap.size + 1, 7, none⟩ = some (.int .i64 (x.c 2)) := ((HO.out.out.below).cell (p := ⟨w.heap.size + 1, 7, none⟩) (by simp)).trans (by simp [go_sem])
            have bw8 : wr.cell? ⟨w.heap.size + 1, 8, none⟩ = some (.int .i64 (x.c 3)) := ((HO.out.out.below).cell (p := ⟨w.heap.size + 1, 8, none⟩) (by simp)).trans (by simp [go_sem])
            have bw9 : wr.cell? ⟨w.heap.size + 1, 9, none⟩ = some (.int .i64 (x.c 4)) := ((HO.out.out.below).cell (p := ⟨w.heap.size + 1, 9, none⟩) (by simp)).trans (by simp [go_sem])
            have bw10 : wr.cell? ⟨w.heap.size + 1, 10, none⟩ = some (.int .i64 (x.c 5)) := ((HO.out.out.below).cell (p := ⟨w.heap.size + 1, 10, none⟩) (by simp)).trans (by simp [go_sem])
            have bw11 : wr.cell? ⟨w.heap.size + 1, 11, none⟩ = some (.int .i64 (x.c 6)) := ((HO.out.out.below).cell (p := ⟨w.heap.size + 1, 11, none⟩) (by simp)).trans (by simp [go_sem])
            have bw12 : wr.cell? ⟨w.heap.size + 1, 12, none⟩ = some (.int .i64 (x.c 7)) := ((HO.out.out.below).cell (p := ⟨w.heap.size + 1, 12, none⟩) (by simp)).trans (by simp [go_sem])
            have el0 : wr.cell? ⟨b, off + k * 15, none⟩ = some (.int .i64 eo) := ((HO.out.out.below).cell (p := ⟨b, off + k * 15 + 0, none⟩) (by have := hold.lt; simp; omega)).trans (HE.out 0 (by omega))
            have el1 : wr.cell? ⟨b, off + k * 15 + 1, none⟩ = some (.int .i64 ef) := ((HO.out.out.below).cell (p := ⟨b, off + k * 15 + 1, none⟩) (by have := hold.lt; simp; omega)).trans (HE.out 1 (by omega))
            have el2 : wr.cell? ⟨b, off + k * 15 + 2, none⟩ = some (.int .i64 y.g) := ((HO.out.out.below).cell (p := ⟨b, off + k * 15 + 2, none⟩) (by have := hold.lt; simp; omega)).trans (HE.out 2 (by omega))
            have el3 : wr.cell? ⟨b, off + k * 15 + 3, none⟩ = some (.int .i64 y.n) := ((HO.out.out.below).cell (p := ⟨b, off + k * 15 + 3, none⟩) (by have := hold.lt; simp; omega)).trans (HE.out 3 (by omega))
            have el4 : wr.cell? ⟨b, off + k * 15 + 4, none⟩ = some (.bool y.s) := ((HO.out.out.below).cell (p := ⟨b, off + k * 15 + 4, none⟩) (by have := hold.lt; simp; omega)).trans (HE.out 4 (by omega))
            have el5 : wr.cell? ⟨b, off + k * 15 + 5, none⟩ = some (.int .i64 y.rg) := ((HO.out.out.below).cell (p := ⟨b, off + k * 15 + 5, none⟩) (by have := hold.lt; simp; omega)).trans (HE.out 5 (by omega))
            have el6 : wr.cell? ⟨b, off + k * 15 + 6, none⟩ = some (.int .i64 y.rn) := ((HO.out.out.below).cell (p := ⟨b, off + k * 15 + 6, none⟩) (by have := hold.lt; simp; omega)).trans (HE.out 6 (by omega))
            have el7 : wr.cell? ⟨b, off + k * 15 + 7, none⟩ = some (.int .i64 (y.c 0)) := ((HO.out.out.below).cell (p := ⟨b, off + k * 15 + 7, none⟩) (by have := hold.lt; simp; omega)).trans (HE.out 7 (by omega))
            have el8 : wr.cell? ⟨b, off + k * 15 + 8, none⟩ = some (.int .i64 (y.c 1)) := ((HO.out.out.below).cell (p := ⟨b, off + k * 15 + 8, none⟩) (by have := hold.lt; simp; omega)).trans (HE.out 8 (by omega))
            have el9 : wr.cell? ⟨b, off + k * 15 + 9, none⟩ = some (.int .i64 (y.c 2)) := ((HO.out.out.below).cell (p := ⟨b, off + k * 15 + 9, none⟩) (by have := hold.lt; simp; omega)).trans (HE.out 9 (by omega))
            have el10 : wr.cell? ⟨b, off + k * 15 + 10, none⟩ = some (.int .i64 (y.c 3)) := ((HO.out.out.below).cell (p := ⟨b, off + k * 15 + 10, none⟩) (by have := hold.lt; simp; omega)).trans (HE.out 10 (by omega))
            have el11 : wr.cell? ⟨b, off + k * 15 + 11, none⟩ = some (.int .i64 (y.c 4)) := ((HO.out.out.below).cell (p := ⟨b, off + k * 15 + 11, none⟩) (by have := hold.lt; simp; omega)).trans (HE.out 11 (by omega))
            have el12 : wr.cell? ⟨b, off + k * 15 + 12, none⟩ = some (.int .i64 (y.c 5)) := ((HO.out.out.below).cell (p := ⟨b, off + k * 15 + 12, none⟩) (by have := hold.lt; simp; omega)).trans (HE.out 12 (by omega))
            have el13 : wr.cell? ⟨b, off + k * 15 + 13, none⟩ = some (.int .i64 (y.c 6)) := ((HO.out.out.below).cell (p := ⟨b, off + k * 15 + 13, none⟩) (by have := hold.lt; simp; omega)).trans (HE.out 13 (by omega))
            have el14 : wr.cell? ⟨b, off + k * 15 + 14, none⟩ = some (.int .i64 (y.c 7)) := ((HO.out.out.below).cell (p := ⟨b, off + k * 15 + 14, none⟩) (by have := hold.lt; simp; omega)).trans (HE.out 14 (by omega))
            have ow0 : Old w.heap.size wr := Old.of_cell bl0
            have ow1 : Old (w.heap.size + 1) wr := Old.of_cell bw0
            have ow2 : Old b wr := Old.of_cell el0
            go_wp2
            refine wp_region_gw (by kernel_rfl) (by kernel_rfl) ?_
            repeat (quiet_step (first | (go_at_call 33; exact Gives.call (HLs.out _))))
            refine wpQuiet_nil ?_
            intro _ hw'
            obtain ⟨p1, hw''⟩ := hw'
            subst hw''
            go_wp2
            refine wp_region_gw (by kernel_rfl) (by kernel_rfl) ?_
            repeat (quiet_step (first | fail))
            refine wpQuiet_nil ?_
            intro _ hw'
            obtain ⟨p2, hw''⟩ := hw'
            subst hw''
            go_wp2
            go_roundw
            case rel => exact ⟨k + 1, false, out, by omega, by go_num, rfl, ⟨by rw [← HO.out.eq, HS.out]; simp, by have := HO.out.len; omega, (HO.out.out.gw p1).gw p2⟩⟩
            case measure => simp [intOf]; omega
        · clear hA HLX HLs
          cases il
          · have bl0 : wr.cell? ⟨w.heap.size, 0, none⟩ = some (.int .i64 o) := ((HO.out.out.below).cell (p := ⟨w.heap.size, 0, none⟩) (by simp; omega)).trans (by simp [go_sem])
            have bl1 : wr.cell? ⟨w.heap.size, 1, none⟩ = some (.int .i64 f) := ((HO.out.out.below).cell (p := ⟨w.heap.size, 1, none⟩) (by simp; omega)).trans (by simp [go_sem])
            have bw0 : wr.cell? ⟨w.heap.size + 1, 0, none⟩ = some (.int .i64 x.g) := ((HO.out.out.below).cell (p := ⟨w.heap.size + 1, 0, none⟩) (by simp)).trans (by simp [go_sem])
            have bw1 : wr.cell? ⟨w.heap.size + 1, 1, none⟩ = some (.int .i64 x.n) := ((HO.out.out.below).cell (p := ⟨w.heap.size + 1, 1, none⟩) (by simp)).trans (by simp [go_sem])
            have bw2 : wr.cell? ⟨w.heap.size + 1, 2, none⟩ = some (.bool x.s) := ((HO.out.out.below).cell (p := ⟨w.heap.size + 1, 2, none⟩) (by simp)).trans (by simp [go_sem])
            have bw3 : wr.cell? ⟨w.heap.size + 1, 3, none⟩ = some (.int .i64 x.rg) := ((HO.out.out.below).cell (p := ⟨w.heap.size + 1, 3, none⟩) (by simp)).trans (by simp [go_sem])
            have bw4 : wr.cell? ⟨w.heap.size + 1, 4, none⟩ = some (.int .i64 x.rn) := ((HO.out.out.below).cell (p := ⟨w.heap.size + 1, 4, none⟩) (by simp)).trans (by simp [go_sem])
            have bw5 : wr.cell? ⟨w.heap.size + 1, 5, none⟩ = some (.int .i64 (x.c 0)) := ((HO.out.out.below).cell (p := ⟨w.heap.size + 1, 5, none⟩) (by simp)).trans (by simp [go_sem])
            have bw6 : wr.cell? ⟨w.heap.size + 1, 6, none⟩ = some (.int .i64 (x.c 1)) := ((HO.out.out.below).cell (p := ⟨w.heap.size + 1, 6, none⟩) (by simp)).trans (by simp [go_sem])
            have bw7 : wr.cell? ⟨w.heap.size + 1, 7, none⟩ = some (.int .i64 (x.c 2)) := ((HO.out.out.below).cell (p := ⟨w.heap.size + 1, 7, none⟩) (by simp)).trans (by simp [go_sem])
            have bw8 : wr.cell? ⟨w.heap.size + 1, 8, none⟩ = some (.int .i64 (x.c 3)) := ((HO.out.out.below).cell (p := ⟨w.heap.size + 1, 8, none⟩) (by simp)).trans (by simp [go_sem])
            have bw9 : wr.cell? ⟨w.heap.size + 1, 9, none⟩ = some (.int .i64 (x.c 4)) := ((HO.out.out.below).cell (p := ⟨w.heap.size + 1, 9, none⟩) (by simp)).trans (by simp [go_sem])
            have bw10 : wr.cell? ⟨w.heap.size + 1, 10, none⟩ = some (.int .i64 (x.c 5)) := ((HO.out.out.below).cell (p := ⟨w.heap.size + 1, 10, none⟩) (by simp)).trans (by simp [go_sem])
            have bw11 : wr.cell? ⟨w.heap.size + 1, 11, none⟩ = some (.int .i64 (x.c 6)) := ((HO.out.out.below).cell (p := ⟨w.heap.size + 1, 11, none⟩) (by simp)).trans (by simp [go_sem])
            have bw12 : wr.cell? ⟨w.heap.size + 1, 12, none⟩ = some (.int .i64 (x.c 7)) := ((HO.out.out.below).cell (p := ⟨w.heap.size + 1, 12, none⟩) (by simp)).trans (by simp [go_sem])
            have el0 : wr.cell? ⟨b, off + k * 15, none⟩ = some (.int .i64 eo) := ((HO.out.out.below).cell (p := ⟨b, off + k * 15 + 0, none⟩) (by have := hold.lt; simp; omega)).trans (HE.out 0 (by omega))
            have el1 : wr.cell? ⟨b, off + k * 15 + 1, none⟩ = some (.int .i64 ef) := ((HO.out.out.below).cell (p := ⟨b, off + k * 15 + 1, none⟩) (by have := hold.lt; simp; omega)).trans (HE.out 1 (by omega))
            have el2 : wr.cell? ⟨b, off + k * 15 + 2, none⟩ = some (.int .i64 y.g) := ((HO.out.out.below).cell (p := ⟨b, off + k * 15 + 2, none⟩) (by have := hold.lt; simp; omega)).trans (HE.out 2 (by omega))
            have el3 : wr.cell? ⟨b, off + k * 15 + 3, none⟩ = some (.int .i64 y.n) := ((HO.out.out.below).cell (p := ⟨b, off + k * 15 + 3, none⟩) (by have := hold.lt; simp; omega)).trans (HE.out 3 (by omega))
            have el4 : wr.cell? ⟨b, off + k * 15 + 4, none⟩ = some (.bool y.s) := ((HO.out.out.below).cell (p := ⟨b, off + k * 15 + 4, none⟩) (by have := hold.lt; simp; omega)).trans (HE.out 4 (by omega))
            have el5 : wr.cell? ⟨b, off + k * 15 + 5, none⟩ = some (.int .i64 y.rg) := ((HO.out.out.below).cell (p := ⟨b, off + k * 15 + 5, none⟩) (by have := hold.lt; simp; omega)).trans (HE.out 5 (by omega))
            have el6 : wr.cell? ⟨b, off + k * 15 + 6, none⟩ = some (.int .i64 y.rn) := ((HO.out.out.below).cell (p := ⟨b, off + k * 15 + 6, none⟩) (by have := hold.lt; simp; omega)).trans (HE.out 6 (by omega))
            have el7 : wr.cell? ⟨b, off + k * 15 + 7, none⟩ = some (.int .i64 (y.c 0)) := ((HO.out.out.below).cell (p := ⟨b, off + k * 15 + 7, none⟩) (by have := hold.lt; simp; omega)).trans (HE.out 7 (by omega))
            have el8 : wr.cell? ⟨b, off + k * 15 + 8, none⟩ = some (.int .i64 (y.c 1)) := ((HO.out.out.below).cell (p := ⟨b, off + k * 15 + 8, none⟩) (by have := hold.lt; simp; omega)).trans (HE.out 8 (by omega))
            have el9 : wr.cell? ⟨b, off + k * 15 + 9, none⟩ = some (.int .i64 (y.c 2)) := ((HO.out.out.below).cell (p := ⟨b, off + k * 15 + 9, none⟩) (by have := hold.lt; simp; omega)).trans (HE.out 9 (by omega))
            have el10 : wr.cell? ⟨b, off + k * 15 + 10, none⟩ = some (.int .i64 (y.c 3)) := ((HO.out.out.below).cell (p := ⟨b, off + k * 15 + 10, none⟩) (by have := hold.lt; simp; omega)).trans (HE.out 10 (by omega))
            have el11 : wr.cell? ⟨b, off + k * 15 + 11, none⟩ = some (.int .i64 (y.c 4)) := ((HO.out.out.below).cell (p := ⟨b, off + k * 15 + 11, none⟩) (by have := hold.lt; simp; omega)).trans (HE.out 11 (by omega))
            have el12 : wr.cell? ⟨b, off + k * 15 + 12, none⟩ = some (.int .i64 (y.c 5)) := ((HO.out.out.below).cell (p := ⟨b, off + k * 15 + 12, none⟩) (by have := hold.lt; simp; omega)).trans (HE.out 12 (by omega))
            have el13 : wr.cell? ⟨b, off + k * 15 + 13, none⟩ = some (.int .i64 (y.c 6)) := ((HO.out.out.below).cell (p := ⟨b, off + k * 15 + 13, none⟩) (by have := hold.lt; simp; omega)).trans (HE.out 13 (by omega))
            have el14 : wr.cell? ⟨b, off + k * 15 + 14, none⟩ = some (.int .i64 (y.c 7)) := ((HO.out.out.below).cell (p := ⟨b, off + k * 15 + 14, none⟩) (by have := hold.lt; simp; omega)).trans (HE.out 14 (by omega))
            have ow0 : Old w.heap.size wr := Old.of_cell bl0
            have ow1 : Old (w.heap.size + 1) wr := Old.of_cell bw0
            have ow2 : Old b wr := Old.of_cell el0
            go_wp2
            refine wp_region_gw (by kernel_rfl) (by kernel_rfl) ?_
            repeat (quiet_step (first | fail))
            refine wpQuiet_nil ?_
            intro _ hw'
            obtain ⟨p1, hw''⟩ := hw'
            subst hw''
            go_wp2
            refine wp_region_gw (by kernel_rfl) (by kernel_rfl) ?_
            repeat (quiet_step (first | fail))
            refine wpQuiet_nil ?_
            intro _ hw'
            obtain ⟨p2, hw''⟩ := hw'
            subst hw''
            have ho2 := (HO.out.out.gw p1).gw p2
            clear bl0 bl1 bw0 bw1 bw2 bw3 bw4 bw5 bw6 bw7 bw8 bw9 bw10 bw11 bw12 el0 el1 el2 el3 el4 el5 el6 el7 el8 el9 el10 el11 el12 el13 el14 ow0 ow1 ow2
            generalize gw (gw wr p1) p2 = wr6 at *
            have HO6 := Lib.hid ho2
            clear ho2
            have bl0 : wr6.cell? ⟨w.heap.size, 0, none⟩ = some (.int .i64 o) := ((HO6.out.below).cell (p := ⟨w.heap.size, 0, none⟩) (by simp; omega)).trans (by simp [go_sem])
            have bl1 : wr6.cell? ⟨w.heap.size, 1, none⟩ = some (.int .i64 f) := ((HO6.out.below).cell (p := ⟨w.heap.size, 1, none⟩) (by simp; omega)).trans (by simp [go_sem])
            have bw0 : wr6.cell? ⟨w.heap.size + 1, 0, none⟩ = some (.int .i64 x.g) := ((HO6.out.below).cell (p := ⟨w.heap.size + 1, 0, none⟩) (by simp)).trans (by simp [go_sem])
            have bw1 : wr6.cell? ⟨w.heap.size + 1, 1, none⟩ = some (.int .i64 x.n) := ((HO6.out.below).cell (p := ⟨w.heap.size + 1, 1, none⟩) (by simp)).trans (by simp [go_sem])
            have bw2 : wr6.cell? ⟨w.heap.size + 1, 2, none⟩ = some (.bool x.s) := ((HO6.out.below).cell (p := ⟨w.heap.size + 1, 2, none⟩) (by simp)).trans (by simp [go_sem])
            have bw3 : wr6.cell? ⟨w.heap.size + 1, 3, none⟩ = some (.int .i64 x.rg) := ((HO6.out.below).cell (p := ⟨w.heap.size + 1, 3, none⟩) (by simp)).trans (by simp [go_sem])
            have bw4 : wr6.cell? ⟨w.heap.size + 1, 4, none⟩ = some (.int .i64 x.rn) := ((HO6.out.below).cell (p := ⟨w.heap.size + 1, 4, none⟩) (by simp)).trans (by simp [go_sem])
            have bw5 : wr6.cell? ⟨w.heap.size + 1, 5, none⟩ = some (.int .i64 (x.c 0)) := ((HO6.out.below).cell (p := ⟨w.heap.size + 1, 5, none⟩) (by simp)).trans (by simp [go_sem])
            have bw6 : wr6.cell? ⟨w.heap.size + 1, 6, none⟩ = some (.int .i64 (x.c 1)) := ((HO6.out.below).cell (p := ⟨w.heap.size + 1, 6, none⟩) (by simp)).trans (by simp [go_sem])
            have bw7 : wr6.cell? ⟨w.heap.size + 1, 7, none⟩ = some (.int .i64 (x.c 2)) := ((HO6.out.below).cell (p := ⟨w.heap.size + 1, 7, none⟩) (by simp)).trans (by simp [go_sem])
            have bw8 : wr6.cell? ⟨w.heap.size + 1, 8, none⟩ = some (.int .i64 (x.c 3)) := ((HO6.out.below).cell (p := ⟨w.heap.size + 1, 8, none⟩) (by simp)).trans (by simp [go_sem])
            have bw9 : wr6.cell? ⟨w.heap.size + 1, 9, none⟩ = some (.int .i64 (x.c 4)) := ((HO6.out.below).cell (p := ⟨w.heap.size + 1, 9, none⟩) (by simp)).trans (by simp [go_sem])
            have bw10 : wr6.cell? ⟨w.heap.size + 1, 10, none⟩ = some (.int .i64 (x.c 5)) := ((HO6.out.below).cell (p := ⟨w.heap.size + 1, 10, none⟩) (by simp)).trans (by simp [go_sem])
            have bw11 : wr6.cell? ⟨w.heap.size + 1, 11, none⟩ = some (.int .i64 (x.c 6)) := ((HO6.out.below).cell (p := ⟨w.heap.size + 1, 11, none⟩) (by simp)).trans (by simp [go_sem])
            have bw12 : wr6.cell? ⟨w.heap.size + 1, 12, none⟩ = some (.int .i64 (x.c 7)) := ((HO6.out.below).cell (p := ⟨w.heap.size + 1, 12, none⟩) (by simp)).trans (by simp [go_sem])
            have el0 : wr6.cell? ⟨b, off + k * 15, none⟩ = some (.int .i64 eo) := ((HO6.out.below).cell (p := ⟨b, off + k * 15 + 0, none⟩) (by have := hold.lt; simp; omega)).trans (HE.out 0 (by omega))
            have el1 : wr6.cell? ⟨b, off + k * 15 + 1, none⟩ = some (.int .i64 ef) := ((HO6.out.below).cell (p := ⟨b, off + k * 15 + 1, none⟩) (by have := hold.lt; simp; omega)).trans (HE.out 1 (by omega))
            have el2 : wr6.cell? ⟨b, off + k * 15 + 2, none⟩ = some (.int .i64 y.g) := ((HO6.out.below).cell (p := ⟨b, off + k * 15 + 2, none⟩) (by have := hold.lt; simp; omega)).trans (HE.out 2 (by omega))
            have el3 : wr6.cell? ⟨b, off + k * 15 + 3, none⟩ = some (.int .i64 y.n) := ((HO6.out.below).cell (p := ⟨b, off + k * 15 + 3, none⟩) (by have := hold.lt; simp; omega)).trans (HE.out 3 (by omega))
            have el4 : wr6.cell? ⟨b, off + k * 15 + 4, none⟩ = some (.bool y.s) := ((HO6.out.below).cell (p := ⟨b, off + k * 15 + 4, none⟩) (by have := hold.lt; simp; omega)).trans (HE.out 4 (by omega))
            have el5 : wr6.cell? ⟨b, off + k * 15 + 5, none⟩ = some (.int .i64 y.rg) := ((HO6.out.below).cell (p := ⟨b, off + k * 15 + 5, none⟩) (by have := hold.lt; simp; omega)).trans (HE.out 5 (by omega))
            have el6 : wr6.cell? ⟨b, off + k * 15 + 6, none⟩ = some (.int .i64 y.rn) := ((HO6.out.below).cell (p := ⟨b, off + k * 15 + 6, none⟩) (by have := hold.lt; simp; omega)).trans (HE.out 6 (by omega))
            have el7 : wr6.cell? ⟨b, off + k * 15 + 7, none⟩ = some (.int .i64 (y.c 0)) := ((HO6.out.below).cell (p := ⟨b, off + k * 15 + 7, none⟩) (by have := hold.lt; simp; omega)).trans (HE.out 7 (by omega))
            have el8 : wr6.cell? ⟨b, off + k * 15 + 8, none⟩ = some (.int .i64 (y.c 1)) := ((HO6.out.below).cell (p := ⟨b, off + k * 15 + 8, none⟩) (by have := hold.lt; simp; omega)).trans (HE.out 8 (by omega))
            have el9 : wr6.cell? ⟨b, off + k * 15 + 9, none⟩ = some (.int .i64 (y.c 2)) := ((HO6.out.below).cell (p := ⟨b, off + k * 15 + 9, none⟩) (by have := hold.lt; simp; omega)).trans (HE.out 9 (by omega))
            have el10 : wr6.cell? ⟨b, off + k * 15 + 10, none⟩ = some (.int .i64 (y.c 3)) := ((HO6.out.below).cell (p := ⟨b, off + k * 15 + 10, none⟩) (by have := hold.lt; simp; omega)).trans (HE.out 10 (by omega))
            have el11 : wr6.cell? ⟨b, off + k * 15 + 11, none⟩ = some (.int .i64 (y.c 4)) := ((HO6.out.below).cell (p := ⟨b, off + k * 15 + 11, none⟩) (by have := hold.lt; simp; omega)).trans (HE.out 11 (by omega))
            have el12 : wr6.cell? ⟨b, off + k * 15 + 12, none⟩ = some (.int .i64 (y.c 5)) := ((HO6.out.below).cell (p := ⟨b, off + k * 15 + 12, none⟩) (by have := hold.lt; simp; omega)).trans (HE.out 12 (by omega))
            have el13 : wr6.cell? ⟨b, off + k * 15 + 13, none⟩ = some (.int .i64 (y.c 6)) := ((HO6.out.below).cell (p := ⟨b, off + k * 15 + 13, none⟩) (by have := hold.lt; simp; omega)).trans (HE.out 13 (by omega))
            have el14 : wr6.cell? ⟨b, off + k * 15 + 14, none⟩ = some (.int .i64 (y.c 7)) := ((HO6.out.below).cell (p := ⟨b, off + k * 15 + 14, none⟩) (by have := hold.lt; simp; omega)).trans (HE.out 14 (by omega))
            have ow0 : Old w.heap.size wr6 := Old.of_cell bl0
            have ow1 : Old (w.heap.size + 1) wr6 := Old.of_cell bw0
            have ow2 : Old b wr6 := Old.of_cell el0
            go_wp2_with (refine wpList_append_own _ rfl _ _ 29 rfl _ 55 i0 z0 15 120 rfl HI.out.1 HI.out.2.1 HI.out.2.2.1 HI.out.2.2.2.1 HI.out.2.2.2.2 (by omega) u7 out.length (out.flatMap entC) rfl ((HO6.out.own).alloc _) ⟨(wr6).heap.size, 0, none⟩ 1 1 (entC ((eo, ef, y) : Ent)) rfl rfl (news_row _ (entC ((eo, ef, y) : Ent)) _) (by simp [Value.oneCell']) (by have := HO.out.len; simp only [maxLen]; omega) (by have := HO.out.len; omega) (by have := HO6.out.below.size; simp at this ⊢; omega) ?_; intro v7 w7 hown hgrow hnil; have HM7 := Lib.hid (HO6.out.app hown hgrow); clear hown hgrow hnil; refine Stop.here ?_)
            refine Stop.on ?_
            go_wp2
            go_roundw
            case rel => exact ⟨k + 1, true, out ++ [(eo, ef, y)], by omega, by go_num, rfl, ⟨by rw [← HO.out.eq, HS.out]; simp, by have := HO.out.len; simp; omega, HM7.out⟩⟩
            case measure => simp [intOf]; omega
          · have bl0 : wr.cell? ⟨w.heap.size, 0, none⟩ = some (.int .i64 o) := ((HO.out.out.below).cell (p := ⟨w.heap.size, 0, none⟩) (by simp; omega)).trans (by simp [go_sem])
            have bl1 : wr.cell? ⟨w.heap.size, 1, none⟩ = some (.int .i64 f) := ((HO.out.out.below).cell (p := ⟨w.heap.size, 1, none⟩) (by simp; omega)).trans (by simp [go_sem])
            have bw0 : wr.cell? ⟨w.heap.size + 1, 0, none⟩ = some (.int .i64 x.g) := ((HO.out.out.below).cell (p := ⟨w.heap.size + 1, 0, none⟩) (by simp)).trans (by simp [go_sem])
            have bw1 : wr.cell? ⟨w.heap.size + 1, 1, none⟩ = some (.int .i64 x.n) := ((HO.out.out.below).cell (p := ⟨w.heap.size + 1, 1, none⟩) (by simp)).trans (by simp [go_sem])
            have bw2 : wr.cell? ⟨w.heap.size + 1, 2, none⟩ = some (.bool x.s) := ((HO.out.out.below).cell (p := ⟨w.heap.size + 1, 2, none⟩) (by simp)).trans (by simp [go_sem])
            have bw3 : wr.cell? ⟨w.heap.size + 1, 3, none⟩ = some (.int .i64 x.rg) := ((HO.out.out.below).cell (p := ⟨w.heap.size + 1, 3, none⟩) (by simp)).trans (by simp [go_sem])
            have bw4 : wr.cell? ⟨w.heap.size + 1, 4, none⟩ = some (.int .i64 x.rn) := ((HO.out.out.below).cell (p := ⟨w.heap.size + 1, 4, none⟩) (by simp)).trans (by simp [go_sem])
            have bw5 : wr.cell? ⟨w.heap.size + 1, 5, none⟩ = some (.int .i64 (x.c 0)) := ((HO.out.out.below).cell (p := ⟨w.heap.size + 1, 5, none⟩) (by simp)).trans (by simp [go_sem])
            have bw6 : wr.cell? ⟨w.heap.size + 1, 6, none⟩ = some (.int .i64 (x.c 1)) := ((HO.out.out.below).cell (p := ⟨w.heap.size + 1, 6, none⟩) (by simp)).trans (by simp [go_sem])
            have bw7 : wr.cell? ⟨w.heap.size + 1, 7, none⟩ = some (.int .i64 (x.c 2)) := ((HO.out.out.below).cell (p := ⟨w.heap.size + 1, 7, none⟩) (by simp)).trans (by simp [go_sem])
            have bw8 : wr.cell? ⟨w.heap.size + 1, 8, none⟩ = some (.int .i64 (x.c 3)) := ((HO.out.out.below).cell (p := ⟨w.heap.size + 1, 8, none⟩) (by simp)).trans (by simp [go_sem])
            have bw9 : wr.cell? ⟨w.heap.size + 1, 9, none⟩ = some (.int .i64 (x.c 4)) := ((HO.out.out.below).cell (p := ⟨w.heap.size + 1, 9, none⟩) (by simp)).trans (by simp [go_sem])
            have bw10 : wr.cell? ⟨w.heap.size + 1, 10, none⟩ = some (.int .i64 (x.c 5)) := ((HO.out.out.below).cell (p := ⟨w.heap.size + 1, 10, none⟩) (by simp)).trans (by simp [go_sem])
            have bw11 : wr.cell? ⟨w.heap.size + 1, 11, none⟩ = some (.int .i64 (x.c 6)) := ((HO.out.out.below).cell (p := ⟨w.heap.size + 1, 11, none⟩) (by simp)).trans (by simp [go_sem])
            have bw12 : wr.cell? ⟨w.heap.size + 1, 12, none⟩ = some (.int .i64 (x.c 7)) := ((HO.out.out.below).cell (p := ⟨w.heap.size + 1, 12, none⟩) (by simp)).trans (by simp [go_sem])
            have el0 : wr.cell? ⟨b, off + k * 15, none⟩ = some (.int .i64 eo) := ((HO.out.out.below).cell (p := ⟨b, off + k * 15 + 0, none⟩) (by have := hold.lt; simp; omega)).trans (HE.out 0 (by omega))
            have el1 : wr.cell? ⟨b, off + k * 15 + 1, none⟩ = some (.int .i64 ef) := ((HO.out.out.below).cell (p := ⟨b, off + k * 15 + 1, none⟩) (by have := hold.lt; simp; omega)).trans (HE.out 1 (by omega))
            have el2 : wr.cell? ⟨b, off + k * 15 + 2, none⟩ = some (.int .i64 y.g) := ((HO.out.out.below).cell (p := ⟨b, off + k * 15 + 2, none⟩) (by have := hold.lt; simp; omega)).trans (HE.out 2 (by omega))
            have el3 : wr.cell? ⟨b, off + k * 15 + 3, none⟩ = some (.int .i64 y.n) := ((HO.out.out.below).cell (p := ⟨b, off + k * 15 + 3, none⟩) (by have := hold.lt; simp; omega)).trans (HE.out 3 (by omega))
            have el4 : wr.cell? ⟨b, off + k * 15 + 4, none⟩ = some (.bool y.s) := ((HO.out.out.below).cell (p := ⟨b, off + k * 15 + 4, none⟩) (by have := hold.lt; simp; omega)).trans (HE.out 4 (by omega))
            have el5 : wr.cell? ⟨b, off + k * 15 + 5, none⟩ = some (.int .i64 y.rg) := ((HO.out.out.below).cell (p := ⟨b, off + k * 15 + 5, none⟩) (by have := hold.lt; simp; omega)).trans (HE.out 5 (by omega))
            have el6 : wr.cell? ⟨b, off + k * 15 + 6, none⟩ = some (.int .i64 y.rn) := ((HO.out.out.below).cell (p := ⟨b, off + k * 15 + 6, none⟩) (by have := hold.lt; simp; omega)).trans (HE.out 6 (by omega))
            have el7 : wr.cell? ⟨b, off + k * 15 + 7, none⟩ = some (.int .i64 (y.c 0)) := ((HO.out.out.below).cell (p := ⟨b, off + k * 15 + 7, none⟩) (by have := hold.lt; simp; omega)).trans (HE.out 7 (by omega))
            have el8 : wr.cell? ⟨b, off + k * 15 + 8, none⟩ = some (.int .i64 (y.c 1)) := ((HO.out.out.below).cell (p := ⟨b, off + k * 15 + 8, none⟩) (by have := hold.lt; simp; omega)).trans (HE.out 8 (by omega))
            have el9 : wr.cell? ⟨b, off + k * 15 + 9, none⟩ = some (.int .i64 (y.c 2)) := ((HO.out.out.below).cell (p := ⟨b, off + k * 15 + 9, none⟩) (by have := hold.lt; simp; omega)).trans (HE.out 9 (by omega))
            have el10 : wr.cell? ⟨b, off + k * 15 + 10, none⟩ = some (.int .i64 (y.c 3)) := ((HO.out.out.below).cell (p := ⟨b, off + k * 15 + 10, none⟩) (by have := hold.lt; simp; omega)).trans (HE.out 10 (by omega))
            have el11 : wr.cell? ⟨b, off + k * 15 + 11, none⟩ = some (.int .i64 (y.c 4)) := ((HO.out.out.below).cell (p := ⟨b, off + k * 15 + 11, none⟩) (by have := hold.lt; simp; omega)).trans (HE.out 11 (by omega))
            have el12 : wr.cell? ⟨b, off + k * 15 + 12, none⟩ = some (.int .i64 (y.c 5)) := ((HO.out.out.below).cell (p := ⟨b, off + k * 15 + 12, none⟩) (by have := hold.lt; simp; omega)).trans (HE.out 12 (by omega))
            have el13 : wr.cell? ⟨b, off + k * 15 + 13, none⟩ = some (.int .i64 (y.c 6)) := ((HO.out.out.below).cell (p := ⟨b, off + k * 15 + 13, none⟩) (by have := hold.lt; simp; omega)).trans (HE.out 13 (by omega))
            have el14 : wr.cell? ⟨b, off + k * 15 + 14, none⟩ = some (.int .i64 (y.c 7)) := ((HO.out.out.below).cell (p := ⟨b, off + k * 15 + 14, none⟩) (by have := hold.lt; simp; omega)).trans (HE.out 14 (by omega))
            have ow0 : Old w.heap.size wr := Old.of_cell bl0
            have ow1 : Old (w.heap.size + 1) wr := Old.of_cell bw0
            have ow2 : Old b wr := Old.of_cell el0
            go_wp2
            refine wp_region_gw (by kernel_rfl) (by kernel_rfl) ?_
            repeat (quiet_step (first | fail))
            refine wpQuiet_nil ?_
            intro _ hw'
            obtain ⟨p1, hw''⟩ := hw'
            subst hw''
            go_wp2
            refine wp_region_gw (by kernel_rfl) (by kernel_rfl) ?_
            repeat (quiet_step (first | fail))
            refine wpQuiet_nil ?_
            intro _ hw'
            obtain ⟨p2, hw''⟩ := hw'
            subst hw''
            go_wp2
            go_roundw
            case rel => exact ⟨k + 1, true, out, by omega, by go_num, rfl, ⟨by rw [← HO.out.eq, HS.out]; simp, by have := HO.out.len; omega, (HO.out.out.gw p1).gw p2⟩⟩
            case measure => simp [intOf]; omega
    · have hkn : k = l.length := by omega
      subst hkn
      have ho := HO.out
      clear HO
      have HEQ := Lib.hid ho.eq
      have HLE := Lib.hid ho.len
      have HO := Lib.hid ho.out
      clear ho
      have HBW := Lib.hid (show Below w.heap.size w ((w.alloc (.cells #[.int .i64 o, .int .i64 f] 24)).alloc (.cells (wc x) 37)) from (by repeat (first | exact Below.refl _ _ | refine below_gw ?_ (by simp; try omega) _ | refine Below.alloc ?_ (by simp; try omega) _ | refine Below.setCell ?_ (by simp; try omega) _ | refine Below.drew ?_)))
      cases d
      · have bl0 : wr.cell? ⟨w.heap.size, 0, none⟩ = some (.int .i64 o) := (HO.out.below.cell (p := ⟨w.heap.size, 0, none⟩) (by simp; omega)).trans (by simp [go_sem])
        have bl1 : wr.cell? ⟨w.heap.size, 1, none⟩ = some (.int .i64 f) := (HO.out.below.cell (p := ⟨w.heap.size, 1, none⟩) (by simp; omega)).trans (by simp [go_sem])
        have bw0 : wr.cell? ⟨w.heap.size + 1, 0, none⟩ = some (.int .i64 x.g) := (HO.out.below.cell (p := ⟨w.heap.size + 1, 0, none⟩) (by simp)).trans (by simp [go_sem])
        have bw1 : wr.cell? ⟨w.heap.size + 1, 1, none⟩ = some (.int .i64 x.n) := (HO.out.below.cell (p := ⟨w.heap.size + 1, 1, none⟩) (by simp)).trans (by simp [go_sem])
        have bw2 : wr.cell? ⟨w.heap.size + 1, 2, none⟩ = some (.bool x.s) := (HO.out.below.cell (p := ⟨w.heap.size + 1, 2, none⟩) (by simp)).trans (by simp [go_sem])
        have bw3 : wr.cell? ⟨w.heap.size + 1, 3, none⟩ = some (.int .i64 x.rg) := (HO.out.below.cell (p := ⟨w.heap.size + 1, 3, none⟩) (by simp)).trans (by simp [go_sem])
        have bw4 : wr.cell? ⟨w.heap.size + 1, 4, none⟩ = some (.int .i64 x.rn) := (HO.out.below.cell (p := ⟨w.heap.size + 1, 4, none⟩) (by simp)).trans (by simp [go_sem])
        have bw5 : wr.cell? ⟨w.heap.size + 1, 5, none⟩ = some (.int .i64 (x.c 0)) := (HO.out.below.cell (p := ⟨w.heap.size + 1, 5, none⟩) (by simp)).trans (by simp [go_sem])
        have bw6 : wr.cell? ⟨w.heap.size + 1, 6, none⟩ = some (.int .i64 (x.c 1)) := (HO.out.below.cell (p := ⟨w.heap.size + 1, 6, none⟩) (by simp)).trans (by simp [go_sem])
        have bw7 : wr.cell? ⟨w.heap.size + 1, 7, none⟩ = some (.int .i64 (x.c 2)) := (HO.out.below.cell (p := ⟨w.heap.size + 1, 7, none⟩) (by simp)).trans (by simp [go_sem])
        have bw8 : wr.cell? ⟨w.heap.size + 1, 8, none⟩ = some (.int .i64 (x.c 3)) := (HO.out.below.cell (p := ⟨w.heap.size + 1, 8, none⟩) (by simp)).trans (by simp [go_sem])
        have bw9 : wr.cell? ⟨w.heap.size + 1, 9, none⟩ = some (.int .i64 (x.c 4)) := (HO.out.below.cell (p := ⟨w.heap.size + 1, 9, none⟩) (by simp)).trans (by simp [go_sem])
        have bw10 : wr.cell? ⟨w.heap.size + 1, 10, none⟩ = some (.int .i64 (x.c 5)) := (HO.out.below.cell (p := ⟨w.heap.size + 1, 10, none⟩) (by simp)).trans (by simp [go_sem])
        have bw11 : wr.cell? ⟨w.heap.size + 1, 11, none⟩ = some (.int .i64 (x.c 6)) := (HO.out.below.cell (p := ⟨w.heap.size + 1, 11, none⟩) (by simp)).trans (by simp [go_sem])
        have bw12 : wr.cell? ⟨w.heap.size + 1, 12, none⟩ = some (.int .i64 (x.c 7)) := (HO.out.below.cell (p := ⟨w.heap.size + 1, 12, none⟩) (by simp)).trans (by simp [go_sem])
        have ow0 : Old w.heap.size wr := Old.of_cell bl0
        have ow1 : Old (w.heap.size + 1) wr := Old.of_cell bw0
        go_wp2_with (refine wpList_append_own _ rfl _ _ 29 rfl _ 55 i0 z0 15 120 rfl HI.out.1 HI.out.2.1 HI.out.2.2.1 HI.out.2.2.2.1 HI.out.2.2.2.2 (by omega) u7 out.length (out.flatMap entC) rfl ((HO.out.own).alloc _) ⟨(wr).heap.size, 0, none⟩ 1 1 (entC ((o, f, x) : Ent)) rfl rfl (news_row _ (entC ((o, f, x) : Ent)) _) (by simp [Value.oneCell']) (by have := HLE.out; simp only [maxLen]; omega) (by have := HLE.out; omega) (by have := HO.out.below.size; simp at this ⊢; omega) ?_; intro v7 w7 hown hgrow hnil; have HM7 := Lib.hid (HO.out.app hown hgrow); clear hown hgrow hnil; refine Stop.here ?_)
        refine Stop.on ?_
        go_wp2
        go_ret
        refine ⟨_, rfl, HBW.out.trans (HM7.out.below.mono (by simp; omega)), ?_⟩
        refine own_low (B := ((w.alloc (.cells #[.int .i64 o, .int .i64 f] 24)).alloc (.cells (wc x) 37)).heap.size) ?_ (by simp; omega)
        have hq := HEQ.out
        rw [List.drop_eq_nil_of_le (Nat.le_refl _)] at hq
        simp only [setGo, Bool.false_eq_true, if_false] at hq
        rw [← hq]
        exact HM7.out.own
      · go_wp2
        go_ret
        refine ⟨_, rfl, HBW.out.trans (HO.out.below.mono (by simp; omega)), ?_⟩
        refine own_low (B := ((w.alloc (.cells #[.int .i64 o, .int .i64 f] 24)).alloc (.cells (wc x) 37)).heap.size) ?_ (by simp; omega)
        have hq := HEQ.out
        rw [List.drop_eq_nil_of_le (Nat.le_refl _)] at hq
        simp only [setGo, if_true, List.append_nil] at hq
        rw [← hq]
        exact HO.out.own

end Go.Proofs.Ytioajmhfofmdoaa
