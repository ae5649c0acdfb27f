/- EpochHistory: what the call returns. -/
import Derived.Test.YtkfngaobgnijmaaEq
import Derived.Test.YtkfngaobgnijmaaEw
namespace Go.Proofs.Ytkfngaobgnijmaa
open Go.RowKit Go.Sort

theorem setAll_snoc (r : Rd1) : ∀ (R : List Rd1) (s : RD), setAll s (R ++ [r]) = addM (setAll s R) r.g r.n r.c
  | [], _ => rfl
  | a :: R, s => by simp only [List.cons_append, setAll]; exact setAll_snoc r R _
theorem rcell_len (r : Rd1) : (rcell r).length = 10 := by simp [rcell, cl]
theorem rcells_get : ∀ (R : List Rd1) (k : Nat) (hk : k < R.length) (i : Nat), i < 10 → (rcells R)[k * 10 + i]? = (rcell R[k])[i]?
  | r :: R, 0, _, i, hi => by
    simp only [rcells, List.flatMap_cons, Nat.zero_mul, Nat.zero_add, List.getElem_cons_zero]
    rw [List.getElem?_append_left (by rw [rcell_len]; exact hi)]
  | r :: R, k + 1, hk, i, hi => by
    have := rcells_get R k (by simpa using hk) i hi
    simp only [rcells, List.flatMap_cons, List.getElem_cons_succ] at this ⊢
    rw [List.getElem?_append_right (by rw [rcell_len]; omega), rcell_len, show (k + 1) * 10 + i - 10 = k * 10 + i by omega]
    exact this
/-- One read of the list, in memory. -/
theorem read_cells {w : World} {B : Nat} {v : Value} {R : List Rd1} {k : Nat} (h : w.ownsRow B 45 10 v R.length (rcells R)) (hk : k < R.length) :
    ∃ g cap, v = .slice (some ⟨g, 0, none⟩) R.length cap ∧ Old g w ∧ B ≤ g ∧ ∀ i, i < 10 → w.cell? ⟨g, k * 10 + i, none⟩ = (rcell R[k])[i]? := by
  rcases h.2 with ⟨_, h0⟩ | ⟨g, cap, cur, rfl, hb, hgg, _⟩
  · omega
  · refine ⟨g, cap, rfl, (Array.getElem?_eq_some_iff.1 hgg).1, hb, fun i hi => ?_⟩
    have hs : (rcell R[k])[i]? ≠ none := by rw [ne_eq, List.getElem?_eq_none_iff, rcell_len]; omega
    have e := rcells_get R k hk i hi
    cases hu : (rcell R[k])[i]? with
    | none => exact absurd hu hs
    | some u => exact own_cell h (e.trans hu)
theorem own_slice {w : World} {B : Nat} {e : TypeId} {size : Nat} {v : Value} {n : Nat} {xs : List Value} (h : w.ownsRow B e size v n xs) : ∃ ad cap, v = .slice ad n cap := by
  rcases h.2 with ⟨rfl, h0⟩ | ⟨g, cap, cur, rfl, _⟩
  · subst h0; exact ⟨none, 0, rfl⟩
  · exact ⟨_, _, rfl⟩
theorem OpsAt.gw {w : World} {v : Value} {len : Nat} {l : Nat → Nat × Nat} (h : OpsAt w v len l) (p : Regrown) : OpsAt (gw w p) v len l := by
  obtain ⟨ad, cap, e, hc⟩ := h
  refine ⟨ad, cap, e, fun h0 => ?_⟩
  obtain ⟨b, off, e2, ho, hcs⟩ := hc h0
  refine ⟨b, off, e2, by simp [Old] at ho ⊢; omega, fun i hi => ?_⟩
  obtain ⟨a1, a2, a3⟩ := hcs i hi
  exact ⟨by rw [gw_cell _ _ _ _ ho]; exact a1, by rw [gw_cell _ _ _ _ ho]; exact a2, a3⟩
theorem put_back (W : World) (o : Obj) (old cs : Array Value) (t : TypeId) (q p : Regrown) (o' : Obj) :
    ∃ q', (gw ((gw ((W.alloc o).alloc (.cells old t)) q).alloc o') p).setRow (W.heap.size + 1) cs = gw ((W.alloc o).alloc (.cells cs t)) q' := by
  rw [setRow_gw _ _ _ _ (by simp [Old]; omega), setRow_alloc_past _ _ _ _ (by simp [Old]; omega), setRow_gw _ _ _ _ (by simp [Old]), setRow_alloc_at _ _ _ _ _ (by simp)]
  exact gw_of_below (below_gw ((gw_below _ _).alloc (by simp) _) (by simp; omega) _)

theorem heap_back (W : World) (o ob : Obj) (q p : Regrown) (o' : Obj) : (gw ((gw ((W.alloc o).alloc ob) q).alloc o') p).heap[W.heap.size + 1]? = some ob := by
  rw [gw_heap _ _ _ (by simp; omega), heap_alloc_past' _ _ _ (by simp [Old]; omega), gw_heap _ _ _ (by simp), heap_alloc_at' _ _ _ (by simp)]
theorem back_alloc (X : World) (q : Regrown) (o : Obj) (p : Regrown) : ∃ q', gw ((gw X q).alloc o) p = gw X q' :=
  gw_of_below (below_gw ((gw_below _ _).alloc (by simp) _) (by simp; omega) _)
theorem rd_sizes (a b : RD) : (rd a.s a.g a.n a.c).size = (rd b.s b.g b.n b.c).size := rfl
theorem rd_one (s : Bool) (g n : Int) (c : Clk) : ∀ v ∈ (rd s g n c).toList, v.oneCell' = true := by simp [Value.oneCell']

set_option maxHeartbeats 1000000 in
theorem law_hist (v : Value) (len : Nat) (l : Nat → Nat × Nat) (w : World) (hl : OpsAt w v len l) :
    Calls Try.prog 7 #[v] w (Gives (.bool true) w) := by
  by_cases h60 : len ≤ 60
  · obtain ⟨C, R, hf, hcall⟩ : ∃ C R, Fit C R len ∧ ∀ w', OpsAt w' v len l → Calls Try.prog 25 #[v] w' fun e w'' => ∃ v', e = .returned (.tuple #[v', .agg (cls C)]) ∧ Below w'.heap.size w' w'' ∧ w''.ownsRow w'.heap.size 45 10 v' R.length (rcells R) :=
      ⟨_, _, hist_fit l len (by omega), fun w' hw => hist_any v len l w' hw h60⟩
    have HH := Lib.hid hcall; clear hcall
    have HL := Lib.hid hl
    have hRl : R.length ≤ 60 := by have := hf.len; omega
    have HF := Lib.hid hf; clear hf
    obtain ⟨ad, cap, rfl, hcells⟩ := hl
    clear hcells
    go_enter Try.func7, Try.ntmps7
    go_wp2_with (first | (go_at_call 11; (with_reducible refine (awake_any _).mono ?_); rintro e w1 ⟨rfl, p1, rfl⟩) | (go_at_call 25; refine (HH.out _ (HL.out.gw p1)).mono ?_; rintro e w1 ⟨v', rfl, hb', hown'⟩; have HB2 := Lib.hid hb'; have HO := Lib.hid hown'; obtain ⟨ad2, cap2, hv2⟩ := own_slice hown'; subst hv2; clear hb' hown') | (refine wpList_store_row rfl 41 _ _ rfl rfl _ rfl (cls C) rfl _ _ (heap_alloc_at' _ _ _ rfl) (by rw [cls_size]; rfl) (by rw [cls_size]; kernel_rfl) (cls_one _) ?_; rw [setRow_alloc_at _ _ _ _ _ rfl]))
    go_loopw [24] (fun i wr => ∃ k : Nat, ∃ q : Regrown, k ≤ R.length ∧ i = .int .i64 k ∧ wr = gw ((w1.alloc (.cells (cls C) 41)).alloc (.cells (rd (setAll zr (R.take k)).s (setAll zr (R.take k)).g (setAll zr (R.take k)).n (setAll zr (R.take k)).c) 31)) q) (fun i _ => R.length - (intOf i).toNat)
    case atStart => exact ⟨0, _, by omega, rfl, gw_self _⟩
    case round =>
      obtain ⟨k, q, hk, rfl, rfl⟩ := hrel
      by_cases hlt : k < R.length
      · obtain ⟨gr, cp, hv, ho, hB, hcs⟩ := read_cells HO.out hlt
        cases hv
        have f0 : w1.cell? ⟨gr, k * 10 + 0, none⟩ = some (.int .i64 (R[k].g)) := hcs 0 (by omega)
        have f1 : w1.cell? ⟨gr, k * 10 + 1, none⟩ = some (.int .i64 (R[k].n)) := hcs 1 (by omega)
        have f2 : w1.cell? ⟨gr, k * 10 + 2, none⟩ = some (.int .i64 (R[k].c 0)) := hcs 2 (by omega)
        have f3 : w1.cell? ⟨gr, k * 10 + 3, none⟩ = some (.int .i64 (R[k].c 1)) := hcs 3 (by omega)
        have f4 : w1.cell? ⟨gr, k * 10 + 4, none⟩ = some (.int .i64 (R[k].c 2)) := hcs 4 (by omega)
        have f5 : w1.cell? ⟨gr, k * 10 + 5, none⟩ = some (.int .i64 (R[k].c 3)) := hcs 5 (by omega)
        have f6 : w1.cell? ⟨gr, k * 10 + 6, none⟩ = some (.int .i64 (R[k].c 4)) := hcs 6 (by omega)
        have f7 : w1.cell? ⟨gr, k * 10 + 7, none⟩ = some (.int .i64 (R[k].c 5)) := hcs 7 (by omega)
        have f8 : w1.cell? ⟨gr, k * 10 + 8, none⟩ = some (.int .i64 (R[k].c 6)) := hcs 8 (by omega)
        have f9 : w1.cell? ⟨gr, k * 10 + 9, none⟩ = some (.int .i64 (R[k].c 7)) := hcs 9 (by omega)
        simp only [Nat.add_zero] at f0
        have HN := Lib.hid (show setAll zr (R.take (k + 1)) = addM (setAll zr (R.take k)) R[k].g R[k].n R[k].c by rw [List.take_succ_eq_append_getElem hlt, setAll_snoc])
        clear hcs hB
        generalize setAll zr (R.take k) = S at *
        generalize R[k] = r at *
        go_wp2_with (first | (go_at_call 16; refine (add_any S.s S.g S.n S.c r.g r.n r.c _).mono ?_; rintro e w2 ⟨rfl, p5, rfl⟩; generalize addM S r.g r.n r.c = S2 at *; refine Stop.here ?_))
        refine Stop.on ?_
        go_step

        refine wpList_store_row rfl 31 _ _ rfl rfl (w1.heap.size + 1) rfl (rd S2.s S2.g S2.n S2.c) rfl _ (rd S.s S.g S.n S.c) (heap_back _ _ _ _ _ _) (rd_sizes _ _) (by kernel_rfl) (rd_one _ _ _ _) ?_
        obtain ⟨q2, hq2⟩ := put_back w1 _ (rd S.s S.g S.n S.c) _ _ _ _ _
        rw [hq2]
        go_wp2
        go_roundw
        case rel => exact ⟨k + 1, q2, by omega, by go_num, by rw [HN.out]⟩
        case measure => simp [intOf]; omega
      · have hkl : k = R.length := by omega
        subst hkl
        rw [List.take_length]
        go_wp2
        have HC := Lib.hid (fun g (hg : g < 8) => history_law HF.out hg)
        generalize setAll zr R = N at *
        have hXC : ∀ o, ((w1.alloc (.cells (cls C) 41)).alloc (.cells (rd N.s N.g N.n N.c) 31)).cell? ⟨w1.heap.size, o, none⟩ = (cls C)[o]? :=
          row_cells ((heap_alloc_past' _ _ _ (by simp [Old])).trans (heap_alloc_at' _ _ _ rfl))
        have hXN : ∀ o, ((w1.alloc (.cells (cls C) 41)).alloc (.cells (rd N.s N.g N.n N.c) 31)).cell? ⟨w1.heap.size + 1, o, none⟩ = (rd N.s N.g N.n N.c)[o]? :=
          row_cells (heap_alloc_at' _ _ _ (by simp))
        have hXc : ∀ gr o, Old gr w1 → ((w1.alloc (.cells (cls C) 41)).alloc (.cells (rd N.s N.g N.n N.c) 31)).cell? ⟨gr, o, none⟩ = w1.cell? ⟨gr, o, none⟩ := fun gr o ho => by
          have h0 := ho.lt
          rw [alloc_cell _ _ _ _ (by simp [Old]; omega), alloc_cell _ _ _ _ ho]
        have hXs : ((w1.alloc (.cells (cls C) 41)).alloc (.cells (rd N.s N.g N.n N.c) 31)).heap.size = w1.heap.size + 2 := by simp
        have hXB : Below w.heap.size w ((w1.alloc (.cells (cls C) 41)).alloc (.cells (rd N.s N.g N.n N.c) 31)) := by
          have h1 := HB2.out.size
          have hb := (gw_below w p1).trans (HB2.out.mono (by simp))
          simp at h1
          exact (hb.alloc (by omega) _).alloc (by simp; omega) _
        generalize (w1.alloc (.cells (cls C) 41)).alloc (.cells (rd N.s N.g N.n N.c) 31) = X at *
        have o0 : Old w1.heap.size X := by simp [Old]; omega
        have o1 : Old (w1.heap.size + 1) X := by simp [Old]; omega
        have n0 : X.cell? ⟨w1.heap.size + 1, 0, none⟩ = some (.bool N.s) := hXN 0
        have n1 : X.cell? ⟨w1.heap.size + 1, 1, none⟩ = some (.int .i64 N.g) := hXN 1
        have n2 : X.cell? ⟨w1.heap.size + 1, 2, none⟩ = some (.int .i64 N.n) := hXN 2
        have n3 : X.cell? ⟨w1.heap.size + 1, 3, none⟩ = some (.int .i64 (N.c 0)) := hXN 3
        have n4 : X.cell? ⟨w1.heap.size + 1, 4, none⟩ = some (.int .i64 (N.c 1)) := hXN 4
        have n5 : X.cell? ⟨w1.heap.size + 1, 5, none⟩ = some (.int .i64 (N.c 2)) := hXN 5
        have n6 : X.cell? ⟨w1.heap.size + 1, 6, none⟩ = some (.int .i64 (N.c 3)) := hXN 6
        have n7 : X.cell? ⟨w1.heap.size + 1, 7, none⟩ = some (.int .i64 (N.c 4)) := hXN 7
        have n8 : X.cell? ⟨w1.heap.size + 1, 8, none⟩ = some (.int .i64 (N.c 5)) := hXN 8
        have n9 : X.cell? ⟨w1.heap.size + 1, 9, none⟩ = some (.int .i64 (N.c 6)) := hXN 9
        have n10 : X.cell? ⟨w1.heap.size + 1, 10, none⟩ = some (.int .i64 (N.c 7)) := hXN 10
        have HXB := Lib.hid hXB
        have HXC := Lib.hid hXC
        have HXc := Lib.hid hXc
        have HXs := Lib.hid hXs
        clear hXN hXC hXc hXB hXs hlt hk
        go_loopw [35] (fun i wr => ∃ k : Nat, ∃ q : Regrown, k ≤ 8 ∧ i = .int .i64 k ∧ wr = gw X q) (fun i _ => 8 - (intOf i).toNat)
        case atStart => exact ⟨0, _, by omega, rfl, rfl⟩
        case round =>
        obtain ⟨k, q, hk, rfl, rfl⟩ := hrel
        by_cases hlt : k < 8
        · have hXC := HXC.out
          have z0 : X.cell? ⟨w1.heap.size, k * 8 + 0, none⟩ = some (.int .i64 (C k 0)) := (hXC _).trans (cls_get C (j := k) (i := 0) (by omega) (by omega))
          have z1 : X.cell? ⟨w1.heap.size, k * 8 + 1, none⟩ = some (.int .i64 (C k 1)) := (hXC _).trans (cls_get C (j := k) (i := 1) (by omega) (by omega))
          have z2 : X.cell? ⟨w1.heap.size, k * 8 + 2, none⟩ = some (.int .i64 (C k 2)) := (hXC _).trans (cls_get C (j := k) (i := 2) (by omega) (by omega))
          have z3 : X.cell? ⟨w1.heap.size, k * 8 + 3, none⟩ = some (.int .i64 (C k 3)) := (hXC _).trans (cls_get C (j := k) (i := 3) (by omega) (by omega))
          have z4 : X.cell? ⟨w1.heap.size, k * 8 + 4, none⟩ = some (.int .i64 (C k 4)) := (hXC _).trans (cls_get C (j := k) (i := 4) (by omega) (by omega))
          have z5 : X.cell? ⟨w1.heap.size, k * 8 + 5, none⟩ = some (.int .i64 (C k 5)) := (hXC _).trans (cls_get C (j := k) (i := 5) (by omega) (by omega))
          have z6 : X.cell? ⟨w1.heap.size, k * 8 + 6, none⟩ = some (.int .i64 (C k 6)) := (hXC _).trans (cls_get C (j := k) (i := 6) (by omega) (by omega))
          have z7 : X.cell? ⟨w1.heap.size, k * 8 + 7, none⟩ = some (.int .i64 (C k 7)) := (hXC _).trans (cls_get C (j := k) (i := 7) (by omega) (by omega))
          simp only [Nat.add_zero] at z0
          clear hXC
          have HV := Lib.hid (HC.out k hlt)
          have hki : (k : Int) < 8 := by omega
          go_wp2
          go_loopw [9, 40] (fun a i wr => ∃ j : Nat, ∃ q : Regrown, j ≤ R.length ∧ i = .int .i64 j ∧ a = .bool ((R.take j).all fun r => leqM r.g r.n (C k)) ∧ wr = gw X q) (fun _ i _ => R.length - (intOf i).toNat)
          case atStart => exact ⟨0, _, by omega, rfl, rfl, rfl⟩
          case round =>
          obtain ⟨j, q, hj, rfl, rfl, rfl⟩ := hrel
          by_cases hjt : j < R.length
          · obtain ⟨gr, cp, hv, ho, hB, hcs⟩ := read_cells HO.out hjt
            cases hv
            have hXc := HXc.out
            have f0 : X.cell? ⟨gr, j * 10 + 0, none⟩ = some (.int .i64 (R[j].g)) := (hXc gr _ ho).trans (hcs 0 (by omega))
            have f1 : X.cell? ⟨gr, j * 10 + 1, none⟩ = some (.int .i64 (R[j].n)) := (hXc gr _ ho).trans (hcs 1 (by omega))
            have f2 : X.cell? ⟨gr, j * 10 + 2, none⟩ = some (.int .i64 (R[j].c 0)) := (hXc gr _ ho).trans (hcs 2 (by omega))
            have f3 : X.cell? ⟨gr, j * 10 + 3, none⟩ = some (.int .i64 (R[j].c 1)) := (hXc gr _ ho).trans (hcs 3 (by omega))
            have f4 : X.cell? ⟨gr, j * 10 + 4, none⟩ = some (.int .i64 (R[j].c 2)) := (hXc gr _ ho).trans (hcs 4 (by omega))
            have f5 : X.cell? ⟨gr, j * 10 + 5, none⟩ = some (.int .i64 (R[j].c 3)) := (hXc gr _ ho).trans (hcs 5 (by omega))
            have f6 : X.cell? ⟨gr, j * 10 + 6, none⟩ = some (.int .i64 (R[j].c 4)) := (hXc gr _ ho).trans (hcs 6 (by omega))
            have f7 : X.cell? ⟨gr, j * 10 + 7, none⟩ = some (.int .i64 (R[j].c 5)) := (hXc gr _ ho).trans (hcs 7 (by omega))
            have f8 : X.cell? ⟨gr, j * 10 + 8, none⟩ = some (.int .i64 (R[j].c 6)) := (hXc gr _ ho).trans (hcs 8 (by omega))
            have f9 : X.cell? ⟨gr, j * 10 + 9, none⟩ = some (.int .i64 (R[j].c 7)) := (hXc gr _ ho).trans (hcs 9 (by omega))
            simp only [Nat.add_zero] at f0
            have ho2 : Old gr X := by have h0 := ho.lt; have h1 := HXs.out; simp only [Old]; omega
            have HN := Lib.hid (show ((R.take (j + 1)).all fun r => leqM r.g r.n (C k)) = (((R.take j).all fun r => leqM r.g r.n (C k)) && leqM R[j].g R[j].n (C k)) by rw [List.take_succ_eq_append_getElem hjt, List.all_append]; simp)
            clear hcs hB hXc
            generalize ((R.take j).all fun r => leqM r.g r.n (C k)) = b at *
            generalize R[j] = r at *
            cases b
            · go_wp2
              refine wp_region_gw (by kernel_rfl) (by kernel_rfl) ?_
              repeat (quiet_step (first | fail))
              refine wpQuiet_nil ?_
              intro _ hw'
              obtain ⟨p5, hw''⟩ := hw'
              subst hw''
              go_wp2
              go_roundw
              case rel =>
                obtain ⟨q2, hq2⟩ := back_alloc X q _ p5
                exact ⟨j + 1, q2, by omega, by go_num, by rw [HN.out]; rfl, hq2⟩
              case measure => simp [intOf]; omega
            · go_wp2
              refine wp_region_gw (by kernel_rfl) (by kernel_rfl) ?_
              repeat (quiet_step (first | (go_at_call 15; exact Gives.call (leqR_any r.g r.n (C k) _))))
              refine wpQuiet_nil ?_
              intro _ hw'
              obtain ⟨p5, hw''⟩ := hw'
              subst hw''
              go_wp2
              go_roundw
              case rel =>
                obtain ⟨q2, hq2⟩ := back_alloc X q _ p5
                exact ⟨j + 1, q2, by omega, by go_num, by rw [HN.out]; simp, hq2⟩
              case measure => simp [intOf]; omega
          · have hkl : j = R.length := by omega
            subst hkl
            rw [List.take_length]
            have hv := HV.out
            generalize (R.all fun r => leqM r.g r.n (C k)) = b at *
            have HW := Lib.hid (fun w => (by have := covered_any N.s N.g N.n N.c (C k) w; rwa [show coveredM ⟨N.s, N.g, N.n, N.c⟩ (C k) = b from hv] at this : Calls Try.prog 18 #[.agg (rd N.s N.g N.n N.c), .agg (cl (C k))] w (Gives (.bool b) w)))
            clear hv HV hjt hj
            cases b
            all_goals
              go_wp2
              refine wp_region_gw (by kernel_rfl) (by kernel_rfl) ?_
              repeat (quiet_step (first | (go_at_call 18; exact Gives.call (HW.out _))))
              refine wpQuiet_nil ?_
              intro _ hw'
              obtain ⟨p5, hw''⟩ := hw'
              subst hw''
              go_wp2
              go_roundw
              case rel =>
                obtain ⟨q2, hq2⟩ := gw_two X q p5
                exact ⟨k + 1, q2, by omega, by go_num, hq2⟩
              case measure => simp [intOf]; omega
        · go_wp2
          (try simp only [Exit.inBlock, Exit.then])
          refine bodyPost_ret (results_tmp rfl _ _ _) rfl ?_
          exact Gives.mk rfl (below_gw HXB.out (by have := HXB.out.size; omega) _)
  · obtain ⟨ad, cap, rfl, hcells⟩ := hl
    clear hcells
    have hgt : 60 < len := by omega
    go_enter Try.func7, Try.ntmps7
    go_wp2_with (first | (go_at_call 11; (with_reducible refine (awake_any _).mono ?_); rintro e w1 ⟨rfl, p1, rfl⟩))
    go_ret; exact Gives.mk rfl (by repeat (first | exact Below.refl _ _ | refine below_gw ?_ (by simp; try omega) _ | refine Below.alloc ?_ (by simp; try omega) _ | refine Below.setCell ?_ (by simp; try omega) _ | refine Below.drew ?_))

end Go.Proofs.Ytkfngaobgnijmaa
