/- Get of the given memory. -/
import Derived.Test.YtioajmhfofmdoaaLk
namespace Go.Proofs.Ytioajmhfofmdoaa
open Go.RowKit Go.Sort Go.Maps

theorem MemAt.gw {T : Nat → Prop} {B : Nat} {w : World} {bm bp tk n : Nat} {D : DataW Nat} {M : Int → Int → Wd} (h : MemAt T B w bm bp tk n D M) (q : Regrown) : MemAt T B (gw w q) bm bp tk n D M := by
  refine ⟨by rw [gw_heap _ _ _ (Array.getElem?_eq_some_iff.1 h.cell).1]; exact h.cell, map_gw h.own q, fun o p ho => ?_, h.apart, h.keys, h.tok, fun t ht => ?_, h.mine⟩
  · rcases h.page o p ho with h1 | ⟨b, t, h1, ht, h2, h3⟩
    · exact .inl h1
    · exact .inr ⟨b, t, h1, ht, by rw [gw_heap _ _ _ (Array.getElem?_eq_some_iff.1 h2).1]; exact h2, h3⟩
  · obtain ⟨c, hc⟩ := h.toks t ht
    exact ⟨c, by rw [gw_heap _ _ _ (Array.getElem?_eq_some_iff.1 hc).1]; exact hc⟩
theorem MemAt.below {T : Nat → Prop} {B : Nat} {w w' : World} {bm bp tk n : Nat} {D : DataW Nat} {M : Int → Int → Wd} (h : MemAt T B w bm bp tk n D M) (hb : Below w.heap.size w w') : MemAt T B w' bm bp tk n D M := by
  obtain ⟨q, rfl⟩ := gw_of_below hb
  exact h.gw q
theorem pgC_at (m : Nat → Wd) (tk : Nat) {i j : Nat} (hi : i < 16) (hj : j < 13) : (pgC m tk)[i * 13 + j]? = (wc (m i))[j]? := by
  unfold pgC
  rw [Array.getElem?_ofFn, dif_pos (by omega)]
  simp only
  rw [if_pos (by omega), show (i * 13 + j) / 13 = i by omega, show (i * 13 + j) % 13 = j by omega]
  have : j < (wc (m i)).size := by simpa using hj
  rw [Array.getElem?_eq_getElem this]
  rfl
theorem wf_i64 {x : Int} (h : -9223372036854775808 ≤ x ∧ x ≤ 9223372036854775807) : (Lit.int .i64 x).wf = true := by
  simp [Lit.wf, IntKind.min, IntKind.max, IntKind.bits, IntKind.signed]; omega

theorem results_c {fn : Func} {a : Tmp} {ty : TypeId} (h : fn.results = #[.cell a ty]) (tmps : Array Value) (P : Program) (w : World) (p : Addr) (hp : tmps.getD a undef = .pointer (some p)) (x : Value) (hl : (loadVar ty p).run P w = .ok x w) :
    (results fn tmps).run P w = .ok x w := by
  have hp' : tmps[a]?.getD undef = .pointer (some p) := by simpa using hp
  simp [results, h, hp', asAddr, hl]
set_option maxRecDepth 100000 in
set_option maxHeartbeats 1000000 in
theorem getIn_any {T : Nat → Prop} {B : Nat} {w : World} {bm bp tk n : Nat} {D : DataW Nat} {M : Int → Int → Wd} (h : MemAt T B w bm bp tk n D M) (o : Int) (p i : Nat) (hi : i < 16) (ho : 0 ≤ o ∧ o ≤ 9223372036854775807) (hf : (p * 16 + i : Int) ≤ 9223372036854775807) :
    Calls Try.prog 13 #[.pointer (some ⟨bm, 0, none⟩), locv o (p * 16 + i : Int)] w (Gives (wv (M o (p * 16 + i : Nat))) w) := by
  have hw : Below w.heap.size w ((w.alloc (.cells #[.int .i64 o, .int .i64 (p * 16 + i : Int)] 24)).alloc (.cells (wc wz) 37)) := (by repeat (first | exact Below.refl _ _ | refine below_gw ?_ (by simp; try omega) _ | refine Below.alloc ?_ (by simp; try omega) _ | refine Below.setCell ?_ (by simp; try omega) _ | refine Below.drew ?_))
  have hW := h.below hw
  have hlook := look_pg hW.own (wf_i64 (by omega : -9223372036854775808 ≤ o ∧ o ≤ 9223372036854775807)) (wf_i64 (x := (p : Int)) (by omega))
  have c0 := row_cells h.cell 0
  have c1 := row_cells h.cell 1
  simp at c0 c1
  have o0 : Old bm w := Old.of_cell c0
  have HU := Lib.hid (fun w => (by have := usable_any o (p * 16 + i : Int) w; rwa [show usM o (p * 16 + i : Int) = true by simp [usM]; omega] at this : Calls Try.prog 25 #[locv o (p * 16 + i : Int)] w (Gives (.bool true) w)))
  have HP := Lib.hid (h.page o p ⟨ho.1, ho.2, by omega⟩)
  have d1 : ((p : Int) * 16 + i).tdiv 16 = p := by rw [Int.tdiv_eq_ediv_of_nonneg (by omega)]; omega
  have d2 : ((p : Int) * 16 + i).tmod 16 = i := by rw [Int.tmod_eq_emod_of_nonneg (by omega)]; omega
  have d3 : IntKind.i64.wrap (p : Int) = p := by rw [IntKind.wrap_i64]; omega
  have d4 : IntKind.i64.wrap (i : Int) = i := by rw [IntKind.wrap_i64]; omega
  generalize hF : ((p : Int) * 16 + i) = F at *
  clear hw hW
  rcases hlook with ⟨b, hd, hl⟩ | ⟨hd, hl⟩
  · have hl2 := fun p1 q => (show _ from by
      obtain ⟨r, hr⟩ := gw_two ((w.alloc (.cells #[.int .i64 o, .int .i64 F] 24)).alloc (.cells #[.int .i64 0, .int .i64 0, .bool false, .int .i64 0, .int .i64 0, .int .i64 0, .int .i64 0, .int .i64 0, .int .i64 0, .int .i64 0, .int .i64 0, .int .i64 0, .int .i64 0] 37)) p1 q
      rw [hr]
      exact hl r : (Instr.lookup 59 (.map (some bp)) (.agg #[.int .i64 o, .int .i64 (p : Int)]) false).run Try.prog (gw (gw ((w.alloc (.cells #[.int .i64 o, .int .i64 F] 24)).alloc (.cells #[.int .i64 0, .int .i64 0, .bool false, .int .i64 0, .int .i64 0, .int .i64 0, .int .i64 0, .int .i64 0, .int .i64 0, .int .i64 0, .int .i64 0, .int .i64 0, .int .i64 0] 37)) p1) q) = .ok (.pointer (some ⟨b, 0, none⟩)) (gw (gw ((w.alloc (.cells #[.int .i64 o, .int .i64 F] 24)).alloc (.cells #[.int .i64 0, .int .i64 0, .bool false, .int .i64 0, .int .i64 0, .int .i64 0, .int .i64 0, .int .i64 0, .int .i64 0, .int .i64 0, .int .i64 0, .int .i64 0, .int .i64 0] 37)) p1) q))
    rcases HP.out with ⟨hd', _⟩ | ⟨b', tk', hd', _, hpg, _⟩
    · rw [hd] at hd'; cases hd'
    · rw [hd] at hd'
      cases hd'
      clear hl
      generalize hx : M o (p * 16 + i : Nat) = x at *
      have hpg : w.heap[b]? = some (.cells (pgC (fun i => M o (p * 16 + i : Nat)) tk') 70 (0, 0)) := hpg
      have f0 : w.cell? ⟨b, i * 13 + 0, none⟩ = some (.int .i64 (x).g) := (row_cells hpg _).trans (by rw [pgC_at _ _ hi (by omega), hx]; rfl)
      have f1 : w.cell? ⟨b, i * 13 + 1, none⟩ = some (.int .i64 (x).n) := (row_cells hpg _).trans (by rw [pgC_at _ _ hi (by omega), hx]; rfl)
      have f2 : w.cell? ⟨b, i * 13 + 2, none⟩ = some (.bool (x).s) := (row_cells hpg _).trans (by rw [pgC_at _ _ hi (by omega), hx]; rfl)
      have f3 : w.cell? ⟨b, i * 13 + 3, none⟩ = some (.int .i64 (x).rg) := (row_cells hpg _).trans (by rw [pgC_at _ _ hi (by omega), hx]; rfl)
      have f4 : w.cell? ⟨b, i * 13 + 4, none⟩ = some (.int .i64 (x).rn) := (row_cells hpg _).trans (by rw [pgC_at _ _ hi (by omega), hx]; rfl)
      have f5 : w.cell? ⟨b, i * 13 + 5, none⟩ = some (.int .i64 ((x).c 0)) := (row_cells hpg _).trans (by rw [pgC_at _ _ hi (by omega), hx]; rfl)
      have f6 : w.cell? ⟨b, i * 13 + 6, none⟩ = some (.int .i64 ((x).c 1)) := (row_cells hpg _).trans (by rw [pgC_at _ _ hi (by omega), hx]; rfl)
      have f7 : w.cell? ⟨b, i * 13 + 7, none⟩ = some (.int .i64 ((x).c 2)) := (row_cells hpg _).trans (by rw [pgC_at _ _ hi (by omega), hx]; rfl)
      have f8 : w.cell? ⟨b, i * 13 + 8, none⟩ = some (.int .i64 ((x).c 3)) := (row_cells hpg _).trans (by rw [pgC_at _ _ hi (by omega), hx]; rfl)
      have f9 : w.cell? ⟨b, i * 13 + 9, none⟩ = some (.int .i64 ((x).c 4)) := (row_cells hpg _).trans (by rw [pgC_at _ _ hi (by omega), hx]; rfl)
      have f10 : w.cell? ⟨b, i * 13 + 10, none⟩ = some (.int .i64 ((x).c 5)) := (row_cells hpg _).trans (by rw [pgC_at _ _ hi (by omega), hx]; rfl)
      have f11 : w.cell? ⟨b, i * 13 + 11, none⟩ = some (.int .i64 ((x).c 6)) := (row_cells hpg _).trans (by rw [pgC_at _ _ hi (by omega), hx]; rfl)
      have f12 : w.cell? ⟨b, i * 13 + 12, none⟩ = some (.int .i64 ((x).c 7)) := (row_cells hpg _).trans (by rw [pgC_at _ _ hi (by omega), hx]; rfl)
      have o3 : Old b w := Old.of_cell f0
      have di : (i : Int) < 16 := by omega
      simp only [Nat.add_zero] at f0
      clear hpg HP hd h hx
      go_enter Try.func13, Try.ntmps13
      go_wp2_with (go_at_call 25; refine (HU.out _).mono ?_; rintro e w1 ⟨rfl, p1, rfl⟩)
      refine wp_region_gw (by kernel_rfl) (by kernel_rfl) ?_
      repeat (quiet_step (first | fail))
      refine wpQuiet_nil ?_
      intro _ hw'
      obtain ⟨p2, hw''⟩ := hw'
      subst hw''
      go_wp2
      rename_i hK
      refine wp_region_qm 8 [] (by kernel_rfl) (by kernel_rfl) (by simp [quietOps, List.range, List.range.loop]; rfl) (by simp [makerOps]; rfl) (by simp; rfl) ?_
      repeat (refine wpG_step (fun K hK => ?_); go_simp; first | (refine hK _ ?_; clear hK K))
      refine wpG_nil ?_
      refine ⟨[], trivial, ?_⟩
      intro bs hls _ _ q _
      match bs, hls with
      | [], _ =>
        generalize hA : putMk _ _ _ _ = AA
        simp [putMk] at hA
        subst hA
        have hrow : (gw (World.drew (gw (gw ((w.alloc (.cells #[.int .i64 o, .int .i64 F] 24)).alloc (.cells #[.int .i64 0, .int .i64 0, .bool false, .int .i64 0, .int .i64 0, .int .i64 0, .int .i64 0, .int .i64 0, .int .i64 0, .int .i64 0, .int .i64 0, .int .i64 0, .int .i64 0] 37)) p1) p2)) q).heap[w.heap.size + 1]? = some (.cells #[.int .i64 0, .int .i64 0, .bool false, .int .i64 0, .int .i64 0, .int .i64 0, .int .i64 0, .int .i64 0, .int .i64 0, .int .i64 0, .int .i64 0, .int .i64 0, .int .i64 0] 37 (0, 0)) := by
          rw [gw_heap _ _ _ (by simp; omega)]
          show (gw (gw _ p1) p2).heap[_]? = _
          rw [gw_heap _ _ _ (by simp; omega), gw_heap _ _ _ (by simp), heap_alloc_at' _ _ _ (by simp)]
        have hbel : Below w.heap.size w (gw (World.drew (gw (gw ((w.alloc (.cells #[.int .i64 o, .int .i64 F] 24)).alloc (.cells #[.int .i64 0, .int .i64 0, .bool false, .int .i64 0, .int .i64 0, .int .i64 0, .int .i64 0, .int .i64 0, .int .i64 0, .int .i64 0, .int .i64 0, .int .i64 0, .int .i64 0] 37)) p1) p2)) q) := (by repeat (first | exact Below.refl _ _ | refine below_gw ?_ (by simp; try omega) _ | refine Below.alloc ?_ (by simp; try omega) _ | refine Below.setCell ?_ (by simp; try omega) _ | refine Below.drew ?_))
        generalize gw (World.drew (gw (gw ((w.alloc (.cells #[.int .i64 o, .int .i64 F] 24)).alloc (.cells #[.int .i64 0, .int .i64 0, .bool false, .int .i64 0, .int .i64 0, .int .i64 0, .int .i64 0, .int .i64 0, .int .i64 0, .int .i64 0, .int .i64 0, .int .i64 0, .int .i64 0] 37)) p1) p2)) q = w9 at *
        refine wpList_store_row rfl 37 _ _ rfl rfl (w.heap.size + 1) rfl (wc x) rfl 37 #[.int .i64 0, .int .i64 0, .bool false, .int .i64 0, .int .i64 0, .int .i64 0, .int .i64 0, .int .i64 0, .int .i64 0, .int .i64 0, .int .i64 0, .int .i64 0, .int .i64 0] hrow rfl (by kernel_rfl) (by simp [Value.oneCell']) ?_
        have hrow2 := setRow_heap _ _ _ (wc x) _ _ hrow
        have hbel2 := below_setRow' hbel (by omega : w.heap.size ≤ w.heap.size + 1) (wc x)
        generalize w9.setRow (w.heap.size + 1) (wc x) = w8 at *
        refine wpList_nil ?_
        simp only [Exit.then]
        refine hK _ _ ?_
        go_step
        have hld := run_loadVar_row (P := Try.prog) w8 (w.heap.size + 1) 37 37 _ (0, 0) _ hrow2 rfl (by kernel_rfl) (by kernel_rfl)
        exact bodyPost_ret (results_c Try.results13 _ _ _ _ rfl _ hld) rfl (Gives.mk rfl hbel2)
  · have hl2 := fun p1 q => (show _ from by
      obtain ⟨r, hr⟩ := gw_two ((w.alloc (.cells #[.int .i64 o, .int .i64 F] 24)).alloc (.cells #[.int .i64 0, .int .i64 0, .bool false, .int .i64 0, .int .i64 0, .int .i64 0, .int .i64 0, .int .i64 0, .int .i64 0, .int .i64 0, .int .i64 0, .int .i64 0, .int .i64 0] 37)) p1 q
      rw [hr]
      exact hl r : (Instr.lookup 59 (.map (some bp)) (.agg #[.int .i64 o, .int .i64 (p : Int)]) false).run Try.prog (gw (gw ((w.alloc (.cells #[.int .i64 o, .int .i64 F] 24)).alloc (.cells #[.int .i64 0, .int .i64 0, .bool false, .int .i64 0, .int .i64 0, .int .i64 0, .int .i64 0, .int .i64 0, .int .i64 0, .int .i64 0, .int .i64 0, .int .i64 0, .int .i64 0] 37)) p1) q) = .ok (.pointer none) (gw (gw ((w.alloc (.cells #[.int .i64 o, .int .i64 F] 24)).alloc (.cells #[.int .i64 0, .int .i64 0, .bool false, .int .i64 0, .int .i64 0, .int .i64 0, .int .i64 0, .int .i64 0, .int .i64 0, .int .i64 0, .int .i64 0, .int .i64 0, .int .i64 0] 37)) p1) q))
    have he := Lib.hid (show wv (M o (p * 16 + i : Nat)) = wv wz by
      rcases HP.out with ⟨_, hz⟩ | ⟨b, tk', hd', _⟩
      · exact hz i hi
      · rw [hd] at hd'; cases hd')
    clear hd hl HP h
    go_enter Try.func13, Try.ntmps13
    go_wp2_with (go_at_call 25; refine (HU.out _).mono ?_; rintro e w1 ⟨rfl, p1, rfl⟩)
    refine wp_region_gw (by kernel_rfl) (by kernel_rfl) ?_
    repeat (quiet_step (first | fail))
    refine wpQuiet_nil ?_
    intro _ hw'
    obtain ⟨p2, hw''⟩ := hw'
    subst hw''
    go_wp2
    exact bodyPost_ret (v := .agg #[.int .i64 0, .int .i64 0, .bool false, .int .i64 0, .int .i64 0, .int .i64 0, .int .i64 0, .int .i64 0, .int .i64 0, .int .i64 0, .int .i64 0, .int .i64 0, .int .i64 0]) (by simp [results, Try.results13, go_sem] <;> rfl) rfl (Gives.mk (by rw [he.out]; rfl) (by repeat (first | exact Below.refl _ _ | refine below_gw ?_ (by simp; try omega) _ | refine Below.alloc ?_ (by simp; try omega) _ | refine Below.setCell ?_ (by simp; try omega) _ | refine Below.drew ?_)))

end Go.Proofs.Ytioajmhfofmdoaa
