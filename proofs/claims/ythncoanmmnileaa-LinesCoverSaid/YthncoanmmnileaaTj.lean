/- Line tables: a copy of a table. -/
import Derived.Test.YthncoanmmnileaaTi
namespace Go.Proofs.Ythncoanmmnileaa
open Go.RowKit Go.Sort

theorem results_c {fn : Func} {a : Tmp} {ty : TypeId} (h : fn.results = #[.cell a ty]) (tmps : Array Value) (P : Program) (w : World) (p : Addr) (hp : tmps.getD a undef = .pointer (some p)) (x : Value) (hl : (loadVar ty p).run P w = .ok x w) :
    (results fn tmps).run P w = .ok x w := by
  have hp' : tmps[a]?.getD undef = .pointer (some p) := by simpa using hp
  simp [results, h, hp', asAddr, hl]
set_option maxHeartbeats 1000000 in
theorem copied_any (ad : Option Addr) (n cap : Nat) (f : Nat → Int) (sz : Int) (w : World) (h : RowAt w ad n f) (hn : n ≤ 4000) :
    Calls Try.prog 16 #[tab ad n cap sz] w fun e w' => ∃ ad' cap', e = .returned (tab ad' n cap' sz) ∧ Below w.heap.size w w' ∧ RowAt w' ad' n f ∧ n ≤ cap' := by
  have HR := Lib.hid h; clear h
  go_enter Try.func16, Try.ntmps16
  go_wp2
  rename_i hK
  refine wp_region_relL 7 [3, 4, 5, 6, 7, 8, 9] [fun _ v => ∃ g, v = .slice (some ⟨g, 0, none⟩) 0 0, fun _ v => v = .pointer (some ⟨w.heap.size, 0, none⟩), fun _ v => v = .slice ad n cap,
    fun w' v => ∃ ad' cap', v = .slice ad' n cap' ∧ RowAt w' ad' n f ∧ n ≤ cap' ∧ (0 < n → ∃ b, ad' = some ⟨b, 0, none⟩ ∧ w.heap.size + 2 ≤ b), fun _ v => v = .pointer (some ⟨w.heap.size, 1, none⟩), fun _ v => v = .int .i64 sz, fun w' v => ∃ ad' cap', v = tab ad' n cap' sz ∧ RowAt w' ad' n f ∧ n ≤ cap' ∧ (0 < n → ∃ b, ad' = some ⟨b, 0, none⟩ ∧ w.heap.size + 2 ≤ b)] (by kernel_rfl) (by kernel_rfl) rfl rfl rfl ?_ ?_ ?_
  · refine ⟨?_, ?_, ?_, ?_, ?_, ?_, ?_, trivial⟩
    · exact fun _ _ _ h => h
    · exact fun _ _ _ h => h
    · exact fun _ _ _ h => h
    · rintro v w' q ⟨a1, a2, a3, a4, a5⟩
      exact ⟨a1, a2, a3, a4.gw q, a5⟩
    · exact fun _ _ _ h => h
    · exact fun _ _ _ h => h
    · rintro v w' q ⟨a1, a2, a3, a4, a5⟩
      exact ⟨a1, a2, a3, a4.gw q, a5⟩
  · refine ⟨?_, ?_, ?_, ?_, ?_, ?_, ?_, trivial⟩
    · refine relAt_seen [] rfl rfl rfl fun b p hs => ?_
      simp [execOp, relUpon, FofL, go_sem, gw_ex_alloc]
    · refine relAt_seen [1] rfl rfl rfl fun b p hs => ?_
      simp [allSeen, FofL, slot] at hs
      simp [execOp, relUpon, FofL, go_sem, gw_ex_self, hs]
    · refine relAt_seen [4] rfl rfl rfl fun b p hs => ?_
      simp [allSeen, FofL, slot] at hs
      simp [execOp, relUpon, FofL, go_sem, gw_ex_self, hs]
    · refine relAt_seen [3, 5] rfl rfl rfl fun b p hs => ?_
      simp [allSeen, FofL, slot] at hs
      obtain ⟨⟨g, h3⟩, h5⟩ := hs
      obtain ⟨v', w', hr, hq, hv⟩ := append_empty (gw ((w.alloc (.cells #[.slice ad n cap, .int .i64 sz] 25)).alloc (.cells #[.slice none 0 0, .int .i64 0] 25)).drew p) g ad n cap f (HR.out.below (by repeat (first | exact Below.refl _ _ | refine below_gw ?_ (by simp; try omega) _ | refine Below.alloc ?_ (by simp; try omega) _ | refine Below.setCell ?_ (by simp; try omega) _ | refine Below.drew ?_))) hn
      unfold execOp
      simp only [resolve, invoke, builtin, Sem.run_bind, Sem.run_pure, Result.andThen_ok, List.map_toArray, List.map_cons, List.map_nil, Act.eval, Array.getD_eq_getD_getElem?, h3, h5, hr]
      obtain ⟨ad', cap', e1, e2, e3, e4⟩ := hv
      refine ⟨?_, hq⟩
      simp only [FofL, Nat.reduceEqDiff, if_true, if_false]
      exact ⟨ad', cap', e1, e2, e3, fun h => by obtain ⟨b, e, hb⟩ := e4 h; exact ⟨b, e, by simp at hb; omega⟩⟩
    · refine relAt_seen [1] rfl rfl rfl fun b p hs => ?_
      simp [allSeen, FofL, slot] at hs
      simp [execOp, relUpon, FofL, go_sem, gw_ex_self, hs]
    · refine relAt_seen [7] rfl rfl rfl fun b p hs => ?_
      simp [allSeen, FofL, slot] at hs
      simp [execOp, relUpon, FofL, go_sem, gw_ex_self, hs]
    · refine relAt_seen [6, 8] rfl rfl rfl fun b p hs => ?_
      simp [allSeen, FofL, slot] at hs
      obtain ⟨⟨ad', cap', h6, h⟩, h8⟩ := hs
      simp [execOp, relUpon, FofL, go_sem, gw_ex_self, h6, h8]
      exact ⟨ad', cap', ⟨rfl, rfl⟩, h⟩
  · intro b p hdf hsz hout hF
    have h9 := hF 9
    have h2 := hF 2
    simp [FofL, slot] at h9 h2
    obtain ⟨ad', cap', h9, hr, hcap, hab⟩ := h9
    refine wpList_store_row rfl 25 _ _ rfl rfl (w.heap.size + 1) (by simpa [Act.eval] using h2) #[.slice ad' n cap', .int .i64 sz] (by simpa [Act.eval] using h9) 25 #[.slice none 0 0, .int .i64 0] (by rw [gw_heap _ _ _ (by simp)]; exact heap_alloc_at' _ _ _ (by simp)) rfl (by kernel_rfl) (by simp [Value.oneCell']) ?_
    refine wpList_nil ?_
    have hbel : Below w.heap.size w (gw ((w.alloc (.cells #[.slice ad n cap, .int .i64 sz] 25)).alloc (.cells #[.slice none 0 0, .int .i64 0] 25)).drew p) := (by repeat (first | exact Below.refl _ _ | refine below_gw ?_ (by simp; try omega) _ | refine Below.alloc ?_ (by simp; try omega) _ | refine Below.setCell ?_ (by simp; try omega) _ | refine Below.drew ?_))
    have hsz2 : w.heap.size + 2 ≤ (gw ((w.alloc (.cells #[.slice ad n cap, .int .i64 sz] 25)).alloc (.cells #[.slice none 0 0, .int .i64 0] 25)).drew p).heap.size := by simp
    have hrow : (gw ((w.alloc (.cells #[.slice ad n cap, .int .i64 sz] 25)).alloc (.cells #[.slice none 0 0, .int .i64 0] 25)).drew p).heap[w.heap.size + 1]? = some (.cells #[.slice none 0 0, .int .i64 0] 25 (0, 0)) := by
      rw [gw_heap _ _ _ (by simp)]; exact heap_alloc_at' _ _ _ (by simp)
    generalize gw ((w.alloc (.cells #[.slice ad n cap, .int .i64 sz] 25)).alloc (.cells #[.slice none 0 0, .int .i64 0] 25)).drew p = wr at *
    have hrow2 := setRow_heap _ _ _ #[.slice ad' n cap', .int .i64 sz] _ _ hrow
    have hbel2 := below_setRow' hbel (by omega : w.heap.size ≤ w.heap.size + 1) #[.slice ad' n cap', .int .i64 sz]
    have hr2 : RowAt (wr.setRow (w.heap.size + 1) #[.slice ad' n cap', .int .i64 sz]) ad' n f := by
      intro h0
      obtain ⟨b, e, hb⟩ := hab h0
      subst e
      obtain ⟨b', off', e', ho', hc'⟩ := hr h0
      have hne : b ≠ w.heap.size + 1 := by omega
      cases e'
      refine ⟨b, 0, rfl, ?_, fun i hi => ?_⟩
      · simp only [Old, setRow_size]; exact ho'
      · rw [← hc' i hi]
        unfold World.cell?
        rw [setRow_other wr (w.heap.size + 1) b _ hne]
    generalize wr.setRow (w.heap.size + 1) #[.slice ad' n cap', .int .i64 sz] = w3 at *
    clear hr hrow hbel
    simp only [Exit.then]
    refine hK _ _ ?_
    go_step
    have hld := run_loadVar_row (P := Try.prog) w3 (w.heap.size + 1) 25 25 _ (0, 0) _ hrow2 rfl (by kernel_rfl) (by kernel_rfl)
    exact bodyPost_ret (results_c Try.results16 _ _ _ _ (by simpa using h2) _ hld) hdf ⟨ad', cap', rfl, hbel2, hr2, hcap⟩

end Go.Proofs.Ythncoanmmnileaa
