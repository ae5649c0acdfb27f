/- The document's memory: Less, Get. -/
import Derived.Test.YtioajmhfofmdoaaMd
import Derived.Test.YtioajmhfofmdoaaOwn
namespace Go.Proofs.Ytioajmhfofmdoaa
open Go.RowKit Go.Sort

/-- An entry's cells. -/
abbrev entC (e : Ent) : List Value := [.int .i64 e.1, .int .i64 e.2.1, .int .i64 e.2.2.g, .int .i64 e.2.2.n, .bool e.2.2.s, .int .i64 e.2.2.rg, .int .i64 e.2.2.rn, .int .i64 (e.2.2.c 0), .int .i64 (e.2.2.c 1), .int .i64 (e.2.2.c 2), .int .i64 (e.2.2.c 3), .int .i64 (e.2.2.c 4), .int .i64 (e.2.2.c 5), .int .i64 (e.2.2.c 6), .int .i64 (e.2.2.c 7)]
/-- The entries in memory. -/
def EntAt (w : World) (v : Value) (l : List Ent) : Prop :=
  ∃ ad cap, v = .slice ad l.length cap ∧ (0 < l.length → ∃ b off, ad = some ⟨b, off, none⟩ ∧ Old b w ∧ ∀ k (h : k < l.length) i, i < 15 → w.cell? ⟨b, off + k * 15 + i, none⟩ = (entC l[k])[i]?)
theorem EntAt.gw {w : World} {v : Value} {l : List Ent} (h : EntAt w v l) (p : Regrown) : EntAt (gw w p) v l := by
  obtain ⟨ad, cap, e, h⟩ := h
  refine ⟨ad, cap, e, fun h0 => ?_⟩
  obtain ⟨b, off, e, ho, hc⟩ := h h0
  exact ⟨b, off, e, by simp [Old] at ho ⊢; omega, fun k hk i hi => by rw [gw_cell _ _ _ _ ho]; exact hc k hk i hi⟩
theorem EntAt.below {w w' : World} {v : Value} {l : List Ent} (h : EntAt w v l) (hb : Below w.heap.size w w') : EntAt w' v l := by
  obtain ⟨p, rfl⟩ := gw_of_below hb
  exact h.gw p

theorem less_any (o f o' f' : Int) (w : World) : Calls Try.prog 33 #[locv o f, locv o' f'] w (Gives (.bool (lessM o f o' f')) w) := by
  by_cases h1 : o < o'
  · have he := Lib.hid (show lessM o f o' f' = true by simp [lessM, h1])
    go_enter Try.func33, Try.ntmps33
    go_wp2
    go_ret; exact Gives.mk (by rw [he.out]; rfl) (by repeat (first | exact Below.refl _ _ | refine below_gw ?_ (by simp; try omega) _ | refine Below.alloc ?_ (by simp; try omega) _ | refine Below.setCell ?_ (by simp; try omega) _ | refine Below.drew ?_))
  · by_cases h2 : o = o'
    · subst h2
      have he := Lib.hid (show lessM o f o f' = decide (f < f') by simp [lessM])
      clear h1
      go_enter Try.func33, Try.ntmps33
      go_wp2
      go_ret; exact Gives.mk (by rw [he.out]; rfl) (by repeat (first | exact Below.refl _ _ | refine below_gw ?_ (by simp; try omega) _ | refine Below.alloc ?_ (by simp; try omega) _ | refine Below.setCell ?_ (by simp; try omega) _ | refine Below.drew ?_))
    · have he := Lib.hid (show lessM o f o' f' = false by simp [lessM, h1, h2])
      have q0 : (o == o') = false := by rw [beq_eq_false_iff_ne]; exact h2
      clear h2
      go_enter Try.func33, Try.ntmps33
      go_wp2
      go_ret; exact Gives.mk (by rw [he.out]; rfl) (by repeat (first | exact Below.refl _ _ | refine below_gw ?_ (by simp; try omega) _ | refine Below.alloc ?_ (by simp; try omega) _ | refine Below.setCell ?_ (by simp; try omega) _ | refine Below.drew ?_))

theorem get_drop {l : List Ent} {o f : Int} {k : Nat} (hk : k < l.length) : getM (l.drop k) o f = if isLoc l[k] o f then l[k].2.2 else getM (l.drop (k + 1)) o f := by
  rw [List.drop_eq_getElem_cons hk, getM]

set_option maxHeartbeats 1000000 in
theorem getR_any (v : Value) (l : List Ent) (o f : Int) (w : World) (h : EntAt w v l) (hn : l.length ≤ 4000) :
    Calls Try.prog 14 #[v, locv o f] w (Gives (wv (getM l o f)) w) := by
  obtain ⟨ad, cap, rfl, hrow⟩ := h
  have HR := Lib.hid hrow; clear hrow
  go_enter Try.func14, Try.ntmps14
  go_wp2
  go_loopw [5] (fun i wr => ∃ k : Nat, ∃ q, k ≤ l.length ∧ i = .int .i64 k ∧ getM l o f = getM (l.drop k) o f ∧ wr = gw ((w.alloc (.cells #[.int .i64 o, .int .i64 f] 24)).alloc (.cells (wc wz) 37)) q) (fun i _ => l.length - (intOf i).toNat)
  case atStart => exact ⟨0, _, by omega, rfl, rfl, gw_self _⟩
  case round =>
    obtain ⟨k, q, hk, rfl, hg, rfl⟩ := hrel
    have HG := Lib.hid hg; clear hg
    by_cases hlt : k < l.length
    · obtain ⟨b, off, rfl, ho, hcs⟩ := HR.out (by omega)
      have e0 := hcs k hlt 0 (by omega)
      have e1 := hcs k hlt 1 (by omega)
      have e2 := hcs k hlt 2 (by omega)
      have e3 := hcs k hlt 3 (by omega)
      have e4 := hcs k hlt 4 (by omega)
      have e5 := hcs k hlt 5 (by omega)
      have e6 := hcs k hlt 6 (by omega)
      have e7 := hcs k hlt 7 (by omega)
      have e8 := hcs k hlt 8 (by omega)
      have e9 := hcs k hlt 9 (by omega)
      have e10 := hcs k hlt 10 (by omega)
      have e11 := hcs k hlt 11 (by omega)
      have e12 := hcs k hlt 12 (by omega)
      have e13 := hcs k hlt 13 (by omega)
      have e14 := hcs k hlt 14 (by omega)
      have HD := Lib.hid (get_drop (l := l) (o := o) (f := f) hlt)
      have kb : (k : Int) < l.length := by omega
      clear hcs
      generalize l[k] = e at *
      obtain ⟨eo, ef, x⟩ := e
      simp at e0 e1 e2 e3 e4 e5 e6 e7 e8 e9 e10 e11 e12 e13 e14
      by_cases hloc : eo = o ∧ ef = f
      · obtain ⟨rfl, rfl⟩ := hloc
        have ql : ∀ w, (binOp .eql 24 (locv eo ef) (locv eo ef)).run Try.prog w = .ok (.bool true) w := fun w => by rw [run_eql_loc]; simp
        have he := Lib.hid (show getM l eo ef = x by rw [HG.out, HD.out]; simp [isLoc])
        go_wp2
        refine wp_region_gw (by kernel_rfl) (by kernel_rfl) ?_
        repeat (quiet_step (first | fail))
        refine wpQuiet_nil ?_
        intro _ hw'
        obtain ⟨p1, hw''⟩ := hw'
        subst hw''
        go_wp2
        exact bodyPost_ret (v := wv x) (by simp [results, Try.results14, go_sem] <;> rfl) rfl (Gives.mk (by rw [he.out]) (by repeat (first | exact Below.refl _ _ | refine below_gw ?_ (by simp; try omega) _ | refine Below.alloc ?_ (by simp; try omega) _ | refine Below.setCell ?_ (by simp; try omega) _ | refine Below.drew ?_)))
      · have ql : ∀ w, (binOp .eql 24 (locv eo ef) (locv o f)).run Try.prog w = .ok (.bool false) w := fun w => by
          rw [run_eql_loc, show (eo == o && ef == f) = false by
            cases h : (eo == o && ef == f)
            · rfl
            · exact absurd (by simpa using h) hloc]
        have he := Lib.hid (show getM l o f = getM (l.drop (k + 1)) o f by
          rw [HG.out, HD.out, if_neg]
          simpa [isLoc] using hloc)
        clear hloc
        go_wp2
        refine wp_region_gw (by kernel_rfl) (by kernel_rfl) ?_
        repeat (quiet_step (first | fail))
        refine wpQuiet_nil ?_
        intro _ hw'
        obtain ⟨p1, hw''⟩ := hw'
        subst hw''
        go_wp2
        go_roundw
        case rel =>
          obtain ⟨q2, hq2⟩ := gw_two _ q p1
          exact ⟨k + 1, q2, by omega, by go_num, he.out, hq2⟩
        case measure => simp [intOf]; omega
    · have he := Lib.hid (show getM l o f = wz by rw [HG.out, List.drop_eq_nil_of_le (by omega)]; rfl)
      go_wp2
      exact bodyPost_ret (v := .agg #[.int .i64 0, .int .i64 0, .bool false, .int .i64 0, .int .i64 0, .int .i64 0, .int .i64 0, .int .i64 0, .int .i64 0, .int .i64 0, .int .i64 0, .int .i64 0, .int .i64 0]) (by simp [results, Try.results14, go_sem] <;> rfl) rfl (Gives.mk (by rw [he.out]; rfl) (by repeat (first | exact Below.refl _ _ | refine below_gw ?_ (by simp; try omega) _ | refine Below.alloc ?_ (by simp; try omega) _ | refine Below.setCell ?_ (by simp; try omega) _ | refine Below.drew ?_)))

end Go.Proofs.Ytioajmhfofmdoaa
