/- The visitor, Drop, Covered and Add. -/
import Derived.Test.YtkfngaobgnijmaaEp
namespace Go.Proofs.Ytkfngaobgnijmaa
open Go.RowKit Go.Sort

/-- The visitor keeps the read of g if it is not in the clock. -/
theorem visit_any (b : Nat) (k : Nat) (n sg lgv : Int) (w : World) (hk : k < 8) (h1 : w.cell? ⟨b, k, none⟩ = some (.int .i64 sg)) (h2 : w.cell? ⟨b, 8 + k, none⟩ = some (.int .i64 lgv)) (h3 : w.frozen? ⟨b, 8 + k, none⟩ = false) :
    Calls Try.prog 34 #[.pointer (some ⟨b, 0, none⟩), .int .i64 k, .int .i64 n] w fun e w' => e = .returned (.tuple #[]) ∧ (if sg < n then w.setCell ⟨b, 8 + k, none⟩ (.int .i64 n) else w) = w' := by
  by_cases hn : sg < n
  · go_enter Try.func34, Try.ntmps34
    go_wp2
    go_end0
    exact ⟨rfl, rfl⟩
  · go_enter Try.func34, Try.ntmps34
    go_wp2
    go_end0
    exact ⟨rfl, rfl⟩


theorem each_cells (x s l : Clk) (b k : Nat) (w : World) (V : Array Value) (t0 : TypeId) (hk : k < 8) (hb : w.heap[b]? = some (.cells V t0 (0, 0))) (hbs : b < w.heap.size) (T : TypeId) :
    ((w.setRow b (vis s l)).alloc (.cells (cl x) T)).cell? ⟨b, k, none⟩ = some (.int .i64 (s k)) ∧ ((w.setRow b (vis s l)).alloc (.cells (cl x) T)).cell? ⟨b, 8 + k, none⟩ = some (.int .i64 (l k))
    ∧ ((w.setRow b (vis s l)).alloc (.cells (cl x) T)).frozen? ⟨b, 8 + k, none⟩ = false
    ∧ ∀ v, ((w.setRow b (vis s l)).alloc (.cells (cl x) T)).setCell ⟨b, 8 + k, none⟩ (.int .i64 v) = (w.setRow b (vis s (upd l k v))).alloc (.cells (cl x) T) := by
  have hne : b ≠ (w.setRow b (vis s l)).heap.size := by simp; omega
  have hlt : b < (w.setRow b (vis s l)).heap.size := by simp; omega
  have hh : (w.setRow b (vis s l)).heap[b]? = some (.cells (vis s l) t0 (0, 0)) := setRow_heap w b _ _ _ _ hb
  refine ⟨?_, ?_, ?_, fun v => ?_⟩
  · rw [World.cell?_alloc_old _ _ _ hne, cell_of_row _ _ _ _ _ _ hh]; exact vis_lo s l k hk
  · rw [World.cell?_alloc_old _ _ _ hne, cell_of_row _ _ _ _ _ _ hh]; exact vis_hi s l k hk
  · rw [World.frozen?_alloc_old _ _ _ hne]; exact frozen_of_row _ _ _ _ _ hh
  · rw [World.setCell_alloc_past _ _ _ _ hlt, setCell_eq_setRow _ b (8 + k) _ _ _ _ hh, vis_set s l k v hk, setRow_setRow]

set_option maxHeartbeats 400000 in
theorem each_any (x s : Clk) (b : Nat) (t0 : TypeId) (w : World) (hb : w.heap[b]? = some (.cells (vis s zc) t0 (0, 0))) :
    Calls Try.prog 33 #[.agg (cl x), .func (.func 34) #[.pointer (some ⟨b, 0, none⟩)] #[]] w fun e w' => e = .returned (.tuple #[]) ∧ ∃ p : Regrown, w' = gw (w.setRow b (vis s (leftM x s 8))) p := by
  have hbs : b < w.heap.size := by
    rcases Nat.lt_or_ge b w.heap.size with h | h
    · exact h
    · simp [Array.getElem?_eq_none h] at hb
  have hself : w = w.setRow b (vis s (leftM x s 0)) := (setRow_self w b _ _ _ hb).symm
  have HS := Lib.hid hself; clear hself
  have HB := Lib.hid hb; clear hb
  have hz : b < (w.setRow b (vis s (leftM x s 8))).heap.size := by simp; omega
  go_enter Try.func33, Try.ntmps33
  go_wp2
  go_loopw [5] (fun i wr => ∃ k : Nat, k ≤ 8 ∧ i = .int .i64 k ∧ wr = (w.setRow b (vis s (leftM x s k))).alloc (.cells (cl x) 23)) (fun i _ => 8 - (intOf i).toNat)
  case atStart => exact ⟨0, by omega, rfl, by rw [← HS.out]⟩
  case round =>
    obtain ⟨k, hk, rfl, rfl⟩ := hrel
    by_cases hlt : k < 8
    · have hg := cl_get x k hlt
      by_cases hp : 0 < x k
      · obtain ⟨c1, c2, c3, c4⟩ := each_cells x s (leftM x s k) b k w _ _ hlt HB.out hbs 23
        have HC := Lib.hid (And.intro c1 (And.intro c2 (And.intro c3 c4))); clear c1 c2 c3 c4
        by_cases hq : s k < x k
        · have hl := Lib.hid (show leftM x s (k + 1) = upd (leftM x s k) k (x k) by simp [leftM, hp, hq])
          go_wp2_with (go_at_call 34; refine (visit_any b k (x k) (s k) _ _ hlt HC.out.1 HC.out.2.1 HC.out.2.2.1).mono ?_; rintro e w1 ⟨rfl, hw1⟩; rw [if_pos hq, HC.out.2.2.2] at hw1; subst hw1)
          go_roundw
          case rel => exact ⟨k + 1, by omega, by go_num, by rw [hl.out]⟩
          case measure => simp [intOf]; omega
        · have hl := Lib.hid (show leftM x s (k + 1) = leftM x s k by simp [leftM, hq])
          go_wp2_with (go_at_call 34; refine (visit_any b k (x k) (s k) _ _ hlt HC.out.1 HC.out.2.1 HC.out.2.2.1).mono ?_; rintro e w1 ⟨rfl, hw1⟩; rw [if_neg hq] at hw1; subst hw1)
          go_roundw
          case rel => exact ⟨k + 1, by omega, by go_num, by rw [hl.out]⟩
          case measure => simp [intOf]; omega
      · have hl := Lib.hid (show leftM x s (k + 1) = leftM x s k by simp [leftM, hp])
        go_wp2
        go_roundw
        case rel => exact ⟨k + 1, by omega, by go_num, by rw [hl.out]⟩
        case measure => simp [intOf]; omega
    · obtain rfl : k = 8 := by omega
      go_wp2
      go_end0
      exact ⟨rfl, gw_of_below ((Below.refl _ _).alloc (Nat.le_refl _) _)⟩

theorem drop_no {r : RD} {c : Clk} (h : validM r = false) : rdv zr = rdv (dropM r c) := by simp [dropM, h]
theorem drop_yes {r : RD} {c : Clk} (h : validM r = true) : rdv (compactM (leftM (expandM r) c 8)) = rdv (dropM r c) := by simp [dropM, h]

set_option maxHeartbeats 400000 in
theorem drop_any (s : Bool) (g n : Int) (x c : Clk) (w : World) :
    Calls Try.prog 20 #[.agg (rd s g n x), .agg (cl c)] w (Gives (rdv (dropM ⟨s, g, n, x⟩ c)) w) := by
  cases hv : validM ⟨s, g, n, x⟩
  · have he := Lib.hid (drop_no (c := c) hv)
    go_enter Try.func20, Try.ntmps20
    go_wp2_with (go_at_call 24; refine (valid_any s g n x _).mono ?_; rintro e w1 ⟨rfl, p1, rfl⟩)
    exact bodyPost_ret (v := rdv zr) (by simp [results, Try.results20, go_sem] <;> rfl) rfl (Gives.mk he.out (by repeat (first | exact Below.refl _ _ | refine below_gw ?_ (by simp; try omega) _ | refine Below.alloc ?_ (by simp; try omega) _ | refine Below.setCell ?_ (by simp; try omega) _ | refine Below.drew ?_)))
  · have he := Lib.hid (drop_yes (c := c) hv)
    go_enter Try.func20, Try.ntmps20
    go_wp2_with (first | (go_at_call 24; refine (valid_any s g n x _).mono ?_; rintro e w1 ⟨rfl, p1, rfl⟩) | (go_at_call 30; refine (expand_any s g n x _).mono ?_; rintro e w1 ⟨rfl, p2, rfl⟩))
    refine (each_any (expandM ⟨s, g, n, x⟩) c _ 52 _ (heap_newest _ _ _ _ (by simp))).mono ?_
    rintro e w1 ⟨rfl, p3, rfl⟩
    go_wp2_with (go_at_call 31; refine (compact_any (leftM (expandM ⟨s, g, n, x⟩) c 8) _).mono ?_; rintro e w1 ⟨rfl, p4, rfl⟩)
    exact bodyPost_ret (v := rdv (compactM (leftM (expandM ⟨s, g, n, x⟩) c 8))) (by simp [results, Try.results20, go_sem] <;> rfl) rfl (Gives.mk he.out (by repeat (first | exact Below.refl _ _ | refine below_gw ?_ (by simp; try omega) _ | refine Below.alloc ?_ (by simp; try omega) _ | refine Below.setCell ?_ (by simp; try omega) _ | refine Below.drew ?_)))

theorem covered_no {r : RD} {c : Clk} (h : validM r = false) : Value.bool false = .bool (coveredM r c) := by simp [coveredM, h]
theorem covered_yes {r : RD} {c : Clk} (h : validM r = true) : Value.bool (rdE (dropM r c) zr) = .bool (coveredM r c) := by simp [coveredM, h]
set_option maxHeartbeats 400000 in
theorem covered_any (s : Bool) (g n : Int) (x c : Clk) (w : World) :
    Calls Try.prog 18 #[.agg (rd s g n x), .agg (cl c)] w (Gives (.bool (coveredM ⟨s, g, n, x⟩ c)) w) := by
  cases hv : validM ⟨s, g, n, x⟩
  · have he := Lib.hid (covered_no (c := c) hv)
    go_enter Try.func18, Try.ntmps18
    go_wp2_with (go_at_call 24; refine (valid_any s g n x _).mono ?_; rintro e w1 ⟨rfl, p1, rfl⟩)
    go_ret; exact Gives.mk he.out (by repeat (first | exact Below.refl _ _ | refine below_gw ?_ (by simp; try omega) _ | refine Below.alloc ?_ (by simp; try omega) _ | refine Below.setCell ?_ (by simp; try omega) _ | refine Below.drew ?_))
  · have he := Lib.hid (covered_yes (c := c) hv)
    have heq := fun w => run_eql_zr (dropM ⟨s, g, n, x⟩ c) w
    go_enter Try.func18, Try.ntmps18
    go_wp2_with (first | (go_at_call 24; refine (valid_any s g n x _).mono ?_; rintro e w1 ⟨rfl, p1, rfl⟩) | (go_at_call 20; refine (drop_any s g n x c _).mono ?_; rintro e w1 ⟨rfl, p2, rfl⟩))
    go_ret; exact Gives.mk he.out (by repeat (first | exact Below.refl _ _ | refine below_gw ?_ (by simp; try omega) _ | refine Below.alloc ?_ (by simp; try omega) _ | refine Below.setCell ?_ (by simp; try omega) _ | refine Below.drew ?_))

end Go.Proofs.Ytkfngaobgnijmaa
