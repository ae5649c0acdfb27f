/- The comparison of keys that Locations hands to the sort. -/
import Derived.Test.YtioajmhfofmdoaaRx
import Derived.Test.YtioajmhfofmdoaaKs
import Derived.Test.YtioajmhfofmdoaaQd
namespace Go.Proofs.Ytioajmhfofmdoaa
open Go.RowKit Go.Sort

def cmpI (x y : Int) : Int := if x < y then -1 else if y < x then 1 else 0
theorem isNaN_any (x : Int) (w : World) : Calls Try.prog 37 #[.int .i64 x] w fun e w' => e = .returned (.bool false) ∧ w' = w := by
  have h : (x != x) = false := by simp
  go_enter Try.func37, Try.ntmps37
  go_wp2
  go_ret
  exact ⟨rfl, rfl⟩
theorem compare_any (x y : Int) (w : World) : Calls Try.prog 31 #[.int .i64 x, .int .i64 y] w fun e w' => e = .returned (.int .i64 (cmpI x y)) ∧ w' = w := by
  by_cases h1 : x < y
  · have he := Lib.hid (show cmpI x y = -1 by simp [cmpI, h1])
    have hd : decide (x < y) = true := by simpa using h1
    clear h1
    go_enter Try.func31, Try.ntmps31
    go_wp2_with (go_at_call 37; refine (isNaN_any _ _).mono ?_; rintro e w' ⟨rfl, rfl⟩)
    go_ret
    exact ⟨by rw [he.out]; rfl, rfl⟩
  · have hd1 : decide (x < y) = false := by simpa using h1
    by_cases h2 : y < x
    · have he := Lib.hid (show cmpI x y = 1 by simp [cmpI, h1, h2])
      have hd : decide (y < x) = true := by simpa using h2
      clear h1 h2
      go_enter Try.func31, Try.ntmps31
      go_wp2_with (go_at_call 37; refine (isNaN_any _ _).mono ?_; rintro e w' ⟨rfl, rfl⟩)
      go_ret
      exact ⟨by rw [he.out]; rfl, rfl⟩
    · have he := Lib.hid (show cmpI x y = 0 by simp [cmpI, h1, h2])
      have hd : decide (y < x) = false := by simpa using h2
      clear h1 h2
      go_enter Try.func31, Try.ntmps31
      go_wp2_with (go_at_call 37; refine (isNaN_any _ _).mono ?_; rintro e w' ⟨rfl, rfl⟩)
      go_ret
      exact ⟨by rw [he.out]; rfl, rfl⟩
def orI (a b : Int) : Int := if a = 0 then b else a
theorem or_any (a b : Int) (g off cap : Nat) (w : World) (h0 : w.cell? ⟨g, off, none⟩ = some (.int .i64 a)) (h1 : w.cell? ⟨g, off + 1, none⟩ = some (.int .i64 b)) :
    Calls Try.prog 30 #[.slice (some ⟨g, off, none⟩) 2 cap] w fun e w' => e = .returned (.int .i64 (orI a b)) ∧ w' = w := by
  have o0 : Old g w := Old.of_cell h0
  by_cases ha : a = 0
  · subst ha
    by_cases hb : b = 0
    · subst hb
      have he := Lib.hid (show orI 0 0 = 0 by simp [orI])
      go_enter Try.func30, Try.ntmps30
      go_wp2
      go_loopw [8] (fun i wr => ∃ k : Nat, k ≤ 2 ∧ i = .int .i64 k ∧ wr = w) (fun i _ => 2 - (intOf i).toNat)
      case atStart => exact ⟨0, by omega, rfl, rfl⟩
      case round =>
        obtain ⟨k, hk, rfl, rfl⟩ := hrel
        match k, hk with
        | 0, _ =>
          go_wp2
          go_roundw
          case rel => exact ⟨1, by omega, rfl, by first | rfl | trivial⟩
          case measure => simp [intOf]
        | 1, _ =>
          go_wp2
          go_roundw
          case rel => exact ⟨2, by omega, rfl, by first | rfl | trivial⟩
          case measure => simp [intOf]
        | 2, _ =>
          go_wp2
          go_ret
          exact ⟨by rw [he.out]; rfl, rfl⟩
    · have he := Lib.hid (show orI 0 b = b by simp [orI])
      have hn : (b != 0) = true := by simpa using hb
      clear hb
      go_enter Try.func30, Try.ntmps30
      go_wp2
      go_loopw [8] (fun i wr => ∃ k : Nat, k ≤ 1 ∧ i = .int .i64 k ∧ wr = w) (fun i _ => 2 - (intOf i).toNat)
      case atStart => exact ⟨0, by omega, rfl, rfl⟩
      case round =>
        obtain ⟨k, hk, rfl, rfl⟩ := hrel
        match k, hk with
        | 0, _ =>
          go_wp2
          go_roundw
          case rel => exact ⟨1, by omega, rfl, by first | rfl | trivial⟩
          case measure => simp [intOf]
        | 1, _ =>
          go_wp2
          go_ret
          exact ⟨by rw [he.out]; rfl, rfl⟩
  · have he := Lib.hid (show orI a b = a by simp [orI, ha])
    have hn : (a != 0) = true := by simpa using ha
    clear ha
    go_enter Try.func30, Try.ntmps30
    go_wp2
    go_loopw [8] (fun i wr => i = .int .i64 0 ∧ wr = w) (fun i _ => 2 - (intOf i).toNat)
    case atStart => exact ⟨rfl, rfl⟩
    case round =>
      obtain ⟨rfl, rfl⟩ := hrel
      go_wp2
      go_ret
      exact ⟨by rw [he.out]; rfl, rfl⟩

theorem gm_boxes (W : World) (A B : Obj) (q : Regrown) : Dm.gm ((W.alloc A).alloc B).drew q = grow (W.drewN (q.d + 1)) (#[A, B] ++ q.os) := by
  have h1 : (W.heap.push A).push B ++ q.os = W.heap ++ (#[A, B] ++ q.os) := by
    rw [← Array.append_assoc]; rfl
  have h2 : W.drawn + 1 + q.d = W.drawn + (q.d + 1) := by omega
  show ({ W with heap := (W.heap.push A).push B ++ q.os, drawn := W.drawn + 1 + q.d } : World) = { W with heap := W.heap ++ (#[A, B] ++ q.os), drawn := W.drawn + (q.d + 1) }
  rw [h1, h2]
def cmpK (x y : Int × Int) : Int := orI (cmpI x.1 y.1) (cmpI x.2 y.2)
set_option maxHeartbeats 2000000 in
theorem keyCmp_any (x y : Int × Int) (W : World) : Calls Try.prog 29 #[.agg #[.int .i64 x.1, .int .i64 x.2], .agg #[.int .i64 y.1, .int .i64 y.2]] W fun e w' => e = .returned (.int .i64 (cmpK x y)) ∧ ∃ q os', w' = grow (W.drewN q) os' := by
  obtain ⟨x1, x2⟩ := x
  obtain ⟨y1, y2⟩ := y
  have he0 : ∀ a b, cmpI x1 y1 = a → cmpI x2 y2 = b → cmpK (x1, x2) (y1, y2) = orI a b := by rintro _ _ rfl rfl; rfl
  have hc1 := Lib.hid (show ∀ w, Calls Try.prog 31 #[.int .i64 x1, .int .i64 y1] w (Dm.GivesM (.int .i64 (cmpI x1 y1)) w) from fun w => (compare_any x1 y1 w).mono fun e w' h => ⟨h.1, ⟨0, #[]⟩, h.2.trans (Dm.gm_self w)⟩)
  have hc2 := Lib.hid (show ∀ w, Calls Try.prog 31 #[.int .i64 x2, .int .i64 y2] w (Dm.GivesM (.int .i64 (cmpI x2 y2)) w) from fun w => (compare_any x2 y2 w).mono fun e w' h => ⟨h.1, ⟨0, #[]⟩, h.2.trans (Dm.gm_self w)⟩)
  generalize ha : cmpI x1 y1 = a at *
  generalize hb : cmpI x2 y2 = b at *
  have he := Lib.hid (he0 a b rfl rfl)
  clear he0 ha hb
  go_enter Try.func29, Try.ntmps29
  go_wp2
  rename_i hK0
  refine Dm.wp_region_qm 11 [10] (by kernel_rfl) (by kernel_rfl) (by simp [Dm.quietOps, List.range, List.range.loop]; rfl) (by simp [Dm.makerOps]; rfl) (by simp; rfl) ?_
  repeat (refine Dm.wpG_step (fun K hK => ?_); go_simp; first | (refine hK _ ?_; clear hK K) | (apply Exists.intro; refine ⟨fun _ => ?_, hK _ ?_⟩; (first | with_reducible exact hc1.out _ | with_reducible exact hc2.out _); clear hK K))
  refine Dm.wpG_nil ?_
  refine ⟨[(fun b => .slice (some ⟨b, 0, none⟩) 2 2, .cells #[.int .i64 a, .int .i64 b] 3)], ⟨rfl, fun p => ?_, trivial⟩, ?_⟩
  · simp [Dm.makes, go_sem] <;> rfl
  intro bs hl hnd hb q hh
  match bs, hl with
  | [b8], _ =>
    obtain ⟨hh8, _⟩ := hh
    generalize hA : Dm.putMk _ _ _ _ = AA
    simp [Dm.putMk, Act.put] at hA
    subst hA
    have c0 := row_cells hh8 0
    have c1 := row_cells hh8 1
    simp at c0 c1
    go_wp2_with (go_at_call 30; refine (or_any a b b8 0 2 _ c0 c1).mono ?_; rintro e w' ⟨rfl, rfl⟩)
    go_ret
    exact ⟨by rw [he.out]; rfl, q.d + 1, _, gm_boxes _ _ _ q⟩

end Go.Proofs.Ytioajmhfofmdoaa
