/- Is a page zero? -/
import Derived.Test.YtioajmhfofmdoaaLk
namespace Go.Proofs.Ytioajmhfofmdoaa
open Go.RowKit Go.Sort Go.Maps

theorem run_equalIn_wd (k : Nat) (a b : Wd) (w : World) : (Op.equalIn (k + 4) 37 (wv a) (wv b)).run Try.prog w = .ok (wdE a b) w := by
  obtain ⟨g, n, s, rg, rn, c⟩ := a
  obtain ⟨g', n', s', rg', rn', c'⟩ := b
  have hq := run_equalIn_clk k c c' w
  simp only [cl] at hq
  simp [go_sem, hq, wdE]
  by_cases h1 : g = g' <;> by_cases h2 : n = n' <;> by_cases h3 : s = s' <;> by_cases h4 : rg = rg' <;> by_cases h5 : rn = rn' <;> cases hc : clE c c' <;> simp [h1, h2, h3, h4, h5]

/-- Sixteen words. -/
def pw (m : Nat → Wd) : Array Value := Array.ofFn (n := 208) fun i => (wc (m (i.val / 13)))[i.val % 13]?.getD undef
theorem pw_at (m : Nat → Wd) {i j : Nat} (hi : i < 16) (hj : j < 13) : (pw m)[i * 13 + j]? = (wc (m i))[j]? := by
  unfold pw
  rw [Array.getElem?_ofFn, dif_pos (by omega)]
  simp only
  rw [show (i * 13 + j) / 13 = i by omega, show (i * 13 + j) % 13 = j by omega]
  have : j < (wc (m i)).size := by simpa using hj
  rw [Array.getElem?_eq_getElem this]
  rfl
theorem pw_part (m : Nat → Wd) {i : Nat} (hi : i < 16) (w : World) : (part 37 (pw m) (i * 13)).run Try.prog w = .ok (wv (m i)) w := by
  have e : (pw m).extract (i * 13) (i * 13 + 13) = wc (m i) := by
    apply Array.ext_getElem?
    intro j
    rw [Array.getElem?_extract]
    by_cases hj : j < 13
    · rw [if_pos (by simp [pw]; omega)]
      exact pw_at m hi hj
    · rw [if_neg (by omega), Array.getElem?_eq_none (by simp; omega)]
  have hi : (Try.prog.info? 37).map (·.size) = some 13 := by kernel_rfl
  have ha : ∀ w, (isAgg 37).run Try.prog w = .ok true w := fun w => by kernel_rfl
  cases h : Try.prog.info? 37 with
  | none => rw [h] at hi; cases hi
  | some inf =>
    rw [h] at hi
    simp at hi
    unfold part
    simp [ha, sizeOf, typeInfo, h, hi, e]
theorem run_items_pg (k : Nat) (m m' : Nat → Wd) (w : World) : ∀ is : List Nat, (∀ i ∈ is, i < 16) → (Op.eqItems (k + 4) 37 13 (pw m) (pw m') is).run Try.prog w = .ok (is.all fun i => wdE (m i) (m' i)) w
  | [], _ => by simp [Op.eqItems]
  | i :: is, h => by
    have h1 := pw_part m (h i (List.mem_cons.2 (.inl rfl))) w
    have h2 := pw_part m' (h i (List.mem_cons.2 (.inl rfl))) w
    have h3 := run_equalIn_wd k (m i) (m' i) w
    have ih := run_items_pg k m m' w is (fun j hj => h j (List.mem_cons.2 (.inr hj)))
    simp only [Op.eqItems, Sem.run_bind, h1, h2, h3, Result.andThen_ok, List.all_cons]
    cases wdE (m i) (m' i)
    · simp
    · simp [ih]
theorem run_equalIn_pg (k : Nat) (m m' : Nat → Wd) (w : World) : (Op.equalIn (k + 5) 68 (.agg (pw m)) (.agg (pw m'))).run Try.prog w = .ok ((List.range 16).all fun i => wdE (m i) (m' i)) w := by
  have hc : Try.prog.cellsOf 37 = 13 := by kernel_rfl
  rw [run_equalIn_array (i := (Try.prog.info? 37).getD default) w (k + 4) _ _ (by kernel_rfl : Try.prog.underlying 68 = some (.array 16 37)) (by kernel_rfl), hc]
  exact run_items_pg k m m' w _ (fun i hi => List.mem_range.1 hi)
theorem run_eql_pg (m m' : Nat → Wd) (w : World) : (binOp .eql 68 (.agg (pw m)) (.agg (pw m'))).run Try.prog w = .ok (.bool ((List.range 16).all fun i => wdE (m i) (m' i))) w := by
  have hc : Try.prog.cellsOf 37 = 13 := by kernel_rfl
  have he : ∀ k, (Op.equalIn (k + 5) 68 (.agg (pw m)) (.agg (pw m'))).run Try.prog w = .ok ((List.range 16).all fun i => wdE (m i) (m' i)) w := fun k => by
    rw [run_equalIn_array (i := (Try.prog.info? 37).getD default) w (k + 4) _ _ (by kernel_rfl : Try.prog.underlying 68 = some (.array 16 37)) (by kernel_rfl), hc]
    exact run_items_pg k m m' w _ (fun i hi => List.mem_range.1 hi)
  simp [go_sem, he 9995]

end Go.Proofs.Ytioajmhfofmdoaa
