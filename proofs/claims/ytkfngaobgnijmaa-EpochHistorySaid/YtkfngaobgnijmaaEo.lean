/- The arguments of the laws of layer 33, read; the laws' statements. -/
import Derived.Test.YtkfngaobgnijmaaEv
import Derived.Test.YtkfngaobgnijmaaLaw
namespace Go.Proofs.Ytkfngaobgnijmaa
open Go.RowKit Go.Sort Go.ChangeShapes Go.WideShapes Go.ChangeAt

theorem ints_of {P : Program} {w : World} {r : Reach} {base : Nat} {u : TypeId} {cs : Array Value} {n o : Nat} (hs : o + n ≤ cs.size) (hu : P.underlying u = some (.int .i64)) (h : ∀ (i : Nat) x, o ≤ i → i < o + n → cs[i]? = some x → Cell.okWide P w r base u x) :
    ∃ c : Clk, (∀ i, i < n → cs[o + i]? = some (.int .i64 (c i))) ∧ ∀ i, i < n → -9223372036854775808 ≤ c i ∧ c i ≤ 9223372036854775807 := by
  have key : ∀ i, i < n → ∃ m, cs[o + i]? = some (.int .i64 m) ∧ -9223372036854775808 ≤ m ∧ m ≤ 9223372036854775807 := by
    intro i hi
    have hx : cs[o + i]? = some cs[o + i] := Array.getElem?_eq_getElem (by omega)
    obtain ⟨m, hm, hb⟩ := cell_int hu (h (o + i) _ (by omega) (by omega) hx)
    exact ⟨m, by rw [hx, hm], has_i64 hb⟩
  refine ⟨fun i => if hi : i < n then Classical.choose (key i hi) else 0, fun i hi => ?_, fun i hi => ?_⟩
  · simp only [hi, dif_pos]; exact (Classical.choose_spec (key i hi)).1
  · simp only [hi, dif_pos]; exact (Classical.choose_spec (key i hi)).2
theorem open_clock {w : World} {r : Reach} {base : Nat} {v : Value} (h : Value.okWide Try.prog w r base 23 v) : ∃ c : Clk, v = .agg (cl c) ∧ ∀ i, i < 8 → -9223372036854775808 ≤ c i ∧ c i ≤ 9223372036854775807 := by
  obtain ⟨cs, rfl, hs, hc⟩ := okWide_row (ts := [3, 3, 3, 3, 3, 3, 3, 3]) (n := 8) (by kernel_rfl) (by kernel_rfl) (by kernel_rfl) rfl h
  obtain ⟨c, h1, h2⟩ := ints_of (P := Try.prog) (w := w) (r := r) (base := base) (u := 3) (cs := cs) (n := 8) (o := 0) (by omega) (by kernel_rfl) (fun i x _ hi hx => hc i x _ hx (by
    have hi' : i < 8 := by omega
    rcases lt8 hi' with rfl | rfl | rfl | rfl | rfl | rfl | rfl | rfl <;> rfl))
  refine ⟨c, congrArg Value.agg (Array.ext_getElem? fun i => ?_), h2⟩
  by_cases hi : i < 8
  · have := h1 i hi
    rw [Nat.zero_add] at this
    rw [this, cl_get c i hi]
  · rw [Array.getElem?_eq_none (by omega), Array.getElem?_eq_none (by rw [cl_size]; omega)]
theorem open_epoch {w : World} {r : Reach} {base : Nat} {v : Value} (h : Value.okWide Try.prog w r base 25 v) : ∃ g n : Int, v = .agg #[.int .i64 g, .int .i64 n] := by
  obtain ⟨cs, rfl, hs, hc⟩ := okWide_row (ts := [3, 3]) (n := 2) (by kernel_rfl) (by kernel_rfl) (by kernel_rfl) rfl h
  obtain ⟨c, h1, h2⟩ := ints_of (P := Try.prog) (w := w) (r := r) (base := base) (u := 3) (cs := cs) (n := 2) (o := 0) (by omega) (by kernel_rfl) (fun i x _ hi hx => hc i x _ hx (by
    have hi' : i = 0 ∨ i = 1 := by omega
    rcases hi' with rfl | rfl <;> rfl))
  refine ⟨c 0, c 1, congrArg Value.agg (Array.ext_getElem? fun i => ?_)⟩
  by_cases hi : i < 2
  · have := h1 i hi
    rw [Nat.zero_add] at this
    have hi' : i = 0 ∨ i = 1 := by omega
    rcases hi' with rfl | rfl <;> rw [this] <;> rfl
  · rw [Array.getElem?_eq_none (by omega), Array.getElem?_eq_none (by simp; omega)]
theorem open_reads {w : World} {r : Reach} {base : Nat} {v : Value} (h : Value.okWide Try.prog w r base 31 v) : ∃ (s : Bool) (g n : Int) (c : Clk), v = .agg (rd s g n c) := by
  obtain ⟨cs, rfl, hs, hc⟩ := okWide_row (ts := [4, 3, 3, 3, 3, 3, 3, 3, 3, 3, 3]) (n := 11) (by kernel_rfl) (by kernel_rfl) (by kernel_rfl) rfl h
  obtain ⟨c, h1, h2⟩ := ints_of (P := Try.prog) (w := w) (r := r) (base := base) (u := 3) (cs := cs) (n := 10) (o := 1) (by omega) (by kernel_rfl) (fun i x h1 hi hx => hc i x _ hx (by
    have hi' : i = 1 ∨ i = 2 ∨ i = 3 ∨ i = 4 ∨ i = 5 ∨ i = 6 ∨ i = 7 ∨ i = 8 ∨ i = 9 ∨ i = 10 := by omega
    rcases hi' with rfl | rfl | rfl | rfl | rfl | rfl | rfl | rfl | rfl | rfl <;> rfl))
  have hx : cs[0]? = some cs[0] := Array.getElem?_eq_getElem (by omega)
  obtain ⟨s, hs0⟩ := cell_bool (by kernel_rfl : Try.prog.underlying 4 = some .bool) (hc 0 _ 4 hx rfl)
  refine ⟨s, c 0, c 1, fun i => c (i + 2), congrArg Value.agg (Array.ext_getElem? fun i => ?_)⟩
  by_cases hi : i < 11
  · by_cases h0 : i = 0
    · subst h0; rw [hx, hs0]; rfl
    · have := h1 (i - 1) (by omega)
      rw [show 1 + (i - 1) = i by omega] at this
      rw [this]
      have hi' : i = 1 ∨ i = 2 ∨ i = 3 ∨ i = 4 ∨ i = 5 ∨ i = 6 ∨ i = 7 ∨ i = 8 ∨ i = 9 ∨ i = 10 := by omega
      rcases hi' with rfl | rfl | rfl | rfl | rfl | rfl | rfl | rfl | rfl | rfl <;> rfl
  · rw [Array.getElem?_eq_none (by omega), Array.getElem?_eq_none (by simp; omega)]
theorem open_num {w : World} {r : Reach} {base : Nat} {v : Value} (h : Value.okWide Try.prog w r base 3 v) : ∃ n : Int, v = .int .i64 n ∧ -9223372036854775808 ≤ n ∧ n ≤ 9223372036854775807 := by
  obtain ⟨n, hn, hb⟩ := cell_int (by kernel_rfl : Try.prog.underlying 3 = some (.int .i64)) (show Cell.okWide Try.prog w r base 3 v from h)
  exact ⟨n, hn, has_i64 hb⟩

theorem Try.own : ownKnob Try.prog.godebug = none := by kernel_rfl
theorem Try.laidOut : laidOutB Try.prog = true := by kernel_rfl

end Go.Proofs.Ytkfngaobgnijmaa
