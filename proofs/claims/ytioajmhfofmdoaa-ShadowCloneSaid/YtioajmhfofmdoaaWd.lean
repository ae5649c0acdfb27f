/- Shadow words and locations: values, comparisons. -/
import Derived.Test.YtioajmhfofmdoaaClk
namespace Go.Proofs.Ytioajmhfofmdoaa
open Go.RowKit Go.Sort

/-- A shadow word. -/
structure Wd where
  g : Int
  n : Int
  s : Bool
  rg : Int
  rn : Int
  c : Nat → Int
def wz : Wd := ⟨0, 0, false, 0, 0, fun _ => 0⟩
abbrev wc (x : Wd) : Array Value := #[.int .i64 x.g, .int .i64 x.n, .bool x.s, .int .i64 x.rg, .int .i64 x.rn, .int .i64 (x.c 0), .int .i64 (x.c 1), .int .i64 (x.c 2), .int .i64 (x.c 3), .int .i64 (x.c 4), .int .i64 (x.c 5), .int .i64 (x.c 6), .int .i64 (x.c 7)]
abbrev wv (x : Wd) : Value := .agg (wc x)
abbrev locv (o f : Int) : Value := .agg #[.int .i64 o, .int .i64 f]
def wdE (a b : Wd) : Bool := a.g == b.g && (a.n == b.n && (a.s == b.s && (a.rg == b.rg && (a.rn == b.rn && clE a.c b.c))))
theorem run_eql_wd (a b : Wd) (w : World) : (binOp .eql 37 (wv a) (wv b)).run Try.prog w = .ok (.bool (wdE a b)) w := by
  obtain ⟨g, n, s, rg, rn, c⟩ := a
  obtain ⟨g', n', s', rg', rn', c'⟩ := b
  have hq := run_equalIn_clk 9996 c c' w
  simp only [cl] at hq
  simp [go_sem, hq, wdE]
  by_cases h1 : g = g' <;> by_cases h2 : n = n' <;> by_cases h3 : s = s' <;> by_cases h4 : rg = rg' <;> by_cases h5 : rn = rn' <;> cases hc : clE c c' <;> simp [h1, h2, h3, h4, h5]
theorem run_eql_loc (o f o' f' : Int) (w : World) : (binOp .eql 24 (locv o f) (locv o' f')).run Try.prog w = .ok (.bool (o == o' && f == f')) w := by
  simp [go_sem]
  by_cases h1 : o = o' <;> by_cases h2 : f = f' <;> simp [h1, h2]

theorem clE_refl (c : Nat → Int) : clE c c = true := by simp [clE]
theorem wdE_iff (a b : Wd) : wdE a b = true ↔ wv a = wv b := by
  simp only [wdE, Bool.and_eq_true, beq_iff_eq, clE]
  constructor
  · rintro ⟨h1, h2, h3, h4, h5, h6, h7, h8, h9, h10, h11, h12, h13⟩
    simp only [wv, wc, h1, h2, h3, h4, h5, h6, h7, h8, h9, h10, h11, h12, h13]
  · intro h
    simp only [wv, wc, Value.agg.injEq, Array.mk.injEq, List.cons.injEq, Value.int.injEq, Value.bool.injEq, true_and, and_true] at h
    exact h

end Go.Proofs.Ytioajmhfofmdoaa
