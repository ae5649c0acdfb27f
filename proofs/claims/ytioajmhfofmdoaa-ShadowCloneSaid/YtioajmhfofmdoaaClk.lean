/- Clocks of eight components as rows of cells: what the walk's operations do to them. -/
import Derived.Test.YtioajmhfofmdoaaLib
import Derived.ChangeKeysEq
namespace Go.Proofs.Ytioajmhfofmdoaa
open Go.RowKit

abbrev Clk := Nat → Int
def cl (c : Clk) : Array Value := #[.int .i64 (c 0), .int .i64 (c 1), .int .i64 (c 2), .int .i64 (c 3), .int .i64 (c 4), .int .i64 (c 5), .int .i64 (c 6), .int .i64 (c 7)]
def upd (c : Clk) (i : Nat) (x : Int) : Clk := fun j => if j = i then x else c j
def zc : Clk := fun _ => 0
@[go_sem, simp] theorem zc_at (i : Nat) : zc i = 0 := rfl

theorem lt8 {i : Nat} (h : i < 8) : i = 0 ∨ i = 1 ∨ i = 2 ∨ i = 3 ∨ i = 4 ∨ i = 5 ∨ i = 6 ∨ i = 7 := by omega
theorem cl_size (c : Clk) : (cl c).size = 8 := rfl
theorem cl_get (c : Clk) (i : Nat) (h : i < 8) : (cl c)[i]? = some (.int .i64 (c i)) := by
  rcases lt8 h with rfl | rfl | rfl | rfl | rfl | rfl | rfl | rfl <;> rfl
theorem cl_set (c : Clk) (i : Nat) (x : Int) : (cl c).setIfInBounds i (.int .i64 x) = cl (upd c i x) := by
  by_cases h : i < 8
  · rcases lt8 h with rfl | rfl | rfl | rfl | rfl | rfl | rfl | rfl <;> simp [cl, upd]
  · rw [Array.setIfInBounds_eq_of_size_le (by rw [cl_size]; omega)]
    simp only [cl, upd]
    repeat rw [if_neg (by omega)]
theorem cl_zero : #[Value.int .i64 0, .int .i64 0, .int .i64 0, .int .i64 0, .int .i64 0, .int .i64 0, .int .i64 0, .int .i64 0] = cl zc := rfl

attribute [go_sem] cl_size cl_set
@[go_sem] theorem cl_toList (c : Clk) : (cl c).toList = [.int .i64 (c 0), .int .i64 (c 1), .int .i64 (c 2), .int .i64 (c 3), .int .i64 (c 4), .int .i64 (c 5), .int .i64 (c 6), .int .i64 (c 7)] := rfl
@[go_sem] theorem cl_get0 (c : Clk) : (cl c)[0]? = some (.int .i64 (c 0)) := rfl
@[go_sem] theorem cl_get1 (c : Clk) : (cl c)[1]? = some (.int .i64 (c 1)) := rfl
@[go_sem] theorem cl_get2 (c : Clk) : (cl c)[2]? = some (.int .i64 (c 2)) := rfl
@[go_sem] theorem cl_get3 (c : Clk) : (cl c)[3]? = some (.int .i64 (c 3)) := rfl
@[go_sem] theorem cl_get4 (c : Clk) : (cl c)[4]? = some (.int .i64 (c 4)) := rfl
@[go_sem] theorem cl_get5 (c : Clk) : (cl c)[5]? = some (.int .i64 (c 5)) := rfl
@[go_sem] theorem cl_get6 (c : Clk) : (cl c)[6]? = some (.int .i64 (c 6)) := rfl
@[go_sem] theorem cl_get7 (c : Clk) : (cl c)[7]? = some (.int .i64 (c 7)) := rfl
def vis (s l : Clk) : Array Value := #[Value.int .i64 (s 0), .int .i64 (s 1), .int .i64 (s 2), .int .i64 (s 3), .int .i64 (s 4), .int .i64 (s 5), .int .i64 (s 6), .int .i64 (s 7), .int .i64 (l 0), .int .i64 (l 1), .int .i64 (l 2), .int .i64 (l 3), .int .i64 (l 4), .int .i64 (l 5), .int .i64 (l 6), .int .i64 (l 7)]
theorem vis_lo (s l : Clk) (i : Nat) (h : i < 8) : (vis s l)[i]? = some (.int .i64 (s i)) := by
  rcases lt8 h with rfl | rfl | rfl | rfl | rfl | rfl | rfl | rfl <;> rfl
theorem vis_hi (s l : Clk) (i : Nat) (h : i < 8) : (vis s l)[8 + i]? = some (.int .i64 (l i)) := by
  rcases lt8 h with rfl | rfl | rfl | rfl | rfl | rfl | rfl | rfl <;> rfl
theorem vis_set (s l : Clk) (i : Nat) (x : Int) (h : i < 8) : (vis s l).setIfInBounds (8 + i) (.int .i64 x) = vis s (upd l i x) := by
  rcases lt8 h with rfl | rfl | rfl | rfl | rfl | rfl | rfl | rfl <;> simp [vis, upd]
@[go_sem] theorem vis_size (s l : Clk) : (vis s l).size = 16 := rfl
@[go_sem] theorem vis_get0 (s l : Clk) : (vis s l)[0]? = some (.int .i64 (s 0)) := rfl
@[go_sem] theorem vis_get1 (s l : Clk) : (vis s l)[1]? = some (.int .i64 (s 1)) := rfl
@[go_sem] theorem vis_get2 (s l : Clk) : (vis s l)[2]? = some (.int .i64 (s 2)) := rfl
@[go_sem] theorem vis_get3 (s l : Clk) : (vis s l)[3]? = some (.int .i64 (s 3)) := rfl
@[go_sem] theorem vis_get4 (s l : Clk) : (vis s l)[4]? = some (.int .i64 (s 4)) := rfl
@[go_sem] theorem vis_get5 (s l : Clk) : (vis s l)[5]? = some (.int .i64 (s 5)) := rfl
@[go_sem] theorem vis_get6 (s l : Clk) : (vis s l)[6]? = some (.int .i64 (s 6)) := rfl
@[go_sem] theorem vis_get7 (s l : Clk) : (vis s l)[7]? = some (.int .i64 (s 7)) := rfl
@[go_sem] theorem vis_get8 (s l : Clk) : (vis s l)[8]? = some (.int .i64 (l 0)) := rfl
@[go_sem] theorem vis_get9 (s l : Clk) : (vis s l)[9]? = some (.int .i64 (l 1)) := rfl
@[go_sem] theorem vis_get10 (s l : Clk) : (vis s l)[10]? = some (.int .i64 (l 2)) := rfl
@[go_sem] theorem vis_get11 (s l : Clk) : (vis s l)[11]? = some (.int .i64 (l 3)) := rfl
@[go_sem] theorem vis_get12 (s l : Clk) : (vis s l)[12]? = some (.int .i64 (l 4)) := rfl
@[go_sem] theorem vis_get13 (s l : Clk) : (vis s l)[13]? = some (.int .i64 (l 5)) := rfl
@[go_sem] theorem vis_get14 (s l : Clk) : (vis s l)[14]? = some (.int .i64 (l 6)) := rfl
@[go_sem] theorem vis_get15 (s l : Clk) : (vis s l)[15]? = some (.int .i64 (l 7)) := rfl
/-- A set of reads as its eleven cells. -/
abbrev rd (s : Bool) (g n : Int) (c : Clk) : Array Value := #[.bool s, .int .i64 g, .int .i64 n, .int .i64 (c 0), .int .i64 (c 1), .int .i64 (c 2), .int .i64 (c 3), .int .i64 (c 4), .int .i64 (c 5), .int .i64 (c 6), .int .i64 (c 7)]


def clE (c d : Clk) : Bool := c 0 == d 0 && (c 1 == d 1 && (c 2 == d 2 && (c 3 == d 3 && (c 4 == d 4 && (c 5 == d 5 && (c 6 == d 6 && c 7 == d 7))))))
theorem ok_ite (w : World) (p : Prop) [Decidable p] (b : Bool) : (if p then (Result.ok b w : Result Bool) else Result.ok false w) = Result.ok (decide p && b) w := by
  by_cases h : p <;> simp [h]
theorem run_equalIn_clk (k : Nat) (c d : Clk) (w : World) :
    (Op.equalIn (k + 2) 33 (.agg (cl c)) (.agg (cl d))).run Try.prog w = .ok (clE c d) w := by
  rw [run_equalIn_array (i := (Try.prog.info? 3).getD default) w (k+1) _ _ (by kernel_rfl : Try.prog.underlying 33 = some (.array 8 3)) (by kernel_rfl)]
  have hc : Try.prog.cellsOf 3 = 1 := by kernel_rfl
  rw [hc]
  simp only [show List.range 8 = [0,1,2,3,4,5,6,7] from rfl, Op.eqItems, cl]
  simp [part, isAgg, go_sem]
  have e := ok_ite w
  simp only [e, clE, Bool.and_true]
  rfl
theorem run_eql_clk (c d : Clk) (w : World) : (binOp .eql 33 (.agg (cl c)) (.agg (cl d))).run Try.prog w = .ok (.bool (clE c d)) w := by
  simp [go_sem, run_equalIn_clk 9998]
structure RD where
  s : Bool
  g : Int
  n : Int
  c : Clk
abbrev rdv (r : RD) : Value := .agg (rd r.s r.g r.n r.c)
def rdE (a b : RD) : Bool := a.s == b.s && (a.g == b.g && (a.n == b.n && clE a.c b.c))
theorem run_eql_rd (s t : Bool) (g h n m : Int) (c d : Clk) (w : World) :
    (binOp .eql 35 (.agg (rd s g n c)) (.agg (rd t h m d))).run Try.prog w = .ok (.bool (rdE ⟨s, g, n, c⟩ ⟨t, h, m, d⟩)) w := by
  have hq := run_equalIn_clk 9997 c d w
  simp only [cl] at hq
  simp [go_sem, hq, rdE]
  by_cases h1 : s = t <;> by_cases h2 : g = h <;> by_cases h3 : n = m <;> cases hc : clE c d <;> simp [h1, h2, h3]
theorem clE_iff (c d : Clk) : clE c d = true ↔ ∀ i, i < 8 → c i = d i := by
  simp only [clE, Bool.and_eq_true, beq_iff_eq]
  constructor
  · rintro ⟨h0, h1, h2, h3, h4, h5, h6, h7⟩ i hi
    rcases lt8 hi with rfl | rfl | rfl | rfl | rfl | rfl | rfl | rfl <;> assumption
  · intro h
    exact ⟨h 0 (by omega), h 1 (by omega), h 2 (by omega), h 3 (by omega), h 4 (by omega), h 5 (by omega), h 6 (by omega), h 7 (by omega)⟩
theorem cl_congr {c d : Clk} (h : ∀ i, i < 8 → c i = d i) : cl c = cl d := by
  simp only [cl, h 0 (by omega), h 1 (by omega), h 2 (by omega), h 3 (by omega), h 4 (by omega), h 5 (by omega), h 6 (by omega), h 7 (by omega)]

end Go.Proofs.Ytioajmhfofmdoaa
