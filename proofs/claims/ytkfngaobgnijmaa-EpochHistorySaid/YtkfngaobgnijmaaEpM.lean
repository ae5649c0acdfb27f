/- Epochs and sets of reads: what the functions compute, in plain Lean, and the laws of it. -/
import Derived.Test.YtkfngaobgnijmaaClk
namespace Go.Proofs.Ytkfngaobgnijmaa
open Go.RowKit Go.Sort

theorem run_eql_rdv (r : RD) (s : Bool) (g n : Int) (c : Clk) (w : World) : (binOp .eql 31 (rdv r) (.agg (rd s g n c))).run Try.prog w = .ok (.bool (rdE r ⟨s, g, n, c⟩)) w := run_eql_rd _ _ _ _ _ _ _ _ w
theorem run_eql_zr (r : RD) (w : World) : (binOp .eql 31 (rdv r) (.agg #[.bool false, .int .i64 0, .int .i64 0, .int .i64 0, .int .i64 0, .int .i64 0, .int .i64 0, .int .i64 0, .int .i64 0, .int .i64 0, .int .i64 0])).run Try.prog w = .ok (.bool (rdE r ⟨false, 0, 0, zc⟩)) w := by
  have h := run_eql_rd r.s false r.g 0 r.n 0 r.c zc w
  simp only [rd, zc_at] at h
  exact h
def plc (g : Int) : Bool := decide (0 ≤ g) && decide (g < 8)
def cnt (c : Clk) : Nat → Nat
  | 0 => 0
  | k + 1 => cnt c k + if 0 < c k then 1 else 0
def lg (c : Clk) : Nat → Int
  | 0 => 0
  | k + 1 => if 0 < c k then k else lg c k
def ln (c : Clk) : Nat → Int
  | 0 => 0
  | k + 1 => if 0 < c k then c k else ln c k
theorem cnt_le (c : Clk) (k : Nat) : cnt c k ≤ k := by
  induction k with
  | zero => simp [cnt]
  | succ k ih => simp only [cnt]; split <;> omega
theorem cnt_hi {c : Clk} {k : Nat} (h : 0 < c k) : cnt c (k + 1) = cnt c k + 1 := by simp [cnt, h]
theorem cnt_lo {c : Clk} {k : Nat} (h : ¬ 0 < c k) : cnt c (k + 1) = cnt c k := by simp [cnt, h]
def compactM (c : Clk) : RD := if 1 < cnt c 8 then ⟨true, 0, 0, c⟩ else ⟨false, lg c 8, ln c 8, zc⟩
def expandM (r : RD) : Clk := if plc r.g = true ∧ 0 < r.n then upd r.c r.g.toNat r.n else r.c
theorem rdv_compact_hi {c : Clk} (h : 1 < cnt c 8) : Value.agg (rd true 0 0 c) = rdv (compactM c) := by simp [rdv, compactM, h]
theorem rdv_compact_lo {c : Clk} (h : ¬ 1 < cnt c 8) : Value.agg (rd false (lg c 8) (ln c 8) zc) = rdv (compactM c) := by simp [rdv, compactM, h]


def nnB (c : Clk) : Bool := (List.range 8).all fun j => decide (0 ≤ c j)
def validM (r : RD) : Bool := nnB r.c && rdE (compactM (expandM r)) r
def setM (r : RD) : Clk := if validM r = true then expandM r else zc
def ofM (c : Clk) (g : Int) : Int × Int := if plc g = true ∧ 0 < c g.toNat then (g, c g.toNat) else (0, 0)
def leqM (g n : Int) (c : Clk) : Bool := plc g && decide (n ≤ c g.toNat)
def imax (a b : Int) : Int := if a < b then b else a
def soleM (r : RD) (c : Clk) : Bool := !r.s && ((r.g == 0 && r.n == 0) || leqM r.g r.n c)
def addM (r : RD) (g n : Int) (c : Clk) : RD :=
  if validM r = true ∧ plc g = true ∧ 0 < n then
    (if soleM r c = true then compactM (upd zc g.toNat n) else compactM (upd (expandM r) g.toNat (imax (expandM r g.toNat) n)))
  else r
def leftM (x c : Clk) : Nat → Clk
  | 0 => zc
  | k + 1 => if 0 < x k ∧ c k < x k then upd (leftM x c k) k (x k) else leftM x c k
abbrev zr : RD := ⟨false, 0, 0, zc⟩
def dropM (r : RD) (c : Clk) : RD := if validM r = true then compactM (leftM (expandM r) c 8) else zr
def coveredM (r : RD) (c : Clk) : Bool := validM r && rdE (dropM r c) zr

/- the reference -/
def posM (c : Clk) : Int := if nnB c = true then cnt c 8 else -1
def validR (r : RD) : Bool := if r.s then (r.g == 0 && r.n == 0) && decide (2 ≤ posM r.c) else clE r.c zc && ((r.g == 0 && r.n == 0) || (plc r.g && decide (0 < r.n)))
def setR (r : RD) : Clk := if validR r = true then (if r.s then r.c else upd zc r.g.toNat r.n) else zc
def firstM (c : Clk) : Nat → Nat → RD
  | _, 0 => zr
  | k, m + 1 => if 0 < c k then ⟨false, k, c k, zc⟩ else firstM c (k + 1) m
def formR (c : Clk) : RD := if 2 ≤ posM c then ⟨true, 0, 0, c⟩ else firstM c 0 8
def addR (r : RD) (g n : Int) (c : Clk) : RD :=
  if validR r = true ∧ plc g = true ∧ 0 < n then
    (if soleM r c = true then ⟨false, g, n, zc⟩ else formR (if setR r g.toNat < n then upd (setR r) g.toNat n else setR r))
  else r
def coveredR (r : RD) (c : Clk) : Bool := validR r && (List.range 8).all fun g => !(decide (0 < setR r g) && decide (c g < setR r g))
def cutR (x c : Clk) : Nat → Clk
  | 0 => x
  | k + 1 => if x k ≤ c k then upd (cutR x c k) k 0 else cutR x c k
def dropR (r : RD) (c : Clk) : RD := formR (cutR (setR r) c 8)
def tickM (c : Clk) (g : Int) : Clk := if plc g = true ∧ c g.toNat ≠ 9223372036854775807 then upd c g.toNat (c g.toNat + 1) else c
def joinM (a b : Clk) : Nat → Clk
  | 0 => a
  | k + 1 => if a k < b k then upd (joinM a b k) k (b k) else joinM a b k

theorem plc_iff (g : Int) : plc g = true ↔ 0 ≤ g ∧ g < 8 := by simp [plc]
theorem nnB_iff (c : Clk) : nnB c = true ↔ ∀ j, j < 8 → 0 ≤ c j := by simp [nnB]

end Go.Proofs.Ytkfngaobgnijmaa
