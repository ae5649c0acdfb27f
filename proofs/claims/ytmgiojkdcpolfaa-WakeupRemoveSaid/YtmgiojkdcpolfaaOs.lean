/- A step and a pick by value; a row of bytes. -/
import Derived.Test.YtmgiojkdcpolfaaOn
namespace Go.Proofs.Ytmgiojkdcpolfaa
open Go.RowKit Go.Sort Go.ChangeShapes Go.WideShapes Go.ChangeAt

set_option maxRecDepth 100000
variable {H : Type} {enc : TypeId × Value → H} {W : World} {base : Nat} {spare : Nat → Bool} {held : Bool}
theorem open_step {r : Reach} {v : Value} {d : DataW H} {p : List MemPlace} (hval : Value.okWide Try.prog W r base 30 v)
    (h : DataW.Trod enc Try.prog W 0 (fun _ => true) true 30 v d p) : ∃ q : PS, v = stv q ∧ RdU W q := by
  obtain ⟨cs, rfl, hs, hc⟩ := okWide_row (ts := [3, 3, 27, 28]) (n := 4) (by kernel_rfl) (by kernel_rfl) (by kernel_rfl) rfl hval
  obtain ⟨fuel, h⟩ := h
  obtain ⟨q, e, hq⟩ := step_of h
  refine ⟨q, congrArg Value.agg ?_, hq⟩
  have e' : cs.toList = stC q := e
  rw [← Array.toList_inj, e']
theorem open_pick {r : Reach} {v : Value} (hval : Value.okWide Try.prog W r base 26 v) : ∃ a b, v = pkv a b := by
  obtain ⟨cs, rfl, hs, hc⟩ := okWide_row (n := 2) (ts := [3, 3]) (by kernel_rfl) (by kernel_rfl) (by kernel_rfl) rfl hval
  obtain ⟨l⟩ := cs
  match l, hs with
  | [x, y], _ =>
    obtain ⟨a, rfl, _⟩ := cell_int (k := .i64) (by kernel_rfl) (hc 0 x 3 rfl rfl)
    obtain ⟨b, rfl, _⟩ := cell_int (k := .i64) (by kernel_rfl) (hc 1 y 3 rfl rfl)
    exact ⟨a, b, rfl⟩
abbrev byC (x : Nat) : List Value := [.int .u8 x]
theorem one_byte {n : Nat} {cs : List Value} {y : DataW H × List MemPlace} (h : DataW.trod enc Try.prog W base spare held n 5 cs = some y) : ∃ x : Nat, cs = byC x ∧ x < 256 := by
  obtain ⟨x, hx, _, wx⟩ := DataW.trod_int (by kernel_rfl : Try.prog.underlying 5 = some (.int .u8)) h
  simp [Lit.wf, IntKind.min, IntKind.max, IntKind.bits, IntKind.signed] at wx
  exact ⟨x.toNat, by rw [hx]; simp only [byC]; congr 2; omega, by omega⟩
theorem open_bytes {r : Reach} {v : Value} {d : DataW H} {p : List MemPlace} (hval : Value.okWide Try.prog W r base 43 v)
    (h : DataW.Trod enc Try.prog W 0 (fun _ => true) true 43 v d p) : ∃ (ad : Option Addr) (bs : List Nat) (cap : Nat), v = .slice ad bs.length cap ∧ Row 1 byC W ad bs ∧ ∀ x ∈ bs, x < 256 := by
  obtain ⟨fuel, h⟩ := h
  obtain ⟨ad, bs, cap, e, hr, _, _, hq⟩ := sl_of (e := 5) (n := 1) (f := byC) (Q := fun x => x < 256) (by kernel_rfl) (by kernel_rfl) (fun _ => rfl) (by omega) (fun m cs y h => one_byte h) h
  exact ⟨ad, bs, cap, slice_of_cells (e := 5) (by kernel_rfl) hval e, hr, hq⟩
end Go.Proofs.Ytmgiojkdcpolfaa
