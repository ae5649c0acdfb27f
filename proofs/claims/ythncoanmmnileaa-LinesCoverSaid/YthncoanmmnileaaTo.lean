/- The arguments of the laws of layer 1, read. -/
import Derived.Test.YthncoanmmnileaaTn
import Derived.Test.YthncoanmmnileaaLaw
import Derived.ChangeSlices
namespace Go.Proofs.Ythncoanmmnileaa
open Go.RowKit Go.Sort Go.ChangeShapes Go.WideShapes Go.ChangeAt

theorem open_i64 {w : World} {r : Reach} {base : Nat} {v : Value} (h : Value.okWide Try.prog w r base 3 v) : ∃ n : Int, v = .int .i64 n ∧ -9223372036854775808 ≤ n ∧ n ≤ 9223372036854775807 := by
  have hu : Try.prog.underlying 3 = some (.int .i64) := by kernel_rfl
  unfold Value.okWide at h
  rw [hu] at h
  obtain ⟨n, e, hb⟩ := cell_int hu h
  exact ⟨n, e, has_i64 hb⟩
theorem open_tab {H : Type} {enc : TypeId × Value → H} {r : Reach} {base : Nat} {W : World} {v : Value} {d : DataW H} {p : List MemPlace} (hval : Value.okWide Try.prog W r base 25 v)
    (h : DataW.Trod enc Try.prog W 0 (fun _ => true) true 25 v d p) : ∃ ad n cap f sz, v = tab ad n cap sz ∧ RowAt W ad n f ∧ n ≤ cap ∧ -9223372036854775808 ≤ sz ∧ sz ≤ 9223372036854775807 := by
  obtain ⟨cs, rfl, hs, hc⟩ := okWide_row (ts := [23, 3]) (n := 2) (by kernel_rfl) (by kernel_rfl) (by kernel_rfl) rfl hval
  obtain ⟨fuel, h⟩ := h
  obtain ⟨xs, m, _, _, _, hx, hf⟩ := DataW.trod_struct (P := Try.prog) (t := 25) rfl h
  have hx' : xs.length = 2 := hx
  have f0 := hf 0 _ rfl
  have e1 : Try.prog.cellsOf 23 = 1 := by kernel_rfl
  match cs, hs with
  | ⟨[c0, c1]⟩, _ =>
    obtain ⟨sz, e2, hb⟩ := cell_int (by kernel_rfl : Try.prog.underlying 3 = some (.int .i64)) (hc 1 _ _ rfl rfl)
    subst e2
    rw [List.getElem?_eq_getElem (by omega)] at f0
    simp [Value.cells, e1] at f0
    rcases open_ints (P := Try.prog) (e := 3) (by kernel_rfl) (by kernel_rfl) (by kernel_rfl) f0 with ⟨h0, _⟩ | ⟨a, len, cap, zs, h0, _, hl, _, hz, _, hcell, _⟩
    · simp at h0
      subst h0
      exact ⟨none, 0, 0, fun _ => 0, sz, rfl, fun h => by omega, Nat.le_refl _, has_i64 hb⟩
    · simp at h0
      subst h0
      simp at hz
      refine ⟨some a, len, cap, fun i => zs.getD i 0, sz, rfl, fun h1 => ?_, hl, has_i64 hb⟩
      obtain ⟨b, off, spot⟩ := a
      have hspot : spot = none := by
        have := World.cell?_spot (hcell 0 (by omega))
        simpa [Addr.add] using this
      subst hspot
      have hc0 := hcell 0 (by omega)
      refine ⟨b, off, rfl, ?_, fun i hi => ?_⟩
      · have := Old.of_cell hc0
        simpa [Addr.add] using this
      · have := hcell i (by omega)
        rwa [Go.WideShapes.add_plain] at this

theorem Try.own : ownKnob Try.prog.godebug = none := by kernel_rfl
theorem Try.laidOut : laidOutB Try.prog = true := by kernel_rfl

end Go.Proofs.Ythncoanmmnileaa
