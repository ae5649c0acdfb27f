/- 'Of returns the line table of any text of up to 3000 bytes, and it is valid.' -/
import Derived.Test.YthncoanmmnileaaTo
import Derived.Test.YthncoanmmnileaaTr
namespace Go.Proofs.Ythncoanmmnileaa
open Go.RowKit Go.Sort Go.ChangeShapes Go.WideShapes Go.ChangeAt

theorem open_str {w : World} {r : Reach} {base : Nat} {v : Value} (h : Value.okWide Try.prog w r base 9 v) : ∃ s, v = .string s := by
  have hu : Try.prog.underlying 9 = some .string := by kernel_rfl
  unfold Value.okWide at h
  rw [hu] at h
  cases v <;> simp [Cell.okWide, Cell.ok, hu] at h
  exact ⟨_, rfl⟩
set_option maxRecDepth 100000 in
theorem LinesTable_lifted (os : Os) (started : os.Started) (H : Type) (enc : TypeId × Value → H) :
    ReturnsInHanded {} Try.checked os 3 .any (Rows.linesTableSpec.pre6 enc Try.prog Try.f3 Rows.linesTableRow.domain false) (Rows.linesTableSpec.post enc Try.prog Try.f3 false true false false) := by
  refine law_lifted (C := Try.checked) (B := 4) Try.own started (by kernel_rfl) Try.func3
    (ChangeSpec.witness6 (enc := enc) (C := Try.checked) false ⟨#[], #[.string ⟨#[]⟩], []⟩ 8 (by kernel_rfl) (by kernel_rfl) (by kernel_rfl) (by kernel_rfl)) Try.laidOut (by kernel_rfl) (by kernel_rfl) (by kernel_rfl) rfl
    (fun ds h => by match ds, h with | [_], _ => rfl) ?_
  intro W base args ds p hval0 hA0 hlt hnf hw hsh
  have hval : ∀ (j : Nat) t v, Try.f3.params[j]? = some t → args[j]? = some v → Value.okWide Try.prog W .any base t v := hval0
  have hA : DataW.TrodAll enc Try.prog W 0 (fun _ => true) true Try.f3.params.toList args.toList ds p := hA0
  clear hval0 hA0
  rw [Try.params3] at hA hval
  obtain ⟨v0, d0, rfl, rfl, h0⟩ := trodAll_one hA
  obtain ⟨s, rfl⟩ := open_str (hval 0 9 _ rfl rfl)
  exact LinesTable_any s W

theorem LinesTable_holds : Rows.LinesTableSaid :=
  OpenClaim.holds_of_wide 3 Try.f3 rfl rfl rfl rfl rfl rfl rfl ⟨rfl, rfl, rfl, rfl, rfl⟩ rfl rfl rfl rfl rfl (by kernel_rfl) Try.func3 (by kernel_rfl)
    (of_decide_eq_true (by kernel_rfl)) (by unfold Func.isWrapper; first | (rw [if_pos (by decide +kernel)]; kernel_rfl) | (rw [if_neg (by decide +kernel)]; exact ⟨rfl, rfl⟩))
    (fun os started H enc _ => LinesTable_lifted os started H enc)

end Go.Proofs.Ythncoanmmnileaa
