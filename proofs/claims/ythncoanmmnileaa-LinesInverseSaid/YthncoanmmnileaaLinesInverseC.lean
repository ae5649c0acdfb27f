/- 'Position and Offset are inverse to each other, for every table of up to 1000 lines.' -/
import Derived.Test.YthncoanmmnileaaTo
import Derived.Test.YthncoanmmnileaaTp
namespace Go.Proofs.Ythncoanmmnileaa
open Go.RowKit Go.Sort Go.ChangeShapes Go.WideShapes Go.ChangeAt

set_option maxRecDepth 100000 in
theorem LinesInverse_lifted (os : Os) (started : os.Started) (H : Type) (enc : TypeId × Value → H) :
    ReturnsInHanded {} Try.checked os 8 .any (Rows.linesInverseSpec.pre6 enc Try.prog Try.f8 Rows.linesInverseRow.domain false) (Rows.linesInverseSpec.post enc Try.prog Try.f8 false true false false) := by
  refine law_lifted (C := Try.checked) (B := 4) Try.own started (by kernel_rfl) Try.func8
    (ChangeSpec.witness6 (enc := enc) (C := Try.checked) false ⟨#[], #[.agg #[.slice none 0 0, .int .i64 0], .int .i64 0, .int .i64 0], []⟩ 8 (by kernel_rfl) (by kernel_rfl) (by kernel_rfl) (by kernel_rfl)) Try.laidOut (by kernel_rfl) (by kernel_rfl) (by kernel_rfl) rfl
    (fun ds h => by match ds, h with | [_, _, _], _ => rfl) ?_
  intro W base args ds p hval0 hA0 hlt hnf hw hsh
  have hval : ∀ (j : Nat) t v, Try.f8.params[j]? = some t → args[j]? = some v → Value.okWide Try.prog W .any base t v := hval0
  have hA : DataW.TrodAll enc Try.prog W 0 (fun _ => true) true Try.f8.params.toList args.toList ds p := hA0
  clear hval0 hA0
  rw [Try.params8] at hA hval
  obtain ⟨v0, v1, v2, d0, d1, d2, p0, p1, p2, rfl, rfl, rfl, h0, h1, h2⟩ := trodAll_three hA
  obtain ⟨ad, n, cap, f, sz, rfl, hr, _, _⟩ := open_tab (hval 0 25 _ rfl rfl) h0
  obtain ⟨a, rfl, _⟩ := open_i64 (hval 1 3 _ rfl rfl)
  obtain ⟨b, rfl, _⟩ := open_i64 (hval 2 3 _ rfl rfl)
  exact LinesInverse_any ad n cap f sz a b W hr

theorem LinesInverse_holds : Rows.LinesInverseSaid :=
  OpenClaim.holds_of_wide 8 Try.f8 rfl rfl rfl rfl rfl rfl rfl ⟨rfl, rfl, rfl, rfl, rfl⟩ rfl rfl rfl rfl rfl (by kernel_rfl) Try.func8 (by kernel_rfl)
    (of_decide_eq_true (by kernel_rfl)) (by unfold Func.isWrapper; first | (rw [if_pos (by decide +kernel)]; kernel_rfl) | (rw [if_neg (by decide +kernel)]; exact ⟨rfl, rfl⟩))
    (fun os started H enc _ => LinesInverse_lifted os started H enc)

end Go.Proofs.Ythncoanmmnileaa
