/- 'Of returns the epoch of a goroutine in a clock, and Leq reports whether an epoch is in a clock: for every clock, number and epoch.' -/
import Derived.Test.YtkfngaobgnijmaaEo
namespace Go.Proofs.Ytkfngaobgnijmaa
open Go.RowKit Go.Sort Go.ChangeShapes Go.WideShapes Go.ChangeAt

set_option maxRecDepth 100000 in
theorem EpochOf_lifted (os : Os) (started : os.Started) (H : Type) (enc : TypeId × Value → H) :
    ReturnsInHanded {} Try.checked os 3 .any (Rows.epochOfSpec.pre6 enc Try.prog Try.f3 Rows.epochOfRow.domain false) (Rows.epochOfSpec.post enc Try.prog Try.f3 false true false false) := by
  refine law_lifted (C := Try.checked) (B := 4) Try.own started (by kernel_rfl) Try.func3
    (ChangeSpec.witness6 (enc := enc) (C := Try.checked) false ⟨#[], #[.agg #[.int .i64 0, .int .i64 0, .int .i64 0, .int .i64 0, .int .i64 0, .int .i64 0, .int .i64 0, .int .i64 0], .int .i64 0, .agg #[.int .i64 0, .int .i64 0]], []⟩ 8 (by kernel_rfl) (by kernel_rfl) (by kernel_rfl) (by kernel_rfl)) Try.laidOut (by kernel_rfl) (by kernel_rfl) (by kernel_rfl) rfl
    (fun ds h => by match ds, h with | [_, _, _], _ => rfl) ?_
  intro W base args ds p hval0 hA0 hlt hnf hw hsh
  have hval : ∀ (j : Nat) t v, Try.f3.params[j]? = some t → args[j]? = some v → Value.okWide Try.prog W .any base t v := hval0
  have hA : DataW.TrodAll enc Try.prog W 0 (fun _ => true) true Try.f3.params.toList args.toList ds p := hA0
  clear hval0 hA0
  rw [Try.params3] at hA hval
  obtain ⟨v0, v1, v2, d0, d1, d2, p0, p1, p2, rfl, rfl, rfl, h0, h1, h2⟩ := trodAll_three hA
  obtain ⟨c, rfl, _⟩ := open_clock (hval 0 23 _ rfl rfl)
  obtain ⟨g, rfl, _⟩ := open_num (hval 1 3 _ rfl rfl)
  obtain ⟨eg, en, rfl⟩ := open_epoch (hval 2 25 _ rfl rfl)
  exact EpochOf_any c g eg en W

theorem EpochOf_holds : Rows.EpochOfSaid :=
  OpenClaim.holds_of_wide 3 Try.f3 rfl rfl rfl rfl rfl rfl rfl ⟨rfl, rfl, rfl, rfl, rfl⟩ rfl rfl rfl rfl rfl (by kernel_rfl) Try.func3 (by kernel_rfl)
    (of_decide_eq_true (by kernel_rfl)) (by unfold Func.isWrapper; first | (rw [if_pos (by decide +kernel)]; kernel_rfl) | (rw [if_neg (by decide +kernel)]; exact ⟨rfl, rfl⟩))
    (fun os started H enc _ => EpochOf_lifted os started H enc)

end Go.Proofs.Ytkfngaobgnijmaa
