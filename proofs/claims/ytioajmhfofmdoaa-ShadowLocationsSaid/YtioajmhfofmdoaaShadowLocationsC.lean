/- 'Locations yields the locations whose words are not zero, in order, and stops when it is told to' -/
import Derived.Test.YtioajmhfofmdoaaSl
import Derived.Test.YtioajmhfofmdoaaOp
namespace Go.Proofs.Ytioajmhfofmdoaa
open Go.RowKit Go.Sort Go.ChangeShapes Go.WideShapes Go.ChangeAt

set_option maxRecDepth 100000 in
theorem open_i64 {w : World} {r : Reach} {base : Nat} {v : Value} (h : Value.okWide Try.prog w r base 3 v) : ∃ n : Int, v = .int .i64 n ∧ -9223372036854775808 ≤ n ∧ n ≤ 9223372036854775807 := by
  have hu : Try.prog.underlying 3 = some (.int .i64) := by kernel_rfl
  unfold Value.okWide at h
  rw [hu] at h
  obtain ⟨n, e, hb⟩ := cell_int (k := .i64) hu h
  exact ⟨n, e, has_i64 hb⟩
set_option maxRecDepth 100000 in
theorem ShadowLocations_lifted (os : Os) (started : os.Started) (H : Type) (enc : TypeId × Value → H) :
    ReturnsInHanded {} Try.checked os 6 .any (Rows.shadowLocationsSpec.pre6 enc Try.prog Try.f6 Rows.shadowLocationsRow.domain false) (Rows.shadowLocationsSpec.post enc Try.prog Try.f6 false true false false) := by
  refine law_lifted (C := Try.checked) (B := 4) Try.own started (by kernel_rfl) Try.func6
    (ChangeSpec.witness6 (enc := enc) (C := Try.checked) false ⟨#[], #[.slice none 0 0, .int .i64 0], []⟩ 8 (by kernel_rfl) (by kernel_rfl) (by kernel_rfl) (by kernel_rfl)) Try.laidOut (by kernel_rfl) (by kernel_rfl) (by kernel_rfl) rfl
    (fun ds h => by match ds, h with | [_, _], _ => rfl) ?_
  intro W base args ds p hval0 hA0 hlt hnf hw hsh
  have hval : ∀ (j : Nat) t v, Try.f6.params[j]? = some t → args[j]? = some v → Value.okWide Try.prog W .any base t v := hval0
  have hA : DataW.TrodAll enc Try.prog W 0 (fun _ => true) true Try.f6.params.toList args.toList ds p := hA0
  clear hval0 hA0
  rw [Try.params6] at hA hval
  obtain ⟨v0, v1, d0, d1, p0, p1, rfl, rfl, rfl, h0, h1⟩ := trodAll_two hA
  obtain ⟨L, hL, hb⟩ := open_ops (hval 0 22 _ rfl rfl) h0
  obtain ⟨a, rfl, ha⟩ := open_i64 (hval 1 3 _ rfl rfl)
  exact locations_any _ L a W hL hb ha

theorem ShadowLocations_holds : Rows.ShadowLocationsSaid :=
  OpenClaim.holds_of_wide 6 Try.f6 rfl rfl rfl rfl rfl rfl rfl ⟨rfl, rfl, rfl, rfl, rfl⟩ rfl rfl rfl rfl rfl (by kernel_rfl) Try.func6 (by kernel_rfl)
    (of_decide_eq_true (by kernel_rfl)) (by unfold Func.isWrapper; first | (rw [if_pos (by decide +kernel)]; kernel_rfl) | (rw [if_neg (by decide +kernel)]; exact ⟨rfl, rfl⟩))
    (fun os started H enc _ => ShadowLocations_lifted os started H enc)

end Go.Proofs.Ytioajmhfofmdoaa
