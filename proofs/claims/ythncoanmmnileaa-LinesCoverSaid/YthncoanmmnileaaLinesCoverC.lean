/- 'The lines of a text of up to 1000 bytes, one after the other, are the text; each but the last one ends with its only line feed, and the last one contains none.' -/
import Derived.Test.YthncoanmmnileaaTo
import Derived.Test.YthncoanmmnileaaTs
namespace Go.Proofs.Ythncoanmmnileaa
open Go.RowKit Go.Sort Go.ChangeShapes Go.WideShapes Go.ChangeAt

theorem open_text {w : World} {r : Reach} {base : Nat} {v : Value} (h : Value.okWide Try.prog w r base 9 v) : ∃ s, v = .string s := by
  have hu : Try.prog.underlying 9 = some .string := by kernel_rfl
  unfold Value.okWide at h
  rw [hu] at h
  cases v <;> simp [Cell.okWide, Cell.ok, hu] at h
  exact ⟨_, rfl⟩
set_option maxRecDepth 100000 in
theorem LinesCover_lifted (os : Os) (started : os.Started) (H : Type) (enc : TypeId × Value → H) :
    ReturnsInHanded {} Try.checked os 9 .any (Rows.linesCoverSpec.pre6 enc Try.prog Try.f9 Rows.linesCoverRow.domain false) (Rows.linesCoverSpec.post enc Try.prog Try.f9 false true false false) := by
  refine law_lifted (C := Try.checked) (B := 4) Try.own started (by kernel_rfl) Try.func9
    (ChangeSpec.witness6 (enc := enc) (C := Try.checked) false ⟨#[], #[.string ⟨#[]⟩], []⟩ 8 (by kernel_rfl) (by kernel_rfl) (by kernel_rfl) (by kernel_rfl)) Try.laidOut (by kernel_rfl) (by kernel_rfl) (by kernel_rfl) rfl
    (fun ds h => by match ds, h with | [_], _ => rfl) ?_
  intro W base args ds p hval0 hA0 hlt hnf hw hsh
  have hval : ∀ (j : Nat) t v, Try.f9.params[j]? = some t → args[j]? = some v → Value.okWide Try.prog W .any base t v := hval0
  have hA : DataW.TrodAll enc Try.prog W 0 (fun _ => true) true Try.f9.params.toList args.toList ds p := hA0
  clear hval0 hA0
  rw [Try.params9] at hA hval
  obtain ⟨v0, d0, rfl, rfl, h0⟩ := trodAll_one hA
  obtain ⟨s, rfl⟩ := open_text (hval 0 9 _ rfl rfl)
  exact LinesCover_any s W

theorem LinesCover_holds : Rows.LinesCoverSaid :=
  OpenClaim.holds_of_wide 9 Try.f9 rfl rfl rfl rfl rfl rfl rfl ⟨rfl, rfl, rfl, rfl, rfl⟩ rfl rfl rfl rfl rfl (by kernel_rfl) Try.func9 (by kernel_rfl)
    (of_decide_eq_true (by kernel_rfl)) (by unfold Func.isWrapper; first | (rw [if_pos (by decide +kernel)]; kernel_rfl) | (rw [if_neg (by decide +kernel)]; exact ⟨rfl, rfl⟩))
    (fun os started H enc _ => LinesCover_lifted os started H enc)

end Go.Proofs.Ythncoanmmnileaa
