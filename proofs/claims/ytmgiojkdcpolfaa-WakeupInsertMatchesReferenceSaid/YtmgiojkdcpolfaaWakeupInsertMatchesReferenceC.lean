/- 'the paths of a tree after insertions are those of the definition' -/
import Derived.Test.YtmgiojkdcpolfaaIr
import Derived.Test.YtmgiojkdcpolfaaLd
namespace Go.Proofs.Ytmgiojkdcpolfaa
open Go.RowKit Go.Sort Go.ChangeShapes Go.WideShapes Go.ChangeAt

set_option maxRecDepth 100000 in
theorem WakeupInsertMatchesReference_lifted (os : Os) (started : os.Started) (H : Type) (enc : TypeId × Value → H) :
    ReturnsInHanded {} Try.checked os 3 .any (Rows.wakeupInsertMatchesReferenceSpec.pre6 enc Try.prog Try.f3 Rows.wakeupInsertMatchesReferenceRow.domain false) (Rows.wakeupInsertMatchesReferenceSpec.post enc Try.prog Try.f3 false true false false) := by
  refine law_lifted (C := Try.checked) (B := 4) Try.own started (by kernel_rfl) Try.func3
    (ChangeSpec.witness6 (enc := enc) (C := Try.checked) false ⟨#[], #[.slice none 0 0], []⟩ 8 (by kernel_rfl) (by kernel_rfl) (by kernel_rfl) (by kernel_rfl)) Try.laidOut (by kernel_rfl) (by kernel_rfl) (by kernel_rfl) rfl
    (fun ds h => by match ds, h with | [_], _ => rfl) ?_
  intro W base args ds p hval0 hA0 hlt hnf hw hsh
  have hval : ∀ (j : Nat) t v, Try.f3.params[j]? = some t → args[j]? = some v → Value.okWide Try.prog W .any base t v := hval0
  have hA : DataW.TrodAll enc Try.prog W 0 (fun _ => true) true Try.f3.params.toList args.toList ds p := hA0
  clear hval0 hA0
  rw [Try.params3] at hA hval
  obtain ⟨v0, d0, rfl, rfl, h0⟩ := trodAll_one hA
  obtain ⟨ad, ps, cap, rfl, hr, hs⟩ := open_seqs (hval 0 22 _ rfl rfl) h0
  exact insertMatches_any ad ps cap W hr hs

theorem WakeupInsertMatchesReference_holds : Rows.WakeupInsertMatchesReferenceSaid :=
  OpenClaim.holds_of_wide 3 Try.f3 rfl rfl rfl rfl rfl rfl rfl ⟨rfl, rfl, rfl, rfl, rfl⟩ rfl rfl rfl rfl rfl (by kernel_rfl) Try.func3 (by kernel_rfl)
    (of_decide_eq_true (by kernel_rfl)) (by unfold Func.isWrapper; first | (rw [if_pos (by decide +kernel)]; kernel_rfl) | (rw [if_neg (by decide +kernel)]; exact ⟨rfl, rfl⟩))
    (fun os started H enc _ => WakeupInsertMatchesReference_lifted os started H enc)

end Go.Proofs.Ytmgiojkdcpolfaa
