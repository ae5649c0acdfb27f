/- 'the paths of a tree are those that begin with a child of the root, before and after it is removed; Subtree returns that child' -/
import Derived.Test.YtmgiojkdcpolfaaRy
import Derived.Test.YtmgiojkdcpolfaaOs
import Derived.Test.YtmgiojkdcpolfaaLd
namespace Go.Proofs.Ytmgiojkdcpolfaa
open Go.RowKit Go.Sort Go.ChangeShapes Go.WideShapes Go.ChangeAt

set_option maxRecDepth 100000 in
theorem WakeupRemove_lifted (os : Os) (started : os.Started) (H : Type) (enc : TypeId × Value → H) :
    ReturnsInHanded {} Try.checked os 7 .any (Rows.wakeupRemoveSpec.pre6 enc Try.prog Try.f7 Rows.wakeupRemoveRow.domain false) (Rows.wakeupRemoveSpec.post enc Try.prog Try.f7 false true false false) := by
  refine law_lifted (C := Try.checked) (B := 4) Try.own started (by kernel_rfl) Try.func7
    (ChangeSpec.witness6 (enc := enc) (C := Try.checked) false ⟨#[], #[.slice none 0 0, .agg #[.int .i64 0, .int .i64 0]], []⟩ 8 (by kernel_rfl) (by kernel_rfl) (by kernel_rfl) (by kernel_rfl)) Try.laidOut (by kernel_rfl) (by kernel_rfl) (by kernel_rfl) rfl
    (fun ds h => by match ds, h with | [_, _], _ => rfl) ?_
  intro W base args ds p hval0 hA0 hlt hnf hw hsh
  have hval : ∀ (j : Nat) t v, Try.f7.params[j]? = some t → args[j]? = some v → Value.okWide Try.prog W .any base t v := hval0
  have hA : DataW.TrodAll enc Try.prog W 0 (fun _ => true) true Try.f7.params.toList args.toList ds p := hA0
  clear hval0 hA0
  rw [Try.params7] at hA hval
  obtain ⟨v0, v1, d0, d1, p0, p1, rfl, rfl, rfl, h0, h1⟩ := trodAll_two hA
  obtain ⟨ad, ps, cap, rfl, hr, hs⟩ := open_seqs (hval 0 22 _ rfl rfl) h0
  obtain ⟨xg, xc, rfl⟩ := open_pick (hval 1 26 _ rfl rfl)
  exact removeLaw_any ad ps cap xg xc W hr hs

theorem WakeupRemove_holds : Rows.WakeupRemoveSaid :=
  OpenClaim.holds_of_wide 7 Try.f7 rfl rfl rfl rfl rfl rfl rfl ⟨rfl, rfl, rfl, rfl, rfl⟩ rfl rfl rfl rfl rfl (by kernel_rfl) Try.func7 (by kernel_rfl)
    (of_decide_eq_true (by kernel_rfl)) (by unfold Func.isWrapper; first | (rw [if_pos (by decide +kernel)]; kernel_rfl) | (rw [if_neg (by decide +kernel)]; exact ⟨rfl, rfl⟩))
    (fun os started H enc _ => WakeupRemove_lifted os started H enc)

end Go.Proofs.Ytmgiojkdcpolfaa
