/- 'Races returns exactly the conflicting pairs that happens-before leaves unordered' -/
import Derived.Test.YtnckehomadnhoaaYD01
namespace Go.Proofs.Ytnckehomadnhoaa
open Go.RowKit Go.Sort Go.ChangeShapes Go.WideShapes Go.ChangeAt
set_option maxRecDepth 100000 in
theorem OrderRacesMatchReference_lifted (os:Os) (started:os.Started) (H:Type) (enc:TypeId × Value→H) :
    ReturnsInHanded {} Try.checked os 6 .any (Rows.orderRacesMatchReferenceSpec.pre6 enc Try.prog Try.f6 Rows.orderRacesMatchReferenceRow.domain false) (Rows.orderRacesMatchReferenceSpec.post enc Try.prog Try.f6 false true false false):=by
  refine law_lifted (C:=Try.checked) (B := 4) Try.own started (by kernel_rfl) Try.func6
    (ChangeSpec.witness6 (enc:=enc) (C:=Try.checked) false ⟨#[],#[.slice none 0 0],[]⟩ 8 (by kernel_rfl) (by kernel_rfl) (by kernel_rfl) (by kernel_rfl)) Try.laidOut (by kernel_rfl) (by kernel_rfl) (by kernel_rfl) rfl
    (fun ds h=>by match ds,h with | [_],_=>rfl) ?_
  intro W base args ds p hval0 hA0 hlt hnf hw hsh
  have hval : ∀ (j:Nat) t v,Try.f6.params[j]? = some t→args[j]? = some v→Value.okWide Try.prog W .any base t v:=hval0
  have hA:DataW.TrodAll enc Try.prog W 0 (fun _=>true) true Try.f6.params.toList args.toList ds p:=hA0
  clear hval0 hA0
  rw [Try.params6] at hA hval
  obtain ⟨v0,d0,rfl,rfl,h0⟩:=trodAll_one hA
  obtain ⟨l,hp⟩:=open_events (hval 0 22 _ rfl rfl) h0
  exact (lawRaces_ok l).gives ⟨rfl,fun j x v hx hv=>by
    match j,hx,hv with
    | 0,hx,hv=>cases hx;cases hv;exact .p _ _ hp⟩
theorem OrderRacesMatchReference_holds:Rows.OrderRacesMatchReferenceSaid :=
  OpenClaim.holds_of_wide 6 Try.f6 rfl rfl rfl rfl rfl rfl rfl ⟨rfl,rfl,rfl,rfl,rfl⟩ rfl rfl rfl rfl rfl (by kernel_rfl) Try.func6 (by kernel_rfl)
    (of_decide_eq_true (by kernel_rfl)) (by unfold Func.isWrapper;first|(rw [if_pos (by decide +kernel)];kernel_rfl)|(rw [if_neg (by decide +kernel)];exact ⟨rfl,rfl⟩))
    (fun os started H enc _=>OrderRacesMatchReference_lifted os started H enc)
end Go.Proofs.Ytnckehomadnhoaa
