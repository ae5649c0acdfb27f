/- 'Edges returns the immediate relations of the definition, and ErrArg for a list that is not a valid trace' -/
import Derived.Test.YtnckehomadnhoaaYA01
namespace Go.Proofs.Ytnckehomadnhoaa
open Go.RowKit Go.Sort Go.ChangeShapes Go.WideShapes Go.ChangeAt
set_option maxRecDepth 100000 in
theorem OrderEdgesMatchReference_lifted (os:Os) (started:os.Started) (H:Type) (enc:TypeId × Value→H) :
    ReturnsInHanded {} Try.checked os 3 .any (Rows.orderEdgesMatchReferenceSpec.pre6 enc Try.prog Try.f3 Rows.orderEdgesMatchReferenceRow.domain false) (Rows.orderEdgesMatchReferenceSpec.post enc Try.prog Try.f3 false true false false):=by
  refine law_lifted (C:=Try.checked) (B := 4) Try.own started (by kernel_rfl) Try.func3
    (ChangeSpec.witness6 (enc:=enc) (C:=Try.checked) false ⟨#[],#[.slice none 0 0],[]⟩ 8 (by kernel_rfl) (by kernel_rfl) (by kernel_rfl) (by kernel_rfl)) Try.laidOut (by kernel_rfl) (by kernel_rfl) (by kernel_rfl) rfl
    (fun ds h=>by match ds,h with | [_],_=>rfl) ?_
  intro W base args ds p hval0 hA0 hlt hnf hw hsh
  have hval : ∀ (j:Nat) t v,Try.f3.params[j]? = some t→args[j]? = some v→Value.okWide Try.prog W .any base t v:=hval0
  have hA:DataW.TrodAll enc Try.prog W 0 (fun _=>true) true Try.f3.params.toList args.toList ds p:=hA0
  clear hval0 hA0
  rw [Try.params3] at hA hval
  obtain ⟨v0,d0,rfl,rfl,h0⟩:=trodAll_one hA
  obtain ⟨l,hp⟩:=open_events (hval 0 22 _ rfl rfl) h0
  exact (lawEdges_ok l).gives ⟨rfl,fun j x v hx hv=>by
    match j,hx,hv with
    | 0,hx,hv=>cases hx;cases hv;exact .p _ _ hp⟩
theorem OrderEdgesMatchReference_holds:Rows.OrderEdgesMatchReferenceSaid :=
  OpenClaim.holds_of_wide 3 Try.f3 rfl rfl rfl rfl rfl rfl rfl ⟨rfl,rfl,rfl,rfl,rfl⟩ rfl rfl rfl rfl rfl (by kernel_rfl) Try.func3 (by kernel_rfl)
    (of_decide_eq_true (by kernel_rfl)) (by unfold Func.isWrapper;first|(rw [if_pos (by decide +kernel)];kernel_rfl)|(rw [if_neg (by decide +kernel)];exact ⟨rfl,rfl⟩))
    (fun os started H enc _=>OrderEdgesMatchReference_lifted os started H enc)
end Go.Proofs.Ytnckehomadnhoaa
