/- 'Cone returns the events that happen before an event, and the event itself' -/
import Derived.Test.YtnckehomadnhoaaYC01
namespace Go.Proofs.Ytnckehomadnhoaa
open Go.RowKit Go.Sort Go.ChangeShapes Go.WideShapes Go.ChangeAt
set_option maxRecDepth 100000 in
theorem OrderConesMatchReference_lifted (os:Os) (started:os.Started) (H:Type) (enc:TypeId × Value→H) :
    ReturnsInHanded {} Try.checked os 5 .any (Rows.orderConesMatchReferenceSpec.pre6 enc Try.prog Try.f5 Rows.orderConesMatchReferenceRow.domain false) (Rows.orderConesMatchReferenceSpec.post enc Try.prog Try.f5 false true false false):=by
  refine law_lifted (C:=Try.checked) (B := 4) Try.own started (by kernel_rfl) Try.func5
    (ChangeSpec.witness6 (enc:=enc) (C:=Try.checked) false ⟨#[],#[.slice none 0 0,.int .i64 0],[]⟩ 8 (by kernel_rfl) (by kernel_rfl) (by kernel_rfl) (by kernel_rfl)) Try.laidOut (by kernel_rfl) (by kernel_rfl) (by kernel_rfl) rfl
    (fun ds h=>by match ds,h with | [_,_],_=>rfl) ?_
  intro W base args ds p hval0 hA0 hlt hnf hw hsh
  have hval : ∀ (j:Nat) t v,Try.f5.params[j]? = some t→args[j]? = some v→Value.okWide Try.prog W .any base t v:=hval0
  have hA:DataW.TrodAll enc Try.prog W 0 (fun _=>true) true Try.f5.params.toList args.toList ds p:=hA0
  clear hval0 hA0
  rw [Try.params5] at hA hval
  obtain ⟨v0,v1,d0,d1,p0,p1,rfl,rfl,rfl,h0,h1⟩:=trodAll_two hA
  obtain ⟨l,hp⟩:=open_events (hval 0 22 _ rfl rfl) h0
  obtain ⟨k,_,rfl⟩:=open_i64 (hval 1 3 _ rfl rfl)
  exact (lawCones_ok l k).gives ⟨rfl,fun j x v hx hv=>by
    match j,hx,hv with
    | 0,hx,hv=>cases hx;cases hv;exact .p _ _ hp
    | 1,hx,hv=>cases hx;cases hv;exact .of_val _ rfl⟩
theorem OrderConesMatchReference_holds:Rows.OrderConesMatchReferenceSaid :=
  OpenClaim.holds_of_wide 5 Try.f5 rfl rfl rfl rfl rfl rfl rfl ⟨rfl,rfl,rfl,rfl,rfl⟩ rfl rfl rfl rfl rfl (by kernel_rfl) Try.func5 (by kernel_rfl)
    (of_decide_eq_true (by kernel_rfl)) (by unfold Func.isWrapper;first|(rw [if_pos (by decide +kernel)];kernel_rfl)|(rw [if_neg (by decide +kernel)];exact ⟨rfl,rfl⟩))
    (fun os started H enc _=>OrderConesMatchReference_lifted os started H enc)
end Go.Proofs.Ytnckehomadnhoaa
