/- 'happens-before and the races of two events depend only on the events up to the later one' -/
import Derived.Test.YtnckehomadnhoaaYF01
namespace Go.Proofs.Ytnckehomadnhoaa
open Go.RowKit Go.Sort Go.ChangeShapes Go.WideShapes Go.ChangeAt
set_option maxRecDepth 100000 in
theorem OrderDependsOnThePast_lifted (os:Os) (started:os.Started) (H:Type) (enc:TypeId × Value→H) :
    ReturnsInHanded {} Try.checked os 8 .any (Rows.orderDependsOnThePastSpec.pre6 enc Try.prog Try.f8 Rows.orderDependsOnThePastRow.domain false) (Rows.orderDependsOnThePastSpec.post enc Try.prog Try.f8 false true false false):=by
  refine law_lifted (C:=Try.checked) (B := 4) Try.own started (by kernel_rfl) Try.func8
    (ChangeSpec.witness6 (enc:=enc) (C:=Try.checked) false ⟨#[],#[.slice none 0 0,.int .i64 0],[]⟩ 8 (by kernel_rfl) (by kernel_rfl) (by kernel_rfl) (by kernel_rfl)) Try.laidOut (by kernel_rfl) (by kernel_rfl) (by kernel_rfl) rfl
    (fun ds h=>by match ds,h with | [_,_],_=>rfl) ?_
  intro W base args ds p hval0 hA0 hlt hnf hw hsh
  have hval : ∀ (j:Nat) t v,Try.f8.params[j]? = some t→args[j]? = some v→Value.okWide Try.prog W .any base t v:=hval0
  have hA:DataW.TrodAll enc Try.prog W 0 (fun _=>true) true Try.f8.params.toList args.toList ds p:=hA0
  clear hval0 hA0
  rw [Try.params8] at hA hval
  obtain ⟨v0,v1,d0,d1,p0,p1,rfl,rfl,rfl,h0,h1⟩:=trodAll_two hA
  obtain ⟨l,hp⟩:=open_events (hval 0 22 _ rfl rfl) h0
  obtain ⟨k,_,rfl⟩:=open_i64 (hval 1 3 _ rfl rfl)
  exact (lawPast_ok l k).gives ⟨rfl,fun j x v hx hv=>by
    match j,hx,hv with
    | 0,hx,hv=>cases hx;cases hv;exact .p _ _ hp
    | 1,hx,hv=>cases hx;cases hv;exact .of_val _ rfl⟩
theorem OrderDependsOnThePast_holds:Rows.OrderDependsOnThePastSaid :=
  OpenClaim.holds_of_wide 8 Try.f8 rfl rfl rfl rfl rfl rfl rfl ⟨rfl,rfl,rfl,rfl,rfl⟩ rfl rfl rfl rfl rfl (by kernel_rfl) Try.func8 (by kernel_rfl)
    (of_decide_eq_true (by kernel_rfl)) (by unfold Func.isWrapper;first|(rw [if_pos (by decide +kernel)];kernel_rfl)|(rw [if_neg (by decide +kernel)];exact ⟨rfl,rfl⟩))
    (fun os started H enc _=>OrderDependsOnThePast_lifted os started H enc)
end Go.Proofs.Ytnckehomadnhoaa
