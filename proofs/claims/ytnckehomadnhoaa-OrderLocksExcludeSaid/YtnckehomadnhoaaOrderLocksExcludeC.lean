/- 'two writes that are protected by one mutex do not race' -/
import Derived.Test.YtnckehomadnhoaaYI01
namespace Go.Proofs.Ytnckehomadnhoaa
open Go.RowKit Go.Sort Go.ChangeShapes Go.WideShapes Go.ChangeAt
set_option maxRecDepth 100000 in
theorem OrderLocksExclude_lifted (os:Os) (started:os.Started) (H:Type) (enc:TypeId × Value→H) :
    ReturnsInHanded {} Try.checked os 11 .any (Rows.orderLocksExcludeSpec.pre6 enc Try.prog Try.f11 Rows.orderLocksExcludeRow.domain false) (Rows.orderLocksExcludeSpec.post enc Try.prog Try.f11 false true false false):=by
  refine law_lifted (C:=Try.checked) (B := 4) Try.own started (by kernel_rfl) Try.func11
    (ChangeSpec.witness6 (enc:=enc) (C:=Try.checked) false ⟨#[],#[.slice none 0 0,.int .u8 0,.int .u8 0],[]⟩ 8 (by kernel_rfl) (by kernel_rfl) (by kernel_rfl) (by kernel_rfl)) Try.laidOut (by kernel_rfl) (by kernel_rfl) (by kernel_rfl) rfl
    (fun ds h=>by match ds,h with | [_,_,_],_=>rfl) ?_
  intro W base args ds p hval0 hA0 hlt hnf hw hsh
  have hval : ∀ (j:Nat) t v,Try.f11.params[j]? = some t→args[j]? = some v→Value.okWide Try.prog W .any base t v:=hval0
  have hA:DataW.TrodAll enc Try.prog W 0 (fun _=>true) true Try.f11.params.toList args.toList ds p:=hA0
  clear hval0 hA0
  rw [Try.params11] at hA hval
  obtain ⟨v0,v1,v2,d0,d1,d2,p0,p1,p2,rfl,rfl,rfl,h0,h1,h2⟩:=trodAll_three hA
  obtain ⟨l,hp⟩:=open_events (hval 0 22 _ rfl rfl) h0
  obtain ⟨k,hk,rfl⟩:=open_u8 (hval 1 5 _ rfl rfl)
  obtain ⟨m,hm,rfl⟩:=open_u8 (hval 2 5 _ rfl rfl)
  exact (lawLocks_ok l k m hk hm).gives ⟨rfl,fun j x v hx hv=>by
    match j,hx,hv with
    | 0,hx,hv=>cases hx;cases hv;exact .p _ _ hp
    | 1,hx,hv=>cases hx;cases hv;exact .of_val _ rfl
    | 2,hx,hv=>cases hx;cases hv;exact .of_val _ rfl⟩
theorem OrderLocksExclude_holds:Rows.OrderLocksExcludeSaid :=
  OpenClaim.holds_of_wide 11 Try.f11 rfl rfl rfl rfl rfl rfl rfl ⟨rfl,rfl,rfl,rfl,rfl⟩ rfl rfl rfl rfl rfl (by kernel_rfl) Try.func11 (by kernel_rfl)
    (of_decide_eq_true (by kernel_rfl)) (by unfold Func.isWrapper;first|(rw [if_pos (by decide +kernel)];kernel_rfl)|(rw [if_neg (by decide +kernel)];exact ⟨rfl,rfl⟩))
    (fun os started H enc _=>OrderLocksExclude_lifted os started H enc)
end Go.Proofs.Ytnckehomadnhoaa
