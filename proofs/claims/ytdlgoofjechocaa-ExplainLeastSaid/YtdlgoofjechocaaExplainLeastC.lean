/- a chain that Check accepts is no shorter than that of Explain, and a cut that it accepts contains that of Explain; for all inputs. -/
import Derived.Test.YtdlgoofjechocaaYD01
set_option maxHeartbeats 32000000
set_option maxRecDepth 100000
set_option linter.unusedSimpArgs false
set_option linter.unusedVariables false
namespace Go.Proofs.Ytdlgoofjechocaa
open Go.RowKit Go.Sort Go.ChangeShapes Go.WideShapes Go.ChangeAt
theorem ExplainLeast_lifted (os:Os) (started:os.Started) (H:Type) (enc:TypeId × Value→H) :
  ReturnsInHanded {} Try.checked os 8 .any (Rows.explainLeastSpec.pre6 enc Try.prog Try.f8 Rows.explainLeastRow.domain false) (Rows.explainLeastSpec.post enc Try.prog Try.f8 false true false false):=by
 refine law_lifted (C:=Try.checked) (B := 4) Try.own started (by kernel_rfl) Try.func8
  (ChangeSpec.witness6 (enc:=enc) (C:=Try.checked) false ⟨#[],#[.slice none 0 0,.int .i64 0,.int .i64 0,.agg #[.bool false,.slice none 0 0]],[]⟩ 8 (by kernel_rfl) (by kernel_rfl) (by kernel_rfl) (by kernel_rfl)) Try.laidOut (by kernel_rfl) (by kernel_rfl) (by kernel_rfl) rfl
  (fun ds h=>by match ds,h with | [_,_,_,_],_=>rfl) ?_
 intro W base args ds p hval0 hA0 hlt hnf hw hsh
 have hval : ∀ (j:Nat) t v,Try.f8.params[j]? = some t→args[j]? = some v→Value.okWide Try.prog W .any base t v:=hval0
 have hA:DataW.TrodAll enc Try.prog W 0 (fun _=>true) true Try.f8.params.toList args.toList ds p:=hA0
 clear hval0 hA0
 rw [Try.params8] at hA hval
 obtain ⟨v0,v1,v2,v3,d0,d1,d2,d3,p0,p1,p2,p3,rfl,rfl,rfl,h0,h1,h2,h3⟩:=trodAll_four hA
 obtain ⟨l,hp⟩:=z1O (hval 0 22 _ rfl rfl) h0
 obtain ⟨k,_,rfl⟩:=z1a (hval 1 3 _ rfl rfl)
 obtain ⟨m,_,rfl⟩:=z1a (hval 2 3 _ rfl rfl)
 obtain ⟨o,ev,hr⟩:=z4h (hval 3 26 _ rfl rfl) h3
 exact (z8N l k m o ev).gives ⟨rfl,fun j x v hx hv=>by
  match j,hx,hv with
  | 0,hx,hv=>cases hx;cases hv;exact .p _ _ hp
  | 1,hx,hv=>cases hx;cases hv;exact .qM _ rfl
  | 2,hx,hv=>cases hx;cases hv;exact .qM _ rfl
  | 3,hx,hv=>cases hx;cases hv;exact hr⟩
theorem ExplainLeast_holds:Rows.ExplainLeastSaid :=
 OpenClaim.holds_of_wide 8 Try.f8 rfl rfl rfl rfl rfl rfl rfl ⟨rfl,rfl,rfl,rfl,rfl⟩ rfl rfl rfl rfl rfl (by kernel_rfl) Try.func8 (by kernel_rfl)
  (of_decide_eq_true (by kernel_rfl)) (by unfold Func.isWrapper;first|(rw [if_pos (by decide +kernel)];kernel_rfl)|(rw [if_neg (by decide +kernel)];exact ⟨rfl,rfl⟩))
  (fun os started H enc _=>ExplainLeast_lifted os started H enc)
end Go.Proofs.Ytdlgoofjechocaa
