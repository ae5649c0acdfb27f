/- every race of a valid trace has a cut that contains the second event and not the first; for all inputs. -/
import Derived.Test.YtdlgoofjechocaaYE01
set_option maxHeartbeats 32000000
set_option maxRecDepth 100000
set_option linter.unusedSimpArgs false
set_option linter.unusedVariables false
namespace Go.Proofs.Ytdlgoofjechocaa
open Go.RowKit Go.Sort Go.ChangeShapes Go.WideShapes Go.ChangeAt
theorem ExplainRaces_lifted (os:Os) (started:os.Started) (H:Type) (enc:TypeId × Value→H) :
  ReturnsInHanded {} Try.checked os 5 .any (Rows.explainRacesSpec.pre6 enc Try.prog Try.f5 Rows.explainRacesRow.domain false) (Rows.explainRacesSpec.post enc Try.prog Try.f5 false true false false):=by
 refine law_lifted (C:=Try.checked) (B := 4) Try.own started (by kernel_rfl) Try.func5
  (ChangeSpec.witness6 (enc:=enc) (C:=Try.checked) false ⟨#[],#[.slice none 0 0],[]⟩ 8 (by kernel_rfl) (by kernel_rfl) (by kernel_rfl) (by kernel_rfl)) Try.laidOut (by kernel_rfl) (by kernel_rfl) (by kernel_rfl) rfl
  (fun ds h=>by match ds,h with | [_],_=>rfl) ?_
 intro W base args ds p hval0 hA0 hlt hnf hw hsh
 have hval : ∀ (j:Nat) t v,Try.f5.params[j]? = some t→args[j]? = some v→Value.okWide Try.prog W .any base t v:=hval0
 have hA:DataW.TrodAll enc Try.prog W 0 (fun _=>true) true Try.f5.params.toList args.toList ds p:=hA0
 clear hval0 hA0
 rw [Try.params5] at hA hval
 obtain ⟨v0,d0,rfl,rfl,h0⟩:=trodAll_one hA
 obtain ⟨l,hp⟩:=z1O (hval 0 22 _ rfl rfl) h0
 exact (z8P l).gives ⟨rfl,fun j x v hx hv=>by
  match j,hx,hv with
  | 0,hx,hv=>cases hx;cases hv;exact .p _ _ hp⟩
theorem ExplainRaces_holds:Rows.ExplainRacesSaid :=
 OpenClaim.holds_of_wide 5 Try.f5 rfl rfl rfl rfl rfl rfl rfl ⟨rfl,rfl,rfl,rfl,rfl⟩ rfl rfl rfl rfl rfl (by kernel_rfl) Try.func5 (by kernel_rfl)
  (of_decide_eq_true (by kernel_rfl)) (by unfold Func.isWrapper;first|(rw [if_pos (by decide +kernel)];kernel_rfl)|(rw [if_neg (by decide +kernel)];exact ⟨rfl,rfl⟩))
  (fun os started H enc _=>ExplainRaces_lifted os started H enc)
end Go.Proofs.Ytdlgoofjechocaa
