/- ReportText: Text returns the text of any report; for all inputs of bulk at most 1048576. -/
import Derived.Test.YtbkkginjfnjffaaDoorTie
import Derived.Test.YtbkkginjfnjffaaDoorCards
import Derived.SevenTiedAt
import Derived.Test.YtbkkginjfnjffaaDoorZ14
set_option maxHeartbeats 32000000
set_option maxRecDepth 100000
set_option linter.unusedSimpArgs false
set_option linter.unusedVariables false
namespace Go.Proofs.YtbkkginjfnjffaaDoor
open Go.RowKit Go.Sort Go.ChangeShapes Go.WideShapes Go.ChangeAt
theorem ReportText_lifted (os:Os) (started:os.Started) (H:Type) (enc:TypeId × Value→H) (F:Stop.Interp) :
  ReturnsInHanded {} Tryd.checked os 7 .any ((Rows.OpenSpec.upto Rows.reportTextSpec).preRow enc Tryd.prog Tryd.f7 Rows.reportTextUptoRow.domain false Rows.reportTextUptoRow.laid) (((Rows.OpenSpec.upto Rows.reportTextSpec).at F).post enc Tryd.prog Tryd.f7 false true false false):=by
 obtain ⟨places,hx⟩ : ∃ places,DataW.whole enc Tryd.prog ((World.laidAll Tryd.prog os Rows.reportTextUptoRow.laid).forCall (fun _ _ => 0) ⟨#[],#[.agg #[.slice none 0 0,.slice none 0 0,.slice none 0 0,.int .i64 0],.agg #[.slice none 0 0,.int .i64 0],.agg #[.int .i64 0,.int .i64 0,.int .i64 0,.int .i64 0,.slice none 0 0,.slice none 0 0,.int .i64 0]],[]⟩).memory Tryd.f7.params.toList Rows.reportTextSpec.vars false (#[.agg #[.slice none 0 0,.slice none 0 0,.slice none 0 0,.int .i64 0],.agg #[.slice none 0 0,.int .i64 0],.agg #[.int .i64 0,.int .i64 0,.int .i64 0,.int .i64 0,.slice none 0 0,.slice none 0 0,.int .i64 0]] : Array Value).toList 8=some (([.agg [.nil,.nil,.nil,.lit (.int .i64 0)],.agg [.nil,.lit (.int .i64 0)],.agg [.lit (.int .i64 0),.lit (.int .i64 0),.lit (.int .i64 0),.lit (.int .i64 0),.nil,.nil,.lit (.int .i64 0)]] : List (DataW H)),[],places):=⟨[],by kernel_rfl⟩
 refine returnsInHanded_of_row (C:=Tryd.checked) (s:=(Rows.OpenSpec.upto Rows.reportTextSpec)) Tryd.own started (by kernel_rfl) Tryd.func7
  (witness_row_at (enc:=enc) (C:=Tryd.checked) false (World.laidAll Tryd.prog os Rows.reportTextUptoRow.laid) #[.agg #[.slice none 0 0,.slice none 0 0,.slice none 0 0,.int .i64 0],.agg #[.slice none 0 0,.int .i64 0],.agg #[.int .i64 0,.int .i64 0,.int .i64 0,.int .i64 0,.slice none 0 0,.slice none 0 0,.int .i64 0]] (World.laidAll_os _ _ _) (by kernel_rfl) (by kernel_rfl) (by kernel_rfl)
   (OpenSpec.preRow_of_cond 8 hx (by kernel_rfl) (fun k hk=>by cases hk;kernel_rfl) (by kernel_rfl) (laidMet_laidAll _ (by kernel_rfl) (by kernel_rfl)))) ?_
 intro W base args ds gs before hval0 hW _ hcond _ hL hsh _
 have hval : ∀ (j:Nat) t v,Tryd.f7.params[j]? = some t→args[j]? = some v→Value.okWide Tryd.prog W .any base t v:=hval0
 have hW':=hW
 obtain ⟨p,q,hA0,hV,rfl,hfz,hnd⟩:=hW
 have hA:DataW.TrodAll enc Tryd.prog W 0 (fun _=>true) true Tryd.f7.params.toList args.toList ds p:=hA0
 obtain ⟨rfl,rfl⟩:=trodVars_none hV
 have hB:=z1w hL hsh
 have hU:=u64G hB
 clear hval0 hA0
 rw [Tryd.params7] at hA hval
 obtain ⟨v0,v1,v2,d0,d1,d2,p0,p1,p2,rfl,rfl,rfl,k0,k1,k2⟩:=trodAll_three hA
 have hbk:=of_decide_eq_true (hcond _ rfl)
 simp only [List.append_nil,Rows.uptoBulkAll] at hbk
 obtain ⟨fs,g,y,mn,hn,h0⟩:=z6C (N := 1000001) (loc:=locG) (c := 1048576) hU (hval 0 46 _ rfl rfl) k0 (by omega)
 obtain ⟨st,sz,h1⟩:=z4W (N := 1000001) (loc:=locG) hU (hval 1 48 _ rfl rfl) k1
 obtain ⟨x,hw,l1,l2,h2⟩:=z7k (N := 1000001) (loc:=locG) (c := 1048576) hU (hval 2 41 _ rfl rfl) k2 (by omega)
 refine Calls.mono (MemC.read (text_mem fs g y mn st sz x hn hw (by omega) (by omega)) z0I (fun _=>False) locG W [v0,v1,v2] (hrelG hB) ⟨rfl,fun j x v hx hv=>by
  match j,hx,hv with
  | 0,hx,hv=>cases hx;cases hv;exact h0
  | 1,hx,hv=>cases hx;cases hv;exact h1
  | 2,hx,hv=>cases hx;cases hv;exact h2⟩) ?_
 rintro e W' ⟨rfl,hb⟩
 refine ⟨_,rfl,z3d (B := 4) Tryd.laidOut (fun t ht=>?_) rfl (by kernel_rfl) hb.toBelow rfl hW' (fun ds h=>by match ds,h with | [_,_,_],_=>rfl)⟩
 have:=List.all_eq_true.1 (show (Tryd.f7.params.toList.all fun t=>Tryd.prog.readableRec t&&decide (t<Tryd.prog.types.size))=true by kernel_rfl) t ht
 simpa using this
theorem z3k:Rows.ReportTextUptoSaid :=
 OpenClaim.holds_of_cond 7 Tryd.f7 rfl rfl rfl rfl rfl rfl rfl ⟨rfl,rfl,rfl,rfl,rfl⟩ rfl rfl rfl rfl rfl (by kernel_rfl) Tryd.func7 (by kernel_rfl)
  (of_decide_eq_true (by kernel_rfl)) (by unfold Func.isWrapper;first|(rw [if_pos (by decide +kernel)];kernel_rfl)|(rw [if_neg (by decide +kernel)];exact ⟨rfl,rfl⟩))
  (fun os started H enc _ F=>by rw [OpenClaim.pre_eq_preRow];exact ReportText_lifted os started H enc F)
theorem ReportText_holds : Rows.ReportTextUptoCardSaid :=
  Claim7.holds_tied_plain_at .later [] _ _ _ _ z3k (fun _ h => by cases h) (by kernel_rfl) (fun _ h => by cases h) reportTextUpto_row_tie rfl ⟨rfl, rfl⟩ (by kernel_rfl) rfl
    (fun f fn hf hfn => by
      obtain rfl : f = 7 := Option.some.inj ((show Tryd.prog.funcNamed "interleave/interleavelaw40.ReportText" = some 7 by kernel_rfl).symm.trans hf) |>.symm
      obtain rfl : fn = Tryd.f7 := (Option.some.inj (Tryd.func7.symm.trans hfn)).symm
      exact ⟨by kernel_rfl, fun j t ht => by
        rw [Tryd.params7] at ht
        have hm : t ∈ [46, 48, 41] := by simpa using Array.mem_of_getElem? ht
        have hall : ([46, 48, 41].all fun u => !Tryd.prog.wantsStandIn u) = true := by kernel_rfl
        exact (show Tryd.prog.wantsStandIn t = false by simpa using List.all_eq_true.1 hall t hm)⟩)
    (by kernel_rfl)
end Go.Proofs.YtbkkginjfnjffaaDoor
