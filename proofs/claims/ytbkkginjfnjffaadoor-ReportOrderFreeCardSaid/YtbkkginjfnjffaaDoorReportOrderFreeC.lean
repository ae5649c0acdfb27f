/- ReportOrderFree: the reports do not depend on the order of the races; for all inputs. -/
import Derived.Test.YtbkkginjfnjffaaDoorTie
import Derived.Test.YtbkkginjfnjffaaDoorCards
import Derived.SevenTiedAt
import Derived.Test.YtbkkginjfnjffaaDoorZ14
set_option maxHeartbeats 32000000
set_option maxRecDepth 100000
set_option linter.unusedSimpArgs false
set_option linter.unusedVariables false
namespace Go.Proofs.YtbkkginjfnjffaaDoor
open Go.RowKit Go.Sort Go.ChangeShapes Go.WideShapes Go.ChangeAt
theorem open_i {W:World} {base:Nat} {r:Reach} {N:Nat} {D:Nat→Prop} {loc:Nat→Option Value} {v:Value} (hval:Value.okWide Tryd.prog W r base 3 v) : ∃ x:Int,AR N D loc W (.int x) v:=by
 unfold Value.okWide at hval
 rw [show Tryd.prog.underlying 3=some (.int .i64) by kernel_rfl] at hval
 obtain ⟨x,rfl,_⟩:=cell_int (show Tryd.prog.underlying 3=some (.int .i64) by kernel_rfl) hval
 exact ⟨x,.qB _ rfl⟩
theorem ReportOrderFree_lifted (os:Os) (started:os.Started) (H:Type) (enc:TypeId × Value→H) (F:Stop.Interp) :
  ReturnsInHanded {} Tryd.checked os 4 .any ((OpenSpec.ofChange Rows.reportOrderFreeSpec).preRow enc Tryd.prog Tryd.f4 Rows.reportOrderFreeRow.domain false Rows.reportOrderFreeRow.laid) (((OpenSpec.ofChange Rows.reportOrderFreeSpec).at F).post enc Tryd.prog Tryd.f4 false true false false):=by
 obtain ⟨places,hx⟩ : ∃ places,DataW.whole enc Tryd.prog ((World.laidAll Tryd.prog os Rows.reportOrderFreeRow.laid).forCall (fun _ _ => 0) ⟨#[],#[.agg #[.slice none 0 0,.slice none 0 0,.slice none 0 0],.slice none 0 0,.int .i64 0],[]⟩).memory Tryd.f4.params.toList Rows.reportOrderFreeSpec.vars false (#[.agg #[.slice none 0 0,.slice none 0 0,.slice none 0 0],.slice none 0 0,.int .i64 0] : Array Value).toList 8=some (([.agg [.nil,.agg [.nil,.nil]],.nil,.lit (.int .i64 0)] : List (DataW H)),[],places):=⟨[],by kernel_rfl⟩
 refine returnsInHanded_of_row (C:=Tryd.checked) (s:=(OpenSpec.ofChange Rows.reportOrderFreeSpec)) Tryd.own started (by kernel_rfl) Tryd.func4
  (witness_row_at (enc:=enc) (C:=Tryd.checked) false (World.laidAll Tryd.prog os Rows.reportOrderFreeRow.laid) #[.agg #[.slice none 0 0,.slice none 0 0,.slice none 0 0],.slice none 0 0,.int .i64 0] (World.laidAll_os _ _ _) (by kernel_rfl) (by kernel_rfl) (by kernel_rfl)
   (OpenSpec.preRow_of_cond 8 hx (by kernel_rfl) (fun k hk=>by cases hk) (by kernel_rfl) (laidMet_laidAll _ (by kernel_rfl) (by kernel_rfl)))) ?_
 intro W base args ds gs before hval0 hW _ hcond _ hL hsh _
 have hval : ∀ (j:Nat) t v,Tryd.f4.params[j]? = some t→args[j]? = some v→Value.okWide Tryd.prog W .any base t v:=hval0
 have hW':=hW
 obtain ⟨p,q,hA0,hV,rfl,hfz,hnd⟩:=hW
 have hA:DataW.TrodAll enc Tryd.prog W 0 (fun _=>true) true Tryd.f4.params.toList args.toList ds p:=hA0
 obtain ⟨rfl,rfl⟩:=trodVars_none hV
 have hB:=z1w hL hsh
 have hU:=u64G hB
 clear hval0 hA0
 rw [Tryd.params4] at hA hval
 obtain ⟨v0,v1,v2,d0,d1,d2,p0,p1,p2,rfl,rfl,rfl,k0,k1,k2⟩:=trodAll_three hA
 obtain ⟨l,ss,ps,hel,hdw,h0⟩:=z3p (N := 1000001) (loc:=locG) hU (hval 0 28 _ rfl rfl) k0
 obtain ⟨rs,h1⟩:=z3o (N := 1000001) (loc:=locG) hU (hval 1 29 _ rfl rfl) k1
 obtain ⟨m0,h2⟩:=open_i (N := 1000001) (D:=Dm (fun _=>False) locG) (loc:=locG) (hval 2 3 _ rfl rfl)
 refine Calls.mono (MemC.read (free_mem l hel ss ps hdw rs m0) z0I (fun _=>False) locG W [v0,v1,v2] (hrelG hB) ⟨rfl,fun j x v hx hv=>by
  match j,hx,hv with
  | 0,hx,hv=>cases hx;cases hv;exact h0
  | 1,hx,hv=>cases hx;cases hv;exact h1
  | 2,hx,hv=>cases hx;cases hv;exact h2⟩) ?_
 rintro e W' ⟨rfl,hb⟩
 refine ⟨_,rfl,z3d (B := 4) Tryd.laidOut (fun t ht=>?_) rfl (by kernel_rfl) hb.toBelow rfl hW' (fun ds h=>by match ds,h with | [_,_,_],_=>rfl)⟩
 have:=List.all_eq_true.1 (show (Tryd.f4.params.toList.all fun t=>Tryd.prog.readableRec t&&decide (t<Tryd.prog.types.size))=true by kernel_rfl) t ht
 simpa using this
theorem z1S:Rows.ReportOrderFreeSaid :=
 OpenClaim.holds_of_cond 4 Tryd.f4 rfl rfl rfl rfl rfl rfl rfl ⟨rfl,rfl,rfl,rfl,rfl⟩ rfl rfl rfl rfl rfl (by kernel_rfl) Tryd.func4 (by kernel_rfl)
  (of_decide_eq_true (by kernel_rfl)) (by unfold Func.isWrapper;first|(rw [if_pos (by decide +kernel)];kernel_rfl)|(rw [if_neg (by decide +kernel)];exact ⟨rfl,rfl⟩))
  (fun os started H enc _ F=>by rw [OpenClaim.pre_eq_preRow];exact ReportOrderFree_lifted os started H enc F)
theorem ReportOrderFree_holds : Rows.ReportOrderFreeCardSaid :=
  Claim7.holds_tied_plain_at .later [] _ _ _ _ z1S (fun _ h => by cases h) (by kernel_rfl) (fun _ h => by cases h) reportOrderFree_row_tie rfl ⟨rfl, rfl⟩ (by kernel_rfl) rfl
    (fun f fn hf hfn => by
      obtain rfl : f = 4 := Option.some.inj ((show Tryd.prog.funcNamed "interleave/interleavelaw40.ReportOrderFree" = some 4 by kernel_rfl).symm.trans hf) |>.symm
      obtain rfl : fn = Tryd.f4 := (Option.some.inj (Tryd.func4.symm.trans hfn)).symm
      exact ⟨by kernel_rfl, fun j t ht => by
        rw [Tryd.params4] at ht
        have hm : t ∈ [28, 29, 3] := by simpa using Array.mem_of_getElem? ht
        have hall : ([28, 29, 3].all fun u => !Tryd.prog.wantsStandIn u) = true := by kernel_rfl
        exact (show Tryd.prog.wantsStandIn t = false by simpa using List.all_eq_true.1 hall t hm)⟩)
    (by kernel_rfl)
end Go.Proofs.YtbkkginjfnjffaaDoor
