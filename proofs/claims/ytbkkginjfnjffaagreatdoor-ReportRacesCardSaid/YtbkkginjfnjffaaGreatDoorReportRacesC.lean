/- ReportRaces: the reports of all races of a list of events count every race once, and are those that are specified; for all inputs. -/
import Derived.Test.YtbkkginjfnjffaaGreatDoorTie
import Derived.Test.YtbkkginjfnjffaaGreatDoorCards
import Derived.SevenTiedAt
import Derived.Test.YtbkkginjfnjffaaGreatDoorZ14
set_option maxHeartbeats 32000000
set_option maxRecDepth 100000
set_option linter.unusedSimpArgs false
set_option linter.unusedVariables false
namespace Go.Proofs.YtbkkginjfnjffaaGreatDoor
open Go.RowKit Go.Sort Go.ChangeShapes Go.WideShapes Go.ChangeAt
theorem open_evs {H:Type} {enc:TypeId × Value→H} {W:World} {base:Nat} {D:Nat→Prop} {N:Nat} {loc:Nat→Option Value} (hD:U64s D W) {r:Reach} {v:Value} {d:DataW H} {p:List MemPlace} (hval:Value.okWide Tryz.prog W r base 22 v)
  (h:DataW.Trod enc Tryz.prog W 0 (fun _=>true) true 22 v d p) : ∃ l:List Ev,(∀ e ∈ l,EvW e)∧AR N D loc W (.p (.seq 9 (l.map evC))) v:=by
 obtain ⟨fuel,h⟩:=h
 obtain ⟨l,x,e,hp,_,hw,_⟩:=sl_pr hD (e := 33) (n := 9) (g:=evC) (p:=EvW) (by kernel_rfl) (by kernel_rfl) (fun _=>rfl) (by omega) (fun m cs y h hb=>ev_of h hb) h (Nat.le_refl _)
 rw [z4X (e := 33) (by kernel_rfl) hval e]
 exact ⟨l,hw,.p _ _ hp⟩
theorem ReportRaces_lifted (os:Os) (started:os.Started) (H:Type) (enc:TypeId × Value→H) (F:Stop.Interp) :
  ReturnsInHanded {} Tryz.checked os 3 .any ((OpenSpec.ofChange Rows.reportRacesSpec).preRow enc Tryz.prog Tryz.f3 Rows.reportRacesRow.domain false Rows.reportRacesRow.laid) (((OpenSpec.ofChange Rows.reportRacesSpec).at F).post enc Tryz.prog Tryz.f3 false true false false):=by
 obtain ⟨places,hx⟩ : ∃ places,DataW.whole enc Tryz.prog ((World.laidAll Tryz.prog os Rows.reportRacesRow.laid).forCall (fun _ _ => 0) ⟨#[],#[.slice none 0 0],[]⟩).memory Tryz.f3.params.toList Rows.reportRacesSpec.vars false (#[.slice none 0 0] : Array Value).toList 8=some (([.nil] : List (DataW H)),[],places):=⟨[],by kernel_rfl⟩
 refine returnsInHanded_of_row (C:=Tryz.checked) (s:=(OpenSpec.ofChange Rows.reportRacesSpec)) Tryz.own started (by kernel_rfl) Tryz.func3
  (witness_row_at (enc:=enc) (C:=Tryz.checked) false (World.laidAll Tryz.prog os Rows.reportRacesRow.laid) #[.slice none 0 0] (World.laidAll_os _ _ _) (by kernel_rfl) (by kernel_rfl) (by kernel_rfl)
   (OpenSpec.preRow_of_cond 8 hx (by kernel_rfl) (fun k hk=>by cases hk) (by kernel_rfl) (laidMet_laidAll _ (by kernel_rfl) (by kernel_rfl)))) ?_
 intro W base args ds gs before hval0 hW _ hcond _ hL hsh _
 have hval : ∀ (j:Nat) t v,Tryz.f3.params[j]? = some t→args[j]? = some v→Value.okWide Tryz.prog W .any base t v:=hval0
 have hW':=hW
 obtain ⟨p,q,hA0,hV,rfl,hfz,hnd⟩:=hW
 have hA:DataW.TrodAll enc Tryz.prog W 0 (fun _=>true) true Tryz.f3.params.toList args.toList ds p:=hA0
 obtain ⟨rfl,rfl⟩:=trodVars_none hV
 have hB:=z8I hL hsh
 have hU:=u64G hB
 clear hval0 hA0
 rw [Tryz.params3] at hA hval
 obtain ⟨v0,d0,rfl,rfl,k0⟩:=trodAll_one hA
 obtain ⟨l,hel,h0⟩:=open_evs (N := 1000001) (loc:=locG) hU (hval 0 22 _ rfl rfl) k0
 refine Calls.mono (MemC.read (races_mem l hel) z3j (fun _=>False) locG W [v0] (hrelG hB) ⟨rfl,fun j x v hx hv=>by
  match j,hx,hv with
  | 0,hx,hv=>cases hx;cases hv;exact h0⟩) ?_
 rintro e W' ⟨rfl,hb⟩
 refine ⟨_,rfl,law_post (B := 4) Tryz.laidOut (fun t ht=>?_) rfl (by kernel_rfl) hb.toBelow rfl hW' (fun ds h=>by match ds,h with | [_],_=>rfl)⟩
 have:=List.all_eq_true.1 (show (Tryz.f3.params.toList.all fun t=>Tryz.prog.readableRec t&&decide (t<Tryz.prog.types.size))=true by kernel_rfl) t ht
 simpa using this
theorem z2Z:Rows.ReportRacesSaid :=
 OpenClaim.holds_of_cond 3 Tryz.f3 rfl rfl rfl rfl rfl rfl rfl ⟨rfl,rfl,rfl,rfl,rfl⟩ rfl rfl rfl rfl rfl (by kernel_rfl) Tryz.func3 (by kernel_rfl)
  (of_decide_eq_true (by kernel_rfl)) (by unfold Func.isWrapper;first|(rw [if_pos (by decide +kernel)];kernel_rfl)|(rw [if_neg (by decide +kernel)];exact ⟨rfl,rfl⟩))
  (fun os started H enc _ F=>by rw [OpenClaim.pre_eq_preRow];exact ReportRaces_lifted os started H enc F)
theorem ReportRaces_holds : Rows.ReportRacesCardSaid :=
  Claim7.holds_tied_plain_at .later [] _ _ _ _ z2Z (fun _ h => by cases h) (by kernel_rfl) (fun _ h => by cases h) reportRaces_row_tie rfl ⟨rfl, rfl⟩ (by kernel_rfl) rfl
    (fun f fn hf hfn => by
      obtain rfl : f = 3 := Option.some.inj ((show Tryz.prog.funcNamed "interleave/interleavelaw40.ReportRaces" = some 3 by kernel_rfl).symm.trans hf) |>.symm
      obtain rfl : fn = Tryz.f3 := (Option.some.inj (Tryz.func3.symm.trans hfn)).symm
      exact ⟨by kernel_rfl, fun j t ht => by
        rw [Tryz.params3] at ht
        have hm : t ∈ [22] := by simpa using Array.mem_of_getElem? ht
        have hall : ([22].all fun u => !Tryz.prog.wantsStandIn u) = true := by kernel_rfl
        exact (show Tryz.prog.wantsStandIn t = false by simpa using List.all_eq_true.1 hall t hm)⟩)
    (by kernel_rfl)
end Go.Proofs.YtbkkginjfnjffaaGreatDoor
