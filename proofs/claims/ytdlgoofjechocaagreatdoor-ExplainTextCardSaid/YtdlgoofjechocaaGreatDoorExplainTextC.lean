/- ExplainText: Text returns the text of a reason that fits, and the empty string for others; for all inputs. -/
import Derived.Test.YtdlgoofjechocaaGreatDoorTie
import Derived.Test.YtdlgoofjechocaaGreatDoorCards
import Derived.SevenTiedAt
import Derived.Test.YtdlgoofjechocaaGreatDoorZ14
set_option maxHeartbeats 32000000
set_option maxRecDepth 100000
set_option linter.unusedSimpArgs false
set_option linter.unusedVariables false
namespace Go.Proofs.YtdlgoofjechocaaGreatDoor
open Go.RowKit Go.Sort Go.ChangeShapes Go.WideShapes Go.ChangeAt
theorem ev_int (l:List Ev) : ∀ r ∈ l.map evC,∀ x ∈ r,∃ z,x=PV.val (.int .i64 z):=fun r hr x hx=>by
 obtain ⟨e,_,rfl⟩:=List.mem_map.1 hr
 simp only [evC,List.mem_cons,List.not_mem_nil,or_false] at hx
 rcases hx with rfl|rfl|rfl|rfl|rfl|rfl|rfl|rfl|rfl <;> exact ⟨_,rfl⟩
theorem row_int (ev:List Int) : ∀ r ∈ rowZ ev,∀ x ∈ r,∃ z,x=PV.val (.int .i64 z):=fun r hr x hx=>by
 obtain ⟨e,_,rfl⟩:=List.mem_map.1 hr
 simp only [List.mem_cons,List.not_mem_nil,or_false] at hx
 exact ⟨_,hx⟩
theorem ExplainText_lifted (os:Os) (started:os.Started) (H:Type) (enc:TypeId × Value→H) :
  ReturnsInHanded {} Tryz.checked os 3 .any (fun w args=>(Rows.explainTextSpec.pre enc Tryz.prog Tryz.f3 Rows.explainTextRow.domain false w args∧laidMetH Tryz.prog Rows.explainTextRow.laid w)∧sizedMet enc Tryz.prog Tryz.f3 (OpenSpec.ofChange Rows.explainTextSpec) false w args) (Rows.explainTextSpec.post enc Tryz.prog Tryz.f3 false true false false):=by
 refine z7E (C:=Tryz.checked) (X:=fun w _=>laidMetH Tryz.prog Rows.explainTextRow.laid w) (fun _ _ _ hh h=>h.of_heap hh) Tryz.own started (by kernel_rfl) Tryz.func3
  (ChangeSpec.witness_shaped (enc:=enc) (C:=Tryz.checked) (os:=os) (X:=fun w _=>laidMetH Tryz.prog Rows.explainTextRow.laid w) false (World.laidAll Tryz.prog os Rows.explainTextRow.laid) #[.slice none 0 0,.int .i64 0,.int .i64 0,.agg #[.bool false,.slice none 0 0]] 8 (World.laidAll_os _ _ _)
   (World.shaped_of_ZipB (by kernel_rfl) (by kernel_rfl)) (by kernel_rfl) (by kernel_rfl) (by kernel_rfl)
   (by rw [MakeChecks.laidMetH_plain _ _ _ (by kernel_rfl)];exact laidMet_laidAll _ (by kernel_rfl) (by kernel_rfl))) ?_
 intro W base args ds gs before hval0 hW hL hsh
 have hval : ∀ (j:Nat) t v,Tryz.f3.params[j]? = some t→args[j]? = some v→Value.okWide Tryz.prog W .any base t v:=hval0
 have hW':=hW
 obtain ⟨p,q,hA0,hV,rfl,hfz,hnd⟩:=hW
 have hA:DataW.TrodAll enc Tryz.prog W 0 (fun _=>true) true Tryz.f3.params.toList args.toList ds p:=hA0
 obtain ⟨rfl,rfl⟩:=trodVars_none hV
 obtain ⟨h0,h1⟩:=z8q hL hsh
 clear hval0 hA0
 rw [Tryz.params3] at hA hval
 obtain ⟨v0,v1,v2,v3,d0,d1,d2,d3,p0,p1,p2,p3,rfl,rfl,rfl,k0,k1,k2,k3⟩:=trodAll_four hA
 obtain ⟨l,hp⟩:=z8c (hval 0 22 _ rfl rfl) k0
 obtain ⟨k,_,rfl⟩:=z8Z (hval 1 3 _ rfl rfl)
 obtain ⟨m,_,rfl⟩:=z8Z (hval 2 3 _ rfl rfl)
 obtain ⟨o,ev,hr⟩:=z8i (hval 3 25 _ rfl rfl) k3
 have hD:=dmG h0 h1
 have hr2:AR 1000002 (Dm (fun _=>False) locG) locG W (rsnA o ev) v3:=by
  simp only [rsnA] at hr ⊢
  cases hr with
  | agg _ us hul hua hone =>
  refine .agg _ us hul (fun j x hx=>?_) hone
  match j,hx with
  | 0,hx=>cases hx;rw [(hua 0 _ rfl).val];exact .zV _ rfl
  | 1,hx =>
   cases hx
   cases hua 1 _ rfl with
   | p _ _ hq=>exact .p _ _ (hq.off (by omega) (row_int ev) hD)
 refine Calls.mono (law_read l k m o ev (fun _=>False) locG W [v0,.int .i64 k,.int .i64 m,v3] (hrelG h0 h1) ⟨rfl,fun j x v hx hv=>by
  match j,hx,hv with
  | 0,hx,hv=>cases hx;cases hv;exact .p _ _ (hp.off (by omega) (ev_int l) hD)
  | 1,hx,hv=>cases hx;cases hv;exact .zV _ rfl
  | 2,hx,hv=>cases hx;cases hv;exact .zV _ rfl
  | 3,hx,hv=>cases hx;cases hv;exact hr2⟩) ?_
 rintro e W' ⟨rfl,hb⟩
 refine ⟨_,rfl,law_post (B := 4) Tryz.laidOut (fun t ht=>?_) rfl (by kernel_rfl) hb.toBelow rfl hW' (fun ds h=>by match ds,h with | [_,_,_,_],_=>rfl)⟩
 have:=List.all_eq_true.1 (show (Tryz.f3.params.toList.all fun t=>Tryz.prog.readableRec t&&decide (t<Tryz.prog.types.size))=true by kernel_rfl) t ht
 simpa using this
theorem z3C:Rows.ExplainTextSaid :=
 OpenClaim.holds_of_wide 3 Tryz.f3 rfl rfl rfl rfl rfl rfl rfl ⟨rfl,rfl,rfl,rfl,rfl⟩ rfl rfl rfl rfl rfl (by kernel_rfl) Tryz.func3 (by kernel_rfl)
  (of_decide_eq_true (by kernel_rfl)) (by unfold Func.isWrapper;first|(rw [if_pos (by decide +kernel)];kernel_rfl)|(rw [if_neg (by decide +kernel)];exact ⟨rfl,rfl⟩))
  (fun os started H enc _=>ExplainText_lifted os started H enc)
theorem ExplainText_holds : Rows.ExplainTextCardSaid :=
  Claim7.holds_tied_plain_at .later [] [.data, .data, .data, .data] true (true, "52aa5158d60919e0877eb67aa0f3d78f11eab327c0519b6f16b2ae02e4aeadb4") false z3C (fun _ h => by cases h) (by kernel_rfl) (fun _ h => by cases h) explainText_row_tie rfl ⟨rfl, rfl⟩ (by kernel_rfl) rfl
    (fun f fn hf hfn => by
      obtain rfl : f = 3 := Option.some.inj ((show Tryz.prog.funcNamed "interleave/interleavelaw41.ExplainText" = some 3 by kernel_rfl).symm.trans hf) |>.symm
      obtain rfl : fn = Tryz.f3 := (Option.some.inj (Tryz.func3.symm.trans hfn)).symm
      exact ⟨by kernel_rfl, fun j t ht => by
        rw [Tryz.params3] at ht
        have hm : t ∈ [22, 3, 3, 25] := by simpa using Array.mem_of_getElem? ht
        have hall : ([22, 3, 3, 25].all fun u => !Tryz.prog.wantsStandIn u) = true := by kernel_rfl
        exact (show Tryz.prog.wantsStandIn t = false by simpa using List.all_eq_true.1 hall t hm)⟩)
    (by kernel_rfl)
end Go.Proofs.YtdlgoofjechocaaGreatDoor
