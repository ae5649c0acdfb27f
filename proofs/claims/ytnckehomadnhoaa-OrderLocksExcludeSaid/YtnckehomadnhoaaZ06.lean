/- Texts Pv, Pw, Ph. -/
import Derived.Test.YtnckehomadnhoaaZ05
namespace Go.Proofs.Ytnckehomadnhoaa
open Go.RowKit Go.Sort Go.Maps
set_option linter.unusedSimpArgs false
set_option linter.unusedVariables false
set_option maxHeartbeats 16000000 in
set_option maxRecDepth 100000 in
theorem rels_ok (B:Nat) (hB:B=2000010) (l:List Ev) (hl:l.length ≤ 1000000) (hI : ∀ e ∈ l,inI e.g∧inI e.obj∧inI e.off∧(e.kind=14→inI e.k)) (H:List Ed→Hp) (hH : ∀ acc,HpOk 2000000 (H acc)) (y:Nat) (hy:y < 2000000) (hv:Value) (hh : ∀ acc,∃ o,(H acc).lookup y=some o∧o.handle=some hv)
    (hyld : ∀ acc x,(∃ r,relsU l l.length=acc ++ x :: r) → ∃ lr sp fr,(H acc).lookup y=some (.lrec lr sp fr)∧YldC Try.prog lr 2000000 (H acc) [.agg ((edC x).map .p)] fun hp' r=>hp' = H (acc ++ [x])∧r = .bool true) :
    MemC Try.prog 41 2000000 (H []) [.own y,.elt [.seq 9 (l.map evC)] 0] fun hp' r=>hp' = H (relsU l l.length)∧r = .tup []:=by
  refine MemC.of Try.func41 rfl 190 rfl (by decide) ?_;simp only [startM,frOf]
  have hy4:y < 5000004:=by omega
  have hy6:y < 5000006:=by omega
  have hy7:y < 5000007:=by omega
  refine T.weak (Weak.upN _ 5000000 (by simp)) ?_
  repeat' (first|refine T.seqK fun K hK=>?_|refine T.block ?_|(refine T.reg (by kernel_rfl) fun K' hK'=>?_;simp only [startSt,frOf,List.map_cons,List.map_nil];(repeat' (first|(with_reducible refine WL.fin ?_;refine hK' _ ?_;clear hK' K')|((with_reducible refine WL.step fun K2 hK2=>?_);simp only [simprocAttr,implies_true,amz,tys];(repeat' (first|with_reducible (first|(refine hK2 _ ?_;clear hK2 K2)|refine And.intro ?_ ?_|intro hb) ))))))|refine T.skip ?_|refine T.exit ?_|refine T.condT rfl ?_|refine T.condF rfl ?_|refine T.cond rfl (fun hc=>?_) (fun hc=>?_)|refine T.ret ?_|simp only [ThenA,InBlock,reduceIte,Nat.reduceEqDiff]|((repeat ((fail_if_success (refine hK _ ?_));clear hK K));refine hK _ ?_;clear hK K))
  refine T.weak (Weak.toM _ 5000002 none Try.prog 69 0 (by simp only [lk_cons,Nat.reduceEqDiff,reduceIte])) ?_
  simp only [setHp,List.map_cons,List.map_nil,Nat.reduceEqDiff,reduceIte,(hH []).set,Nat.reduceLeDiff]
  refine T.loopK (fun s:It=>⟨[(0,.own y),(1,.elt [.seq 9 (l.map evC)] 0),(3,.own 5000000),(4,.own 5000001),(5,.own 5000002),(6,.own 5000003),(25,.p (.seq 9 (l.map evC))),(26,.int l.length),(27,.int s.j)],hpI B l s (H (relsU l s.j)),190,5000004⟩) (ItOk l) (fun s=>l.length - s.j) ⟨0,fun _ _=>none,[],0,0,0,0⟩ ?_ ?_ ?_
  · exact ⟨Nat.zero_le _,Nat.zero_le _,fun o f i h=>(by cases h),fun o f _=>rfl,fun o f o' f' i h=>(by cases h),Nat.le_refl _,Nat.le_refl _,Nat.zero_le _,Nat.le_refl _⟩
  · refine Weak.frm _ _ _ _ (fun t=>?_) (by simp only [wks,reduceIte,Nat.reduceEqDiff,implies_true,and_self,Int.natCast_zero,hy4]) (by simp only [wks,AV.okB,Nat.reduceLT,decide_true,List.all_cons,List.all_nil,Bool.and_self,Int.natCast_zero,hy4]) ?_
    · have e1:(inM nI fun g=>lastI l (fun d=>d.g == g) 0)=fun _=>none:=inM_none nI
      have e2:(inM nI fun g=>lastI l (startsAt g) 0)=fun _=>none:=inM_none nI
      have e3:atM B (fun _ _=>none)=fun _=>none:=plA_none
      have e4:(plM nI fun o f=>lastI l (wrAt o f) 0)=fun _=>none:=plM_none nI
      simp only [hpI,e1,e2,e3,e4,List.map_nil,mat,List.nil_append,relsU,lk_cons]
      repeat' split
      all_goals first|rfl|omega
    · exact hpI_ok hB hl ⟨Nat.zero_le _,Nat.zero_le _,fun o f i h=>(by cases h),fun o f _=>rfl,fun o f o' f' i h=>(by cases h),Nat.le_refl _,Nat.le_refl _,Nat.zero_le _,Nat.le_refl _⟩ (hH _)
  intro s hs KL hKL
  have hR:(s.R.map rowI).length ≤ 1000000:=by have:=hs.R;have:=hs.j;simp;omega
  have ht:=hH (relsU l s.j)
  by_cases hlt:s.j < l.length
  · obtain ⟨e,hx⟩:=at_lt hlt
    have hd:decide ((s.j:Int) < (l.length:Int))=true:=by simpa using hlt
    simp only [hpI]
    obtain ⟨rest,hrest⟩ : ∃ r,relsU l l.length=relsU l s.j ++ (relsA l e s.j ++ (relsI l e s.j (atL l e.obj e.off s.j) ++ (relsW l e s.j ++ r))):=by
      obtain ⟨r,hr⟩:=relsU_pre (l:=l) l.length (s.j + 1) (by omega)
      exact ⟨r,by rw [hr,relsU_succ hx,relsJ];simp only [List.append_assoc]⟩
    obtain ⟨acc,hacc⟩ : ∃ acc,acc=relsU l s.j:=⟨_,rfl⟩
    rw [← hacc] at hrest ht ⊢
    obtain ⟨iG,iO,iF,iK⟩:=hI e (List.mem_of_getElem? hx)
    repeat' (first|refine T.seqK fun K hK=>?_|refine T.block ?_|refine T.skip ?_|refine T.exit ?_|refine T.condT rfl ?_|refine T.condF rfl ?_|refine T.cond rfl (fun hc=>?_) (fun hc=>?_)|refine T.ret ?_|simp only [ThenA,InBlock,reduceIte,Nat.reduceEqDiff]|((repeat ((fail_if_success (refine hK _ ?_));clear hK K));refine hK _ ?_;clear hK K))
    (refine T.reg (by kernel_rfl) fun K' hK'=>?_;simp only [startSt,frOf,List.map_cons,List.map_nil];(repeat' (first|(with_reducible refine WL.fin ?_;refine hK' _ ?_;clear hK' K')|((with_reducible refine WL.step fun K2 hK2=>?_);simp only [simprocAttr,implies_true,amz,tys,hx,hd,evC,tl_none hB hR ht,tl_set hB hR ht,hR];(repeat' (first|with_reducible (first|(refine hK2 _ ?_;clear hK2 K2)|refine And.intro ?_ ?_|intro hb) )))));all_goals ((try simp only [ThenA,InBlock,reduceIte,Nat.reduceEqDiff]);(try ((repeat ((fail_if_success (refine hK _ ?_));clear hK K));refine hK _ ?_;clear hK K))))
    repeat' (first|refine T.seqK fun K hK=>?_|refine T.block ?_|refine T.skip ?_|refine T.exit ?_|refine T.condT rfl ?_|refine T.condF rfl ?_|refine T.cond rfl (fun hc=>?_) (fun hc=>?_)|refine T.ret ?_|simp only [ThenA,InBlock,reduceIte,Nat.reduceEqDiff]|((repeat ((fail_if_success (refine hK _ ?_));clear hK K));refine hK _ ?_;clear hK K))
    (refine T.reg (by kernel_rfl) fun K' hK'=>?_;simp only [startSt,frOf,List.map_cons,List.map_nil];(repeat' (first|(with_reducible refine WL.fin ?_;refine hK' _ ?_;clear hK' K')|((with_reducible refine WL.step fun K2 hK2=>?_);simp only [simprocAttr,implies_true,amz,tys,hx,hd,evC,tl_none hB hR ht,tl_set hB hR ht,hR];(repeat' (first|with_reducible (first|(refine hK2 _ ?_;clear hK2 K2)|refine And.intro ?_ ?_|intro hb) )))));all_goals ((try simp only [ThenA,InBlock,reduceIte,Nat.reduceEqDiff]);(try ((repeat ((fail_if_success (refine hK _ ?_));clear hK K));refine hK _ ?_;clear hK K))))
    repeat' (first|refine T.seqK fun K hK=>?_|refine T.block ?_|refine T.skip ?_|refine T.exit ?_|refine T.condT rfl ?_|refine T.condF rfl ?_|refine T.cond rfl (fun hc=>?_) (fun hc=>?_)|refine T.ret ?_|simp only [ThenA,InBlock,reduceIte,Nat.reduceEqDiff]|((repeat ((fail_if_success (refine hK _ ?_));clear hK K));refine hK _ ?_;clear hK K))
    (refine T.reg (by kernel_rfl) fun K' hK'=>?_;simp only [startSt,frOf,List.map_cons,List.map_nil];(repeat' (first|(with_reducible refine WL.fin ?_;refine hK' _ ?_;clear hK' K')|((with_reducible refine WL.step fun K2 hK2=>?_);simp only [simprocAttr,implies_true,amz,tys,hx,hd,evC,tl_none hB hR ht,tl_set hB hR ht,hR];(repeat' (first|with_reducible (first|(refine hK2 _ ?_;clear hK2 K2)|refine And.intro ?_ ?_|intro hb) )))));all_goals ((try simp only [ThenA,InBlock,reduceIte,Nat.reduceEqDiff]);(try ((repeat ((fail_if_success (refine hK _ ?_));clear hK K));refine hK _ ?_;clear hK K))))
    refine T.seqK fun K hK=>?_
    suffices hmid : ∀ s',Weak s' ⟨frI l y s.j,ownI B l e s ++ H (acc ++ relsA l e s.j),190,5000006⟩→K s' by
      clear hK
      have hK:=hmid
      clear hmid
      cases hA:lastI l (fun d=>d.g == e.g) s.j with
      | some i =>
        have hrA:relsA l e s.j = [⟨i,s.j,0⟩]:=by rw [relsA,hA]
        rw [hrA] at hK hrest
        obtain ⟨lr,sp,fr0,hlk0,hyc0⟩:=hyld acc ⟨i,s.j,0⟩ ⟨_,hrest⟩
        simp only [edC,List.map_cons,List.map_nil] at hyc0
        repeat' (first|refine T.seqK fun K hK=>?_|refine T.block ?_|refine T.skip ?_|refine T.exit ?_|refine T.condT rfl ?_|refine T.condF rfl ?_|refine T.cond rfl (fun hc=>?_) (fun hc=>?_)|refine T.ret ?_|simp only [ThenA,InBlock,reduceIte,Nat.reduceEqDiff]|((repeat ((fail_if_success (refine hK _ ?_));clear hK K));refine hK _ ?_;clear hK K))
        (refine T.reg (by kernel_rfl) fun K' hK'=>?_;simp only [startSt,frOf,List.map_cons,List.map_nil];(repeat' (first|(with_reducible refine WL.fin ?_;refine hK' _ ?_;clear hK' K')|((with_reducible refine WL.step fun K2 hK2=>?_);simp only [simprocAttr,implies_true,amz,tys,hA,keyed_3,keyOf_3 iG,inM_at,nI,tl_none hB hR ht,tl_set hB hR ht,hR,Option.isSome_some];(repeat' (first|with_reducible (first|(refine hK2 _ ?_;clear hK2 K2)|refine And.intro ?_ ?_|intro hb) )))));all_goals ((try simp only [ThenA,InBlock,reduceIte,Nat.reduceEqDiff]);(try ((repeat ((fail_if_success (refine hK _ ?_));clear hK K));refine hK _ ?_;clear hK K))))
        repeat' (first|refine T.seqK fun K hK=>?_|refine T.block ?_|refine T.skip ?_|refine T.exit ?_|refine T.condT rfl ?_|refine T.condF rfl ?_|refine T.cond rfl (fun hc=>?_) (fun hc=>?_)|refine T.ret ?_|simp only [ThenA,InBlock,reduceIte,Nat.reduceEqDiff]|((repeat ((fail_if_success (refine hK _ ?_));clear hK K));refine hK _ ?_;clear hK K))
        (refine T.reg (by kernel_rfl) fun K' hK'=>?_;simp only [startSt,frOf,List.map_cons,List.map_nil];(repeat' (first|(with_reducible refine WL.fin ?_;refine hK' _ ?_;clear hK' K')|((with_reducible refine WL.step fun K2 hK2=>?_);simp only [simprocAttr,implies_true,amz,tys];(repeat' (first|with_reducible (first|(refine hK2 _ ?_;clear hK2 K2)|refine And.intro ?_ ?_|intro hb) )))));all_goals ((try simp only [ThenA,InBlock,reduceIte,Nat.reduceEqDiff]);(try ((repeat ((fail_if_success (refine hK _ ?_));clear hK K));refine hK _ ?_;clear hK K))))
        repeat' (first|refine T.seqK fun K hK=>?_|refine T.block ?_|refine T.skip ?_|refine T.exit ?_|refine T.condT rfl ?_|refine T.condF rfl ?_|refine T.cond rfl (fun hc=>?_) (fun hc=>?_)|refine T.ret ?_|simp only [ThenA,InBlock,reduceIte,Nat.reduceEqDiff]|((repeat ((fail_if_success (refine hK _ ?_));clear hK K));refine hK _ ?_;clear hK K))
        refine T.regI (by kernel_rfl) fun K' hK'=>?_;simp only [List.map_cons,List.map_nil]
        iterate 4 ((with_reducible refine WLI.stepP fun K2 hK2=>?_);simp only [simprocAttr,implies_true,amz,tys];(repeat' (first|with_reducible (first|(refine hK2 _ ?_;clear hK2 K2)|refine And.intro ?_ ?_|intro hb))))
        (with_reducible refine WLI.stepY fun K2 hK2=>?_);simp only [WSY,WY,simprocAttr,implies_true,amz,tys];(refine CallY.of 2000000 (ownI B l e s) (H (acc)) (H (acc ++ [⟨i,s.j,0⟩])) _ _ _ rfl (ownI_ge hB _ _ _) ?_ (hH _) hyc0 hlk0 (keptH hh _ _) (by decide) (by simp [AV.okB,AV.okB_agg]) ?_);(focus (simp only [ownI_keep hB,List.map_cons,AO.keep_box,AV.keep_p,List.map_nil,evC];done));refine hK2 _ ?_;clear hK2 K2;(refine WLI.weak (Weak.hpe _ (ownI B l e s ++ H (acc ++ [⟨i,s.j,0⟩])) (lk_swap (ownI_ge hB _ _ _) (hH _))) ?_);simp only [List.map_cons,List.map_nil,AV.keep_own,AV.keep_ptr,AV.keep_rptr,AV.keep_pre,AV.keep_p,AV.keep_elt,AV.keep_junk,AV.keep_cap0,AV.keep_fn,AV.keep_agg,AV.keep_tup,Nat.reduceLeDiff,true_or,reduceIte,List.mem_singleton,or_true,ownI,List.cons_append,put_some,tys]
        (with_reducible refine WLI.stepP fun K2 hK2=>?_);simp only [simprocAttr,implies_true,amz,tys];(repeat' (first|with_reducible (first|(refine hK2 _ ?_;clear hK2 K2)|refine And.intro ?_ ?_|intro hb)))
        (with_reducible refine WLI.fin ?_);refine hK' _ ?_;clear hK' K';(try simp only [ThenA,InBlock,reduceIte,Nat.reduceEqDiff]);(try ((repeat ((fail_if_success (refine hK _ ?_));clear hK K));refine hK _ ?_;clear hK K))
        repeat' (first|refine T.seqK fun K hK=>?_|refine T.block ?_|(refine T.reg (by kernel_rfl) fun K' hK'=>?_;simp only [startSt,frOf,List.map_cons,List.map_nil];(repeat' (first|(with_reducible refine WL.fin ?_;refine hK' _ ?_;clear hK' K')|((with_reducible refine WL.step fun K2 hK2=>?_);simp only [simprocAttr,implies_true,amz,tys];(repeat' (first|with_reducible (first|(refine hK2 _ ?_;clear hK2 K2)|refine And.intro ?_ ?_|intro hb) ))))))|refine T.skip ?_|refine T.exit ?_|refine T.condT rfl ?_|refine T.condF rfl ?_|refine T.cond rfl (fun hc=>?_) (fun hc=>?_)|refine T.ret ?_|simp only [ThenA,InBlock,reduceIte,Nat.reduceEqDiff]|((repeat ((fail_if_success (refine hK _ ?_));clear hK K));refine hK _ ?_;clear hK K))
        refine Weak.frm _ _ _ _ (fun t=>?_) (by simp only [wks,reduceIte,Nat.reduceEqDiff,implies_true,and_self,frI,hy6,]) (by simp only [wks,AV.okB,Nat.reduceLT,decide_true,List.all_cons,List.all_nil,Bool.and_self,frI,hy6,]) ?_;(focus (first|rfl|(simp only [ownI,List.cons_append];done)));exact midI_ok hB hl hs (hH _)
      | none =>
        cases hS:lastI l (startsAt e.g) s.j with
        | some i =>
          have hrA:relsA l e s.j = [⟨i,s.j,e.kind⟩]:=by rw [relsA,hA,hS]
          rw [hrA] at hK hrest
          obtain ⟨lr,sp,fr0,hlk0,hyc0⟩:=hyld acc ⟨i,s.j,e.kind⟩ ⟨_,hrest⟩
          simp only [edC,List.map_cons,List.map_nil] at hyc0
          repeat' (first|refine T.seqK fun K hK=>?_|refine T.block ?_|refine T.skip ?_|refine T.exit ?_|refine T.condT rfl ?_|refine T.condF rfl ?_|refine T.cond rfl (fun hc=>?_) (fun hc=>?_)|refine T.ret ?_|simp only [ThenA,InBlock,reduceIte,Nat.reduceEqDiff]|((repeat ((fail_if_success (refine hK _ ?_));clear hK K));refine hK _ ?_;clear hK K))
          (refine T.reg (by kernel_rfl) fun K' hK'=>?_;simp only [startSt,frOf,List.map_cons,List.map_nil];(repeat' (first|(with_reducible refine WL.fin ?_;refine hK' _ ?_;clear hK' K')|((with_reducible refine WL.step fun K2 hK2=>?_);simp only [simprocAttr,implies_true,amz,tys,hA,keyed_3,keyOf_3 iG,inM_at,nI,tl_none hB hR ht,tl_set hB hR ht,Option.isSome_none];(repeat' (first|with_reducible (first|(refine hK2 _ ?_;clear hK2 K2)|refine And.intro ?_ ?_|intro hb) )))));all_goals ((try simp only [ThenA,InBlock,reduceIte,Nat.reduceEqDiff]);(try ((repeat ((fail_if_success (refine hK _ ?_));clear hK K));refine hK _ ?_;clear hK K))))
          repeat' (first|refine T.seqK fun K hK=>?_|refine T.block ?_|refine T.skip ?_|refine T.exit ?_|refine T.condT rfl ?_|refine T.condF rfl ?_|refine T.cond rfl (fun hc=>?_) (fun hc=>?_)|refine T.ret ?_|simp only [ThenA,InBlock,reduceIte,Nat.reduceEqDiff]|((repeat ((fail_if_success (refine hK _ ?_));clear hK K));refine hK _ ?_;clear hK K))
          (refine T.reg (by kernel_rfl) fun K' hK'=>?_;simp only [startSt,frOf,List.map_cons,List.map_nil];(repeat' (first|(with_reducible refine WL.fin ?_;refine hK' _ ?_;clear hK' K')|((with_reducible refine WL.step fun K2 hK2=>?_);simp only [simprocAttr,implies_true,amz,tys];(repeat' (first|with_reducible (first|(refine hK2 _ ?_;clear hK2 K2)|refine And.intro ?_ ?_|intro hb) )))));all_goals ((try simp only [ThenA,InBlock,reduceIte,Nat.reduceEqDiff]);(try ((repeat ((fail_if_success (refine hK _ ?_));clear hK K));refine hK _ ?_;clear hK K))))
          repeat' (first|refine T.seqK fun K hK=>?_|refine T.block ?_|refine T.skip ?_|refine T.exit ?_|refine T.condT rfl ?_|refine T.condF rfl ?_|refine T.cond rfl (fun hc=>?_) (fun hc=>?_)|refine T.ret ?_|simp only [ThenA,InBlock,reduceIte,Nat.reduceEqDiff]|((repeat ((fail_if_success (refine hK _ ?_));clear hK K));refine hK _ ?_;clear hK K))
          (refine T.reg (by kernel_rfl) fun K' hK'=>?_;simp only [startSt,frOf,List.map_cons,List.map_nil];(repeat' (first|(with_reducible refine WL.fin ?_;refine hK' _ ?_;clear hK' K')|((with_reducible refine WL.step fun K2 hK2=>?_);simp only [simprocAttr,implies_true,amz,tys,hS,keyed_3,keyOf_3 iG,inM_at,nI,tl_none hB hR ht,tl_set hB hR ht,Option.isSome_some];(repeat' (first|with_reducible (first|(refine hK2 _ ?_;clear hK2 K2)|refine And.intro ?_ ?_|intro hb) )))));all_goals ((try simp only [ThenA,InBlock,reduceIte,Nat.reduceEqDiff]);(try ((repeat ((fail_if_success (refine hK _ ?_));clear hK K));refine hK _ ?_;clear hK K))))
          repeat' (first|refine T.seqK fun K hK=>?_|refine T.block ?_|refine T.skip ?_|refine T.exit ?_|refine T.condT rfl ?_|refine T.condF rfl ?_|refine T.cond rfl (fun hc=>?_) (fun hc=>?_)|refine T.ret ?_|simp only [ThenA,InBlock,reduceIte,Nat.reduceEqDiff]|((repeat ((fail_if_success (refine hK _ ?_));clear hK K));refine hK _ ?_;clear hK K))
          (refine T.reg (by kernel_rfl) fun K' hK'=>?_;simp only [startSt,frOf,List.map_cons,List.map_nil];(repeat' (first|(with_reducible refine WL.fin ?_;refine hK' _ ?_;clear hK' K')|((with_reducible refine WL.step fun K2 hK2=>?_);simp only [simprocAttr,implies_true,amz,tys];(repeat' (first|with_reducible (first|(refine hK2 _ ?_;clear hK2 K2)|refine And.intro ?_ ?_|intro hb) )))));all_goals ((try simp only [ThenA,InBlock,reduceIte,Nat.reduceEqDiff]);(try ((repeat ((fail_if_success (refine hK _ ?_));clear hK K));refine hK _ ?_;clear hK K))))
          repeat' (first|refine T.seqK fun K hK=>?_|refine T.block ?_|refine T.skip ?_|refine T.exit ?_|refine T.condT rfl ?_|refine T.condF rfl ?_|refine T.cond rfl (fun hc=>?_) (fun hc=>?_)|refine T.ret ?_|simp only [ThenA,InBlock,reduceIte,Nat.reduceEqDiff]|((repeat ((fail_if_success (refine hK _ ?_));clear hK K));refine hK _ ?_;clear hK K))
          refine T.regI (by kernel_rfl) fun K' hK'=>?_;simp only [List.map_cons,List.map_nil]
          iterate 6 ((with_reducible refine WLI.stepP fun K2 hK2=>?_);simp only [simprocAttr,implies_true,amz,tys];(repeat' (first|with_reducible (first|(refine hK2 _ ?_;clear hK2 K2)|refine And.intro ?_ ?_|intro hb))))
          (with_reducible refine WLI.stepY fun K2 hK2=>?_);simp only [WSY,WY,simprocAttr,implies_true,amz,tys];(refine CallY.of 2000000 (ownI B l e s) (H (acc)) (H (acc ++ [⟨i,s.j,e.kind⟩])) _ _ _ rfl (ownI_ge hB _ _ _) ?_ (hH _) hyc0 hlk0 (keptH hh _ _) (by decide) (by simp [AV.okB,AV.okB_agg]) ?_);(focus (simp only [ownI_keep hB,List.map_cons,AO.keep_box,AV.keep_p,List.map_nil,evC];done));refine hK2 _ ?_;clear hK2 K2;(refine WLI.weak (Weak.hpe _ (ownI B l e s ++ H (acc ++ [⟨i,s.j,e.kind⟩])) (lk_swap (ownI_ge hB _ _ _) (hH _))) ?_);simp only [List.map_cons,List.map_nil,AV.keep_own,AV.keep_ptr,AV.keep_rptr,AV.keep_pre,AV.keep_p,AV.keep_elt,AV.keep_junk,AV.keep_cap0,AV.keep_fn,AV.keep_agg,AV.keep_tup,Nat.reduceLeDiff,true_or,reduceIte,List.mem_singleton,or_true,ownI,List.cons_append,put_some,tys]
          (with_reducible refine WLI.stepP fun K2 hK2=>?_);simp only [simprocAttr,implies_true,amz,tys];(repeat' (first|with_reducible (first|(refine hK2 _ ?_;clear hK2 K2)|refine And.intro ?_ ?_|intro hb)))
          (with_reducible refine WLI.fin ?_);refine hK' _ ?_;clear hK' K';(try simp only [ThenA,InBlock,reduceIte,Nat.reduceEqDiff]);(try ((repeat ((fail_if_success (refine hK _ ?_));clear hK K));refine hK _ ?_;clear hK K))
          repeat' (first|refine T.seqK fun K hK=>?_|refine T.block ?_|(refine T.reg (by kernel_rfl) fun K' hK'=>?_;simp only [startSt,frOf,List.map_cons,List.map_nil];(repeat' (first|(with_reducible refine WL.fin ?_;refine hK' _ ?_;clear hK' K')|((with_reducible refine WL.step fun K2 hK2=>?_);simp only [simprocAttr,implies_true,amz,tys];(repeat' (first|with_reducible (first|(refine hK2 _ ?_;clear hK2 K2)|refine And.intro ?_ ?_|intro hb) ))))))|refine T.skip ?_|refine T.exit ?_|refine T.condT rfl ?_|refine T.condF rfl ?_|refine T.cond rfl (fun hc=>?_) (fun hc=>?_)|refine T.ret ?_|simp only [ThenA,InBlock,reduceIte,Nat.reduceEqDiff]|((repeat ((fail_if_success (refine hK _ ?_));clear hK K));refine hK _ ?_;clear hK K))
          refine Weak.frm _ _ _ _ (fun t=>?_) (by simp only [wks,reduceIte,Nat.reduceEqDiff,implies_true,and_self,frI,hy6,]) (by simp only [wks,AV.okB,Nat.reduceLT,decide_true,List.all_cons,List.all_nil,Bool.and_self,frI,hy6,]) ?_;(focus (first|rfl|(simp only [ownI,List.cons_append];done)));exact midI_ok hB hl hs (hH _)
        | none =>
          have hrA:relsA l e s.j = []:=by rw [relsA,hA,hS]
          rw [hrA,List.append_nil] at hK
          repeat' (first|refine T.seqK fun K hK=>?_|refine T.block ?_|(refine T.reg (by kernel_rfl) fun K' hK'=>?_;simp only [startSt,frOf,List.map_cons,List.map_nil];(repeat' (first|(with_reducible refine WL.fin ?_;refine hK' _ ?_;clear hK' K')|((with_reducible refine WL.step fun K2 hK2=>?_);simp only [simprocAttr,implies_true,amz,tys,hA,hS,keyed_3,keyOf_3 iG,inM_at,nI,tl_none hB hR ht,tl_set hB hR ht,Option.isSome_none];(repeat' (first|with_reducible (first|(refine hK2 _ ?_;clear hK2 K2)|refine And.intro ?_ ?_|intro hb) ))))))|refine T.skip ?_|refine T.exit ?_|refine T.condT rfl ?_|refine T.condF rfl ?_|refine T.cond rfl (fun hc=>?_) (fun hc=>?_)|refine T.ret ?_|simp only [ThenA,InBlock,reduceIte,Nat.reduceEqDiff]|((repeat ((fail_if_success (refine hK _ ?_));clear hK K));refine hK _ ?_;clear hK K))
          refine Weak.frm _ _ _ _ (fun t=>?_) (by simp only [wks,reduceIte,Nat.reduceEqDiff,implies_true,and_self,frI,hy6,]) (by simp only [wks,AV.okB,Nat.reduceLT,decide_true,List.all_cons,List.all_nil,Bool.and_self,frI,hy6,]) ?_;(focus (first|rfl|(simp only [ownI,List.cons_append];done)));exact midI_ok hB hl hs (hH _)
    intro s' hw
    refine hK s' ?_
    refine T.weak hw ?_
    clear hK hw s' K ht
    obtain ⟨acc1,hacc1⟩ : ∃ a,a=acc ++ relsA l e s.j:=⟨_,rfl⟩
    rw [← hacc1]
    rw [← List.append_assoc,← hacc1] at hrest
    have ht:=hH acc1
    refine T.seqK fun K hK=>?_
    suffices hmid : ∀ s',Weak s' ⟨frI l y s.j,ownI B l e s ++ H (acc1 ++ relsI l e s.j (atL l e.obj e.off s.j)),190,5000006⟩→K s' by
      clear hK
      have hK:=hmid
      clear hmid
      simp only [frI,ownI,List.cons_append]
      cases hM:s.m e.obj e.off with
      | none =>
        have hrI:relsI l e s.j (atL l e.obj e.off s.j) = []:=by rw [hs.none _ _ hM];rfl
        rw [hrI,List.append_nil] at hK
        have hat:atM B s.m (kyl e.obj e.off)=none:=by rw [atM,plA_at _ iO iF,hM];rfl
        repeat' (first|refine T.seqK fun K hK=>?_|refine T.block ?_|(refine T.reg (by kernel_rfl) fun K' hK'=>?_;simp only [startSt,frOf,List.map_cons,List.map_nil];(repeat' (first|(with_reducible refine WL.fin ?_;refine hK' _ ?_;clear hK' K')|((with_reducible refine WL.step fun K2 hK2=>?_);simp only [simprocAttr,implies_true,amz,tys,keyed_69,keyOf_69 iO iF,hat,tl_none hB hR ht,tl_set hB hR ht];(repeat' (first|with_reducible (first|(refine hK2 _ ?_;clear hK2 K2)|refine And.intro ?_ ?_|intro hb) ))))))|refine T.skip ?_|refine T.exit ?_|refine T.condT rfl ?_|refine T.condF rfl ?_|refine T.cond rfl (fun hc=>?_) (fun hc=>?_)|refine T.ret ?_|simp only [ThenA,InBlock,reduceIte,Nat.reduceEqDiff]|((repeat ((fail_if_success (refine hK _ ?_));clear hK K));refine hK _ ?_;clear hK K))
        refine T.loopK (fun q:Nat=>⟨frI l y s.j ++ [(70,.int 0),(71,.int 0)],ownI B l e s ++ H acc1,190,5000006⟩) (fun q=>q=0) (fun q => 0) 0 rfl (by refine Weak.frm _ _ _ _ (fun t=>?_) (by simp only [wks,reduceIte,Nat.reduceEqDiff,implies_true,and_self,frI,hy6,List.cons_append,List.nil_append]) (by simp only [wks,AV.okB,Nat.reduceLT,decide_true,List.all_cons,List.all_nil,Bool.and_self,frI,hy6,List.cons_append,List.nil_append]) ?_;(focus (first|rfl|(simp only [ownI,List.cons_append];done)));exact midI_ok hB hl hs (hH _)) ?_
        rintro q rfl KL hKL
        simp only [frI,ownI,List.cons_append,List.nil_append]
        have hd0:decide ((0:Int) < 0)=false:=by decide
        repeat' (first|refine T.seqK fun K hK=>?_|refine T.block ?_|(refine T.reg (by kernel_rfl) fun K' hK'=>?_;simp only [startSt,frOf,List.map_cons,List.map_nil];(repeat' (first|(with_reducible refine WL.fin ?_;refine hK' _ ?_;clear hK' K')|((with_reducible refine WL.step fun K2 hK2=>?_);simp only [simprocAttr,implies_true,amz,tys,hd0];(repeat' (first|with_reducible (first|(refine hK2 _ ?_;clear hK2 K2)|refine And.intro ?_ ?_|intro hb) ))))))|refine T.skip ?_|refine T.exit ?_|refine T.condT rfl ?_|refine T.condF rfl ?_|refine T.cond rfl (fun hc=>?_) (fun hc=>?_)|refine T.ret ?_|simp only [ThenA,InBlock,reduceIte,Nat.reduceEqDiff]|((repeat ((fail_if_success (refine hK _ ?_));clear hK K));refine hK _ ?_;clear hK K))
        refine Weak.frm _ _ _ _ (fun t=>?_) (by simp only [wks,reduceIte,Nat.reduceEqDiff,implies_true,and_self,frI,hy6,]) (by simp only [wks,AV.okB,Nat.reduceLT,decide_true,List.all_cons,List.all_nil,Bool.and_self,frI,hy6,]) ?_;(focus (first|rfl|(simp only [ownI,List.cons_append];done)));exact midI_ok hB hl hs (hH _)
      | some i =>
        obtain ⟨r,hr⟩ : ∃ r,r=atL l e.obj e.off s.j:=⟨_,rfl⟩
        have hrow:=hs.row _ _ _ hM
        rw [← hr] at hrow hK
        have hrw:=tl_row (B:=B) ht (rowsI_at hrow)
        have hat:atM B s.m (kyl e.obj e.off)=some (.own (i + B)):=by rw [atM,plA_at _ iO iF,hM];rfl
        have hi6:i < 1000000:=by have:=(List.getElem?_eq_some_iff.1 hrow).1;have:=hs.R;have:=hs.j;omega
        have n0:(i + B=5000000)=False:=by simp;omega
        have n1:(i + B=5000001)=False:=by simp;omega
        have n2:(i + B=5000002)=False:=by simp;omega
        have n3:(i + B=5000003)=False:=by simp;omega
        have n4:(i + B=5000004)=False:=by simp;omega
        have n5:(i + B=5000005)=False:=by simp;omega
        have n6:(i + B=5000006)=False:=by simp;omega
        have hi7:(i + B < 5000006)=True:=by simp;omega
        have hi8:(i + B < 5000007)=True:=by simp;omega
        have hiB:(2000000≤i + B)=True:=by simp;omega
        have hrn:r.length ≤ 1000000:=by
          rw [hr]
          have:=List.length_filter_le (fun k=>(l[k]?).any (pubAt e.obj e.off)) (List.range s.j)
          rw [List.length_range] at this
          have h2:=hs.j
          unfold atL
          omega
        repeat' (first|refine T.seqK fun K hK=>?_|refine T.block ?_|(refine T.reg (by kernel_rfl) fun K' hK'=>?_;simp only [startSt,frOf,List.map_cons,List.map_nil];(repeat' (first|(with_reducible refine WL.fin ?_;refine hK' _ ?_;clear hK' K')|((with_reducible refine WL.step fun K2 hK2=>?_);simp only [simprocAttr,implies_true,amz,tys,keyed_69,keyOf_69 iO iF,hat,tl_none hB hR ht,tl_set hB hR ht,hrw,rowI_len,n0,n1,n2,n3,n4,n5,n6];(repeat' (first|with_reducible (first|(refine hK2 _ ?_;clear hK2 K2)|refine And.intro ?_ ?_|intro hb) ))))))|refine T.skip ?_|refine T.exit ?_|refine T.condT rfl ?_|refine T.condF rfl ?_|refine T.cond rfl (fun hc=>?_) (fun hc=>?_)|refine T.ret ?_|simp only [ThenA,InBlock,reduceIte,Nat.reduceEqDiff]|((repeat ((fail_if_success (refine hK _ ?_));clear hK K));refine hK _ ?_;clear hK K))
        refine T.loopK (fun q:Nat=>⟨frI l y s.j ++ [(69,.own (i + B)),(70,.int r.length),(71,.int q)],ownI B l e s ++ H (acc1 ++ relsI l e s.j (r.take q)),190,5000006⟩) (fun q=>q≤r.length) (fun q=>r.length - q) 0 (Nat.zero_le _) ?_ ?_
        · have h0:acc1 ++ relsI l e s.j (r.take 0)=acc1:=by simp [relsI]
          simp only [h0]
          refine Weak.frm _ _ _ _ (fun t=>?_) (by simp only [wks,reduceIte,Nat.reduceEqDiff,implies_true,and_self,frI,hy6,hi7,List.cons_append,List.nil_append,Int.natCast_zero]) (by simp only [wks,AV.okB,Nat.reduceLT,decide_true,List.all_cons,List.all_nil,Bool.and_self,frI,hy6,hi7,List.cons_append,List.nil_append,Int.natCast_zero]) ?_;(focus (first|rfl|(simp only [ownI,List.cons_append];done)));exact midI_ok hB hl hs (hH _)
        intro q hq KL hKL
        obtain ⟨acc2,hacc2⟩ : ∃ a,a=acc1 ++ relsI l e s.j (r.take q):=⟨_,rfl⟩
        rw [← hacc2]
        have ht2:=hH acc2
        have hrw2:=tl_row (B:=B) ht2 (rowsI_at hrow)
        simp only [frI,ownI,List.cons_append,List.nil_append]
        by_cases hqr:q < r.length
        · have hdq:decide ((q:Int) < (r.length:Int))=true:=by simpa using hqr
          obtain ⟨ii,hii⟩:=at_lt hqr
          obtain ⟨hij,_⟩:=atL_mem (hr ▸ List.mem_of_getElem? hii)
          obtain ⟨f,hf⟩:=at_lt (show ii < l.length by omega)
          have hrat:=rowI_at hii
          repeat' (first|refine T.seqK fun K hK=>?_|refine T.block ?_|refine T.skip ?_|refine T.exit ?_|refine T.condT rfl ?_|refine T.condF rfl ?_|refine T.cond rfl (fun hc=>?_) (fun hc=>?_)|refine T.ret ?_|simp only [ThenA,InBlock,reduceIte,Nat.reduceEqDiff]|((repeat ((fail_if_success (refine hK _ ?_));clear hK K));refine hK _ ?_;clear hK K))
          (refine T.reg (by kernel_rfl) fun K' hK'=>?_;simp only [startSt,frOf,List.map_cons,List.map_nil];(repeat' (first|(with_reducible refine WL.fin ?_;refine hK' _ ?_;clear hK' K')|((with_reducible refine WL.step fun K2 hK2=>?_);simp only [simprocAttr,implies_true,amz,tys,hdq];(repeat' (first|with_reducible (first|(refine hK2 _ ?_;clear hK2 K2)|refine And.intro ?_ ?_|intro hb) )))));all_goals ((try simp only [ThenA,InBlock,reduceIte,Nat.reduceEqDiff]);(try ((repeat ((fail_if_success (refine hK _ ?_));clear hK K));refine hK _ ?_;clear hK K))))
          repeat' (first|refine T.seqK fun K hK=>?_|refine T.block ?_|refine T.skip ?_|refine T.exit ?_|refine T.condT rfl ?_|refine T.condF rfl ?_|refine T.cond rfl (fun hc=>?_) (fun hc=>?_)|refine T.ret ?_|simp only [ThenA,InBlock,reduceIte,Nat.reduceEqDiff]|((repeat ((fail_if_success (refine hK _ ?_));clear hK K));refine hK _ ?_;clear hK K))
          (refine T.reg (by kernel_rfl) fun K' hK'=>?_;simp only [startSt,frOf,List.map_cons,List.map_nil];(repeat' (first|(with_reducible refine WL.fin ?_;refine hK' _ ?_;clear hK' K')|((with_reducible refine WL.step fun K2 hK2=>?_);simp only [simprocAttr,implies_true,amz,tys,hqr,hrw2,hrat,rowI_len,tl_none hB hR ht2,tl_set hB hR ht2,n0,n1,n2,n3,n4,n5,n6];(repeat' (first|with_reducible (first|(refine hK2 _ ?_;clear hK2 K2)|refine And.intro ?_ ?_|intro hb) )))));all_goals ((try simp only [ThenA,InBlock,reduceIte,Nat.reduceEqDiff]);(try ((repeat ((fail_if_success (refine hK _ ?_));clear hK K));refine hK _ ?_;clear hK K))))
          repeat' (first|refine T.seqK fun K hK=>?_|refine T.block ?_|refine T.skip ?_|refine T.exit ?_|refine T.condT rfl ?_|refine T.condF rfl ?_|refine T.cond rfl (fun hc=>?_) (fun hc=>?_)|refine T.ret ?_|simp only [ThenA,InBlock,reduceIte,Nat.reduceEqDiff]|((repeat ((fail_if_success (refine hK _ ?_));clear hK K));refine hK _ ?_;clear hK K))
          (refine T.reg (by kernel_rfl) fun K' hK'=>?_;simp only [startSt,frOf,List.map_cons,List.map_nil];(repeat' (first|(with_reducible refine WL.fin ?_;refine hK' _ ?_;clear hK' K')|((with_reducible refine WL.step fun K2 hK2=>?_);simp only [simprocAttr,implies_true,amz,tys,hf,evC,tl_none hB hR ht2,tl_set hB hR ht2];(repeat' (first|with_reducible (first|(refine hK2 _ ?_;clear hK2 K2)|refine And.intro ?_ ?_|intro hb) )))));all_goals ((try simp only [ThenA,InBlock,reduceIte,Nat.reduceEqDiff]);(try ((repeat ((fail_if_success (refine hK _ ?_));clear hK K));refine hK _ ?_;clear hK K))))
          refine T.seqK fun K hK=>?_
          suffices hmid : ∀ s',Weak s' ⟨frI l y s.j ++ [(69,.own (i + B)),(70,.int r.length),(71,.int q),(15,.int ii),(16,.ptr 5000006 0),(17,.bool (sndzB f e))],(5000006,AO.boxP none 44 [.p (.val (.int .i64 f.g)),.p (.val (.int .i64 f.kind)),.p (.val (.int .i64 f.obj)),.p (.val (.int .i64 f.off)),.p (.val (.int .i64 f.k)),.p (.val (.int .i64 f.n)),.p (.val (.int .i64 f.fn)),.p (.val (.int .i64 f.pc)),.p (.val (.int .i64 f.st))]) :: (ownI B l e s ++ H acc2),190,5000007⟩→K s' by
            clear hK
            have hK:=hmid
            clear hmid
            cases c15:(f.kind == 15) with
            | false =>
              (refine T.reg (by kernel_rfl) fun K' hK'=>?_;simp only [startSt,frOf,List.map_cons,List.map_nil];(repeat' (first|(with_reducible refine WL.fin ?_;refine hK' _ ?_;clear hK' K')|((with_reducible refine WL.step fun K2 hK2=>?_);simp only [simprocAttr,implies_true,amz,tys,c15,tl_none hB hR ht2];(repeat' (first|with_reducible (first|(refine hK2 _ ?_;clear hK2 K2)|refine And.intro ?_ ?_|intro hb) )))));all_goals ((try simp only [ThenA,InBlock,reduceIte,Nat.reduceEqDiff]);(try ((repeat ((fail_if_success (refine hK _ ?_));clear hK K));refine hK _ ?_;clear hK K))))
              refine Weak.frm _ _ _ _ (fun t=>?_) (by simp only [wks,reduceIte,Nat.reduceEqDiff,implies_true,and_self,frI,hy6,hy7,hi7,hi8,List.cons_append,List.nil_append,sndzB,c15,Bool.false_and]) (by simp only [wks,AV.okB,Nat.reduceLT,decide_true,List.all_cons,List.all_nil,Bool.and_self,frI,hy6,hy7,hi7,hi8,List.cons_append,List.nil_append,sndzB,c15,Bool.false_and]) ?_;(focus (first|rfl|(simp only [ownI,List.cons_append];done)));exact mid2_ok hB hl hs (hH _)
            | true =>
              cases c18:(e.kind == 18) with
              | false =>
                (refine T.reg (by kernel_rfl) fun K' hK'=>?_;simp only [startSt,frOf,List.map_cons,List.map_nil];(repeat' (first|(with_reducible refine WL.fin ?_;refine hK' _ ?_;clear hK' K')|((with_reducible refine WL.step fun K2 hK2=>?_);simp only [simprocAttr,implies_true,amz,tys,c15,c18,tl_none hB hR ht2];(repeat' (first|with_reducible (first|(refine hK2 _ ?_;clear hK2 K2)|refine And.intro ?_ ?_|intro hb) )))));all_goals ((try simp only [ThenA,InBlock,reduceIte,Nat.reduceEqDiff]);(try ((repeat ((fail_if_success (refine hK _ ?_));clear hK K));refine hK _ ?_;clear hK K))))
                refine Weak.frm _ _ _ _ (fun t=>?_) (by simp only [wks,reduceIte,Nat.reduceEqDiff,implies_true,and_self,frI,hy6,hy7,hi7,hi8,List.cons_append,List.nil_append,sndzB,c15,c18,Bool.true_and,Bool.false_and]) (by simp only [wks,AV.okB,Nat.reduceLT,decide_true,List.all_cons,List.all_nil,Bool.and_self,frI,hy6,hy7,hi7,hi8,List.cons_append,List.nil_append,sndzB,c15,c18,Bool.true_and,Bool.false_and]) ?_;(focus (first|rfl|(simp only [ownI,List.cons_append];done)));exact mid2_ok hB hl hs (hH _)
              | true =>
                (refine T.reg (by kernel_rfl) fun K' hK'=>?_;simp only [startSt,frOf,List.map_cons,List.map_nil];(repeat' (first|(with_reducible refine WL.fin ?_;refine hK' _ ?_;clear hK' K')|((with_reducible refine WL.step fun K2 hK2=>?_);simp only [simprocAttr,implies_true,amz,tys,c15,c18,tl_none hB hR ht2];(repeat' (first|with_reducible (first|(refine hK2 _ ?_;clear hK2 K2)|refine And.intro ?_ ?_|intro hb) )))));all_goals ((try simp only [ThenA,InBlock,reduceIte,Nat.reduceEqDiff]);(try ((repeat ((fail_if_success (refine hK _ ?_));clear hK K));refine hK _ ?_;clear hK K))))
                refine Weak.frm _ _ _ _ (fun t=>?_) (by simp only [wks,reduceIte,Nat.reduceEqDiff,implies_true,and_self,frI,hy6,hy7,hi7,hi8,List.cons_append,List.nil_append,sndzB,c15,c18,Bool.true_and]) (by simp only [wks,AV.okB,Nat.reduceLT,decide_true,List.all_cons,List.all_nil,Bool.and_self,frI,hy6,hy7,hi7,hi8,List.cons_append,List.nil_append,sndzB,c15,c18,Bool.true_and]) ?_;(focus (first|rfl|(simp only [ownI,List.cons_append];done)));exact mid2_ok hB hl hs (hH _)
          intro s' hw
          refine hK s' ?_
          refine T.weak hw ?_
          clear hK hw s' K
          refine T.seqK fun K hK=>?_
          suffices hmid : ∀ s',Weak s' ⟨frI l y s.j ++ [(69,.own (i + B)),(70,.int r.length),(71,.int q),(15,.int ii),(16,.ptr 5000006 0),(17,.bool (sndzB f e)),(18,.bool (frezB f e))],(5000006,AO.boxP none 44 [.p (.val (.int .i64 f.g)),.p (.val (.int .i64 f.kind)),.p (.val (.int .i64 f.obj)),.p (.val (.int .i64 f.off)),.p (.val (.int .i64 f.k)),.p (.val (.int .i64 f.n)),.p (.val (.int .i64 f.fn)),.p (.val (.int .i64 f.pc)),.p (.val (.int .i64 f.st))]) :: (ownI B l e s ++ H acc2),190,5000007⟩→K s' by
            clear hK
            have hK:=hmid
            clear hmid
            simp only [frI,ownI,List.cons_append,List.nil_append]
            cases c17:(f.kind == 17) with
            | false =>
              (refine T.reg (by kernel_rfl) fun K' hK'=>?_;simp only [startSt,frOf,List.map_cons,List.map_nil];(repeat' (first|(with_reducible refine WL.fin ?_;refine hK' _ ?_;clear hK' K')|((with_reducible refine WL.step fun K2 hK2=>?_);simp only [simprocAttr,implies_true,amz,tys,c17,tl_none hB hR ht2];(repeat' (first|with_reducible (first|(refine hK2 _ ?_;clear hK2 K2)|refine And.intro ?_ ?_|intro hb) )))));all_goals ((try simp only [ThenA,InBlock,reduceIte,Nat.reduceEqDiff]);(try ((repeat ((fail_if_success (refine hK _ ?_));clear hK K));refine hK _ ?_;clear hK K))))
              refine Weak.frm _ _ _ _ (fun t=>?_) (by simp only [wks,reduceIte,Nat.reduceEqDiff,implies_true,and_self,frI,hy6,hy7,hi7,hi8,List.cons_append,List.nil_append,frezB,c17,Bool.false_and]) (by simp only [wks,AV.okB,Nat.reduceLT,decide_true,List.all_cons,List.all_nil,Bool.and_self,frI,hy6,hy7,hi7,hi8,List.cons_append,List.nil_append,frezB,c17,Bool.false_and]) ?_;(focus (first|rfl|(simp only [ownI,List.cons_append];done)));exact mid2_ok hB hl hs (hH _)
            | true =>
              cases c16:(e.kind == 16) with
              | false =>
                (refine T.reg (by kernel_rfl) fun K' hK'=>?_;simp only [startSt,frOf,List.map_cons,List.map_nil];(repeat' (first|(with_reducible refine WL.fin ?_;refine hK' _ ?_;clear hK' K')|((with_reducible refine WL.step fun K2 hK2=>?_);simp only [simprocAttr,implies_true,amz,tys,c17,c16,tl_none hB hR ht2];(repeat' (first|with_reducible (first|(refine hK2 _ ?_;clear hK2 K2)|refine And.intro ?_ ?_|intro hb) )))));all_goals ((try simp only [ThenA,InBlock,reduceIte,Nat.reduceEqDiff]);(try ((repeat ((fail_if_success (refine hK _ ?_));clear hK K));refine hK _ ?_;clear hK K))))
                refine Weak.frm _ _ _ _ (fun t=>?_) (by simp only [wks,reduceIte,Nat.reduceEqDiff,implies_true,and_self,frI,hy6,hy7,hi7,hi8,List.cons_append,List.nil_append,frezB,c17,c16,Bool.true_and,Bool.false_and]) (by simp only [wks,AV.okB,Nat.reduceLT,decide_true,List.all_cons,List.all_nil,Bool.and_self,frI,hy6,hy7,hi7,hi8,List.cons_append,List.nil_append,frezB,c17,c16,Bool.true_and,Bool.false_and]) ?_;(focus (first|rfl|(simp only [ownI,List.cons_append];done)));exact mid2_ok hB hl hs (hH _)
              | true =>
                (refine T.reg (by kernel_rfl) fun K' hK'=>?_;simp only [startSt,frOf,List.map_cons,List.map_nil];(repeat' (first|(with_reducible refine WL.fin ?_;refine hK' _ ?_;clear hK' K')|((with_reducible refine WL.step fun K2 hK2=>?_);simp only [simprocAttr,implies_true,amz,tys,c17,c16,tl_none hB hR ht2];(repeat' (first|with_reducible (first|(refine hK2 _ ?_;clear hK2 K2)|refine And.intro ?_ ?_|intro hb) )))));all_goals ((try simp only [ThenA,InBlock,reduceIte,Nat.reduceEqDiff]);(try ((repeat ((fail_if_success (refine hK _ ?_));clear hK K));refine hK _ ?_;clear hK K))))
                refine Weak.frm _ _ _ _ (fun t=>?_) (by simp only [wks,reduceIte,Nat.reduceEqDiff,implies_true,and_self,frI,hy6,hy7,hi7,hi8,List.cons_append,List.nil_append,frezB,c17,c16,Bool.true_and]) (by simp only [wks,AV.okB,Nat.reduceLT,decide_true,List.all_cons,List.all_nil,Bool.and_self,frI,hy6,hy7,hi7,hi8,List.cons_append,List.nil_append,frezB,c17,c16,Bool.true_and]) ?_;(focus (first|rfl|(simp only [ownI,List.cons_append];done)));exact mid2_ok hB hl hs (hH _)
          intro s' hw
          refine hK s' ?_
          refine T.weak hw ?_
          clear hK hw s' K
          have hyes:meetsB f e=true→(∃ rs,relsU l l.length=acc2 ++ (⟨ii,s.j,e.kind⟩ : Ed) :: rs)∧acc2 ++ [(⟨ii,s.j,e.kind⟩ : Ed)]=acc1 ++ relsI l e s.j (r.take (q + 1)):=fun hm=>by
            refine ⟨⟨relsI l e s.j (r.drop (q + 1)) ++ (relsW l e s.j ++ rest),?_⟩,?_⟩
            · rw [hrest,← hr,relsI_split l e s.j r q,drop_at hii,relsI_cons l e s.j ii _ f hf,hm,hacc2]
              simp
            · rw [relsI_take l e s.j hii hf,hm,hacc2]
              simp
          have hno:meetsB f e=false→acc2=acc1 ++ relsI l e s.j (r.take (q + 1)):=fun hm=>by
            rw [relsI_take l e s.j hii hf,hm,hacc2]
            simp
          simp only [frI,ownI,List.cons_append,List.nil_append]
          cases hsn:sndzB f e with
          | true =>
            obtain ⟨hpre,hnext⟩:=hyes (by simp [meetsB,hsn])
            obtain ⟨lr,sp,fr0,hlk0,hyc0⟩:=hyld acc2 ⟨ii,s.j,e.kind⟩ hpre
            simp only [edC,List.map_cons,List.map_nil] at hyc0
            repeat' (first|refine T.seqK fun K hK=>?_|refine T.block ?_|refine T.skip ?_|refine T.exit ?_|refine T.condT rfl ?_|refine T.condF rfl ?_|refine T.cond rfl (fun hc=>?_) (fun hc=>?_)|refine T.ret ?_|simp only [ThenA,InBlock,reduceIte,Nat.reduceEqDiff]|((repeat ((fail_if_success (refine hK _ ?_));clear hK K));refine hK _ ?_;clear hK K))
            refine T.regI (by kernel_rfl) fun K' hK'=>?_;simp only [List.map_cons,List.map_nil]
            iterate 18 ((with_reducible refine WLI.stepP fun K2 hK2=>?_);simp only [simprocAttr,implies_true,amz,tys,tl_none hB hR ht2];(repeat' (first|with_reducible (first|(refine hK2 _ ?_;clear hK2 K2)|refine And.intro ?_ ?_|intro hb))))
            (with_reducible refine WLI.stepY fun K2 hK2=>?_);simp only [WSY,WY,simprocAttr,implies_true,amz,tys,hiB,tl_none hB hR ht2];(refine CallY.of 2000000 ((5000006,AO.boxP none 44 [.p (.val (.int .i64 f.g)),.p (.val (.int .i64 f.kind)),.p (.val (.int .i64 f.obj)),.p (.val (.int .i64 f.off)),.p (.val (.int .i64 f.k)),.p (.val (.int .i64 f.n)),.p (.val (.int .i64 f.fn)),.p (.val (.int .i64 f.pc)),.p (.val (.int .i64 f.st))]) :: ownI B l e s) (H (acc2)) (H (acc2 ++ [⟨ii,s.j,e.kind⟩])) _ _ _ rfl (own_ge (by decide) (ownI_ge hB _ _ _)) ?_ (hH _) hyc0 hlk0 (keptH hh _ _) (by decide) (by simp [AV.okB,AV.okB_agg]) ?_);(focus (simp only [ownI_keep hB,List.map_cons,AO.keep_box,AV.keep_p,List.map_nil,evC];done));refine hK2 _ ?_;clear hK2 K2;(refine WLI.weak (Weak.hpe _ ((5000006,AO.boxP none 44 [.p (.val (.int .i64 f.g)),.p (.val (.int .i64 f.kind)),.p (.val (.int .i64 f.obj)),.p (.val (.int .i64 f.off)),.p (.val (.int .i64 f.k)),.p (.val (.int .i64 f.n)),.p (.val (.int .i64 f.fn)),.p (.val (.int .i64 f.pc)),.p (.val (.int .i64 f.st))]) :: ownI B l e s ++ H (acc2 ++ [⟨ii,s.j,e.kind⟩])) (lk_swap (own_ge (by decide) (ownI_ge hB _ _ _)) (hH _))) ?_);simp only [List.map_cons,List.map_nil,AV.keep_own,AV.keep_ptr,AV.keep_rptr,AV.keep_pre,AV.keep_p,AV.keep_elt,AV.keep_junk,AV.keep_cap0,AV.keep_fn,AV.keep_agg,AV.keep_tup,Nat.reduceLeDiff,true_or,reduceIte,List.mem_singleton,or_true,ownI,List.cons_append,put_some,tys,hiB,tl_none hB hR ht2]
            iterate 2 ((with_reducible refine WLI.stepP fun K2 hK2=>?_);simp only [simprocAttr,implies_true,amz,tys];(repeat' (first|with_reducible (first|(refine hK2 _ ?_;clear hK2 K2)|refine And.intro ?_ ?_|intro hb))))
            (with_reducible refine WLI.fin ?_);refine hK' _ ?_;clear hK' K';(try simp only [ThenA,InBlock,reduceIte,Nat.reduceEqDiff]);(try ((repeat ((fail_if_success (refine hK _ ?_));clear hK K));refine hK _ ?_;clear hK K))
            repeat' (first|refine T.seqK fun K hK=>?_|refine T.block ?_|(refine T.reg (by kernel_rfl) fun K' hK'=>?_;simp only [startSt,frOf,List.map_cons,List.map_nil];(repeat' (first|(with_reducible refine WL.fin ?_;refine hK' _ ?_;clear hK' K')|((with_reducible refine WL.step fun K2 hK2=>?_);simp only [simprocAttr,implies_true,amz,tys];(repeat' (first|with_reducible (first|(refine hK2 _ ?_;clear hK2 K2)|refine And.intro ?_ ?_|intro hb) ))))))|refine T.skip ?_|refine T.exit ?_|refine T.condT rfl ?_|refine T.condF rfl ?_|refine T.cond rfl (fun hc=>?_) (fun hc=>?_)|refine T.ret ?_|simp only [ThenA,InBlock,reduceIte,Nat.reduceEqDiff]|((repeat ((fail_if_success (refine hK _ ?_));clear hK K));refine hK _ ?_;clear hK K))
            rw [hnext]
            refine hKL _ (q + 1) ?_ (by omega) (by omega)
            refine Weak.subs _ _ _ _ (fun t o ho=>?_) (by simp only [wks,reduceIte,Nat.reduceEqDiff,implies_true,and_self,frI,hy6,hi7,List.cons_append,List.nil_append,wrap_succ (show q < 1152921504606846976 by omega)]) (by simp only [wks,AV.okB,Nat.reduceLT,decide_true,List.all_cons,List.all_nil,Bool.and_self,frI,hy6,hi7,List.cons_append,List.nil_append,wrap_succ (show q < 1152921504606846976 by omega)]) (midI_ok hB hl hs (hH _));exact (lookup_cons_ne (Nat.ne_of_lt (midI_ok hB hl hs (hH _) t o ho).1)).trans ho
          | false =>
            cases hfz:frezB f e with
            | true =>
              obtain ⟨hpre,hnext⟩:=hyes (by simp [meetsB,hfz])
              obtain ⟨lr,sp,fr0,hlk0,hyc0⟩:=hyld acc2 ⟨ii,s.j,e.kind⟩ hpre
              simp only [edC,List.map_cons,List.map_nil] at hyc0
              repeat' (first|refine T.seqK fun K hK=>?_|refine T.block ?_|refine T.skip ?_|refine T.exit ?_|refine T.condT rfl ?_|refine T.condF rfl ?_|refine T.cond rfl (fun hc=>?_) (fun hc=>?_)|refine T.ret ?_|simp only [ThenA,InBlock,reduceIte,Nat.reduceEqDiff]|((repeat ((fail_if_success (refine hK _ ?_));clear hK K));refine hK _ ?_;clear hK K))
              refine T.regI (by kernel_rfl) fun K' hK'=>?_;simp only [List.map_cons,List.map_nil]
              iterate 18 ((with_reducible refine WLI.stepP fun K2 hK2=>?_);simp only [simprocAttr,implies_true,amz,tys,tl_none hB hR ht2];(repeat' (first|with_reducible (first|(refine hK2 _ ?_;clear hK2 K2)|refine And.intro ?_ ?_|intro hb))))
              (with_reducible refine WLI.stepY fun K2 hK2=>?_);simp only [WSY,WY,simprocAttr,implies_true,amz,tys,hiB,tl_none hB hR ht2];(refine CallY.of 2000000 ((5000006,AO.boxP none 44 [.p (.val (.int .i64 f.g)),.p (.val (.int .i64 f.kind)),.p (.val (.int .i64 f.obj)),.p (.val (.int .i64 f.off)),.p (.val (.int .i64 f.k)),.p (.val (.int .i64 f.n)),.p (.val (.int .i64 f.fn)),.p (.val (.int .i64 f.pc)),.p (.val (.int .i64 f.st))]) :: ownI B l e s) (H (acc2)) (H (acc2 ++ [⟨ii,s.j,e.kind⟩])) _ _ _ rfl (own_ge (by decide) (ownI_ge hB _ _ _)) ?_ (hH _) hyc0 hlk0 (keptH hh _ _) (by decide) (by simp [AV.okB,AV.okB_agg]) ?_);(focus (simp only [ownI_keep hB,List.map_cons,AO.keep_box,AV.keep_p,List.map_nil,evC];done));refine hK2 _ ?_;clear hK2 K2;(refine WLI.weak (Weak.hpe _ ((5000006,AO.boxP none 44 [.p (.val (.int .i64 f.g)),.p (.val (.int .i64 f.kind)),.p (.val (.int .i64 f.obj)),.p (.val (.int .i64 f.off)),.p (.val (.int .i64 f.k)),.p (.val (.int .i64 f.n)),.p (.val (.int .i64 f.fn)),.p (.val (.int .i64 f.pc)),.p (.val (.int .i64 f.st))]) :: ownI B l e s ++ H (acc2 ++ [⟨ii,s.j,e.kind⟩])) (lk_swap (own_ge (by decide) (ownI_ge hB _ _ _)) (hH _))) ?_);simp only [List.map_cons,List.map_nil,AV.keep_own,AV.keep_ptr,AV.keep_rptr,AV.keep_pre,AV.keep_p,AV.keep_elt,AV.keep_junk,AV.keep_cap0,AV.keep_fn,AV.keep_agg,AV.keep_tup,Nat.reduceLeDiff,true_or,reduceIte,List.mem_singleton,or_true,ownI,List.cons_append,put_some,tys,hiB,tl_none hB hR ht2]
              iterate 2 ((with_reducible refine WLI.stepP fun K2 hK2=>?_);simp only [simprocAttr,implies_true,amz,tys];(repeat' (first|with_reducible (first|(refine hK2 _ ?_;clear hK2 K2)|refine And.intro ?_ ?_|intro hb))))
              (with_reducible refine WLI.fin ?_);refine hK' _ ?_;clear hK' K';(try simp only [ThenA,InBlock,reduceIte,Nat.reduceEqDiff]);(try ((repeat ((fail_if_success (refine hK _ ?_));clear hK K));refine hK _ ?_;clear hK K))
              repeat' (first|refine T.seqK fun K hK=>?_|refine T.block ?_|(refine T.reg (by kernel_rfl) fun K' hK'=>?_;simp only [startSt,frOf,List.map_cons,List.map_nil];(repeat' (first|(with_reducible refine WL.fin ?_;refine hK' _ ?_;clear hK' K')|((with_reducible refine WL.step fun K2 hK2=>?_);simp only [simprocAttr,implies_true,amz,tys];(repeat' (first|with_reducible (first|(refine hK2 _ ?_;clear hK2 K2)|refine And.intro ?_ ?_|intro hb) ))))))|refine T.skip ?_|refine T.exit ?_|refine T.condT rfl ?_|refine T.condF rfl ?_|refine T.cond rfl (fun hc=>?_) (fun hc=>?_)|refine T.ret ?_|simp only [ThenA,InBlock,reduceIte,Nat.reduceEqDiff]|((repeat ((fail_if_success (refine hK _ ?_));clear hK K));refine hK _ ?_;clear hK K))
              rw [hnext]
              refine hKL _ (q + 1) ?_ (by omega) (by omega)
              refine Weak.subs _ _ _ _ (fun t o ho=>?_) (by simp only [wks,reduceIte,Nat.reduceEqDiff,implies_true,and_self,frI,hy6,hi7,List.cons_append,List.nil_append,wrap_succ (show q < 1152921504606846976 by omega)]) (by simp only [wks,AV.okB,Nat.reduceLT,decide_true,List.all_cons,List.all_nil,Bool.and_self,frI,hy6,hi7,List.cons_append,List.nil_append,wrap_succ (show q < 1152921504606846976 by omega)]) (midI_ok hB hl hs (hH _));exact (lookup_cons_ne (Nat.ne_of_lt (midI_ok hB hl hs (hH _) t o ho).1)).trans ho
            | false =>
              have hAf:=ordAfter_ok f.kind e.kind
              cases haf:aftB f.kind e.kind with
              | true =>
                rw [haf] at hAf
                obtain ⟨hpre,hnext⟩:=hyes (by simp [meetsB,haf])
                obtain ⟨lr,sp,fr0,hlk0,hyc0⟩:=hyld acc2 ⟨ii,s.j,e.kind⟩ hpre
                simp only [edC,List.map_cons,List.map_nil] at hyc0
                repeat' (first|refine T.seqK fun K hK=>?_|refine T.block ?_|refine T.skip ?_|refine T.exit ?_|refine T.condT rfl ?_|refine T.condF rfl ?_|refine T.cond rfl (fun hc=>?_) (fun hc=>?_)|refine T.ret ?_|simp only [ThenA,InBlock,reduceIte,Nat.reduceEqDiff]|((repeat ((fail_if_success (refine hK _ ?_));clear hK K));refine hK _ ?_;clear hK K))
                refine T.regI (by kernel_rfl) fun K' hK'=>?_;simp only [List.map_cons,List.map_nil]
                iterate 9 ((with_reducible refine WLI.stepP fun K2 hK2=>?_);simp only [simprocAttr,implies_true,amz,tys,tl_none hB hR ht2];(repeat' (first|with_reducible (first|(refine hK2 _ ?_;clear hK2 K2)|refine And.intro ?_ ?_|intro hb))))
                (with_reducible refine WLI.stepP fun K2 hK2=>?_);simp only [simprocAttr,implies_true,amz,tys];((first|(with_reducible apply callArmO)|(with_reducible apply callArm));case h=>exact CallV.plain (Ent.of Try.func42 (by kernel_rfl) rfl) (hAf) (by simp [AV.okB]));refine hK2 _ ?_;clear hK2 K2
                iterate 8 ((with_reducible refine WLI.stepP fun K2 hK2=>?_);simp only [simprocAttr,implies_true,amz,tys,tl_none hB hR ht2];(repeat' (first|with_reducible (first|(refine hK2 _ ?_;clear hK2 K2)|refine And.intro ?_ ?_|intro hb))))
                (with_reducible refine WLI.stepY fun K2 hK2=>?_);simp only [WSY,WY,simprocAttr,implies_true,amz,tys,hiB,tl_none hB hR ht2];(refine CallY.of 2000000 ((5000006,AO.boxP none 44 [.p (.val (.int .i64 f.g)),.p (.val (.int .i64 f.kind)),.p (.val (.int .i64 f.obj)),.p (.val (.int .i64 f.off)),.p (.val (.int .i64 f.k)),.p (.val (.int .i64 f.n)),.p (.val (.int .i64 f.fn)),.p (.val (.int .i64 f.pc)),.p (.val (.int .i64 f.st))]) :: ownI B l e s) (H (acc2)) (H (acc2 ++ [⟨ii,s.j,e.kind⟩])) _ _ _ rfl (own_ge (by decide) (ownI_ge hB _ _ _)) ?_ (hH _) hyc0 hlk0 (keptH hh _ _) (by decide) (by simp [AV.okB,AV.okB_agg]) ?_);(focus (simp only [ownI_keep hB,List.map_cons,AO.keep_box,AV.keep_p,List.map_nil,evC];done));refine hK2 _ ?_;clear hK2 K2;(refine WLI.weak (Weak.hpe _ ((5000006,AO.boxP none 44 [.p (.val (.int .i64 f.g)),.p (.val (.int .i64 f.kind)),.p (.val (.int .i64 f.obj)),.p (.val (.int .i64 f.off)),.p (.val (.int .i64 f.k)),.p (.val (.int .i64 f.n)),.p (.val (.int .i64 f.fn)),.p (.val (.int .i64 f.pc)),.p (.val (.int .i64 f.st))]) :: ownI B l e s ++ H (acc2 ++ [⟨ii,s.j,e.kind⟩])) (lk_swap (own_ge (by decide) (ownI_ge hB _ _ _)) (hH _))) ?_);simp only [List.map_cons,List.map_nil,AV.keep_own,AV.keep_ptr,AV.keep_rptr,AV.keep_pre,AV.keep_p,AV.keep_elt,AV.keep_junk,AV.keep_cap0,AV.keep_fn,AV.keep_agg,AV.keep_tup,Nat.reduceLeDiff,true_or,reduceIte,List.mem_singleton,or_true,ownI,List.cons_append,put_some,tys,hiB,tl_none hB hR ht2]
                iterate 2 ((with_reducible refine WLI.stepP fun K2 hK2=>?_);simp only [simprocAttr,implies_true,amz,tys];(repeat' (first|with_reducible (first|(refine hK2 _ ?_;clear hK2 K2)|refine And.intro ?_ ?_|intro hb))))
                (with_reducible refine WLI.fin ?_);refine hK' _ ?_;clear hK' K';(try simp only [ThenA,InBlock,reduceIte,Nat.reduceEqDiff]);(try ((repeat ((fail_if_success (refine hK _ ?_));clear hK K));refine hK _ ?_;clear hK K))
                repeat' (first|refine T.seqK fun K hK=>?_|refine T.block ?_|(refine T.reg (by kernel_rfl) fun K' hK'=>?_;simp only [startSt,frOf,List.map_cons,List.map_nil];(repeat' (first|(with_reducible refine WL.fin ?_;refine hK' _ ?_;clear hK' K')|((with_reducible refine WL.step fun K2 hK2=>?_);simp only [simprocAttr,implies_true,amz,tys];(repeat' (first|with_reducible (first|(refine hK2 _ ?_;clear hK2 K2)|refine And.intro ?_ ?_|intro hb) ))))))|refine T.skip ?_|refine T.exit ?_|refine T.condT rfl ?_|refine T.condF rfl ?_|refine T.cond rfl (fun hc=>?_) (fun hc=>?_)|refine T.ret ?_|simp only [ThenA,InBlock,reduceIte,Nat.reduceEqDiff]|((repeat ((fail_if_success (refine hK _ ?_));clear hK K));refine hK _ ?_;clear hK K))
                rw [hnext]
                refine hKL _ (q + 1) ?_ (by omega) (by omega)
                refine Weak.subs _ _ _ _ (fun t o ho=>?_) (by simp only [wks,reduceIte,Nat.reduceEqDiff,implies_true,and_self,frI,hy6,hi7,List.cons_append,List.nil_append,wrap_succ (show q < 1152921504606846976 by omega)]) (by simp only [wks,AV.okB,Nat.reduceLT,decide_true,List.all_cons,List.all_nil,Bool.and_self,frI,hy6,hi7,List.cons_append,List.nil_append,wrap_succ (show q < 1152921504606846976 by omega)]) (midI_ok hB hl hs (hH _));exact (lookup_cons_ne (Nat.ne_of_lt (midI_ok hB hl hs (hH _) t o ho).1)).trans ho
              | false =>
                rw [haf] at hAf
                have hnext:=hno (by simp [meetsB,hsn,hfz,haf])
                repeat' (first|refine T.seqK fun K hK=>?_|refine T.block ?_|refine T.skip ?_|refine T.exit ?_|refine T.condT rfl ?_|refine T.condF rfl ?_|refine T.cond rfl (fun hc=>?_) (fun hc=>?_)|refine T.ret ?_|simp only [ThenA,InBlock,reduceIte,Nat.reduceEqDiff]|((repeat ((fail_if_success (refine hK _ ?_));clear hK K));refine hK _ ?_;clear hK K))
                refine T.regI (by kernel_rfl) fun K' hK'=>?_;simp only [List.map_cons,List.map_nil]
                iterate 9 ((with_reducible refine WLI.stepP fun K2 hK2=>?_);simp only [simprocAttr,implies_true,amz,tys,tl_none hB hR ht2];(repeat' (first|with_reducible (first|(refine hK2 _ ?_;clear hK2 K2)|refine And.intro ?_ ?_|intro hb))))
                (with_reducible refine WLI.stepP fun K2 hK2=>?_);simp only [simprocAttr,implies_true,amz,tys];((first|(with_reducible apply callArmO)|(with_reducible apply callArm));case h=>exact CallV.plain (Ent.of Try.func42 (by kernel_rfl) rfl) (hAf) (by simp [AV.okB]));refine hK2 _ ?_;clear hK2 K2
                iterate 11 ((with_reducible refine WLI.stepP fun K2 hK2=>?_);simp only [simprocAttr,implies_true,amz,tys,tl_none hB hR ht2];(repeat' (first|with_reducible (first|(refine hK2 _ ?_;clear hK2 K2)|refine And.intro ?_ ?_|intro hb))))
                (with_reducible refine WLI.fin ?_);refine hK' _ ?_;clear hK' K';(try simp only [ThenA,InBlock,reduceIte,Nat.reduceEqDiff]);(try ((repeat ((fail_if_success (refine hK _ ?_));clear hK K));refine hK _ ?_;clear hK K))
                repeat' (first|refine T.seqK fun K hK=>?_|refine T.block ?_|(refine T.reg (by kernel_rfl) fun K' hK'=>?_;simp only [startSt,frOf,List.map_cons,List.map_nil];(repeat' (first|(with_reducible refine WL.fin ?_;refine hK' _ ?_;clear hK' K')|((with_reducible refine WL.step fun K2 hK2=>?_);simp only [simprocAttr,implies_true,amz,tys];(repeat' (first|with_reducible (first|(refine hK2 _ ?_;clear hK2 K2)|refine And.intro ?_ ?_|intro hb) ))))))|refine T.skip ?_|refine T.exit ?_|refine T.condT rfl ?_|refine T.condF rfl ?_|refine T.cond rfl (fun hc=>?_) (fun hc=>?_)|refine T.ret ?_|simp only [ThenA,InBlock,reduceIte,Nat.reduceEqDiff]|((repeat ((fail_if_success (refine hK _ ?_));clear hK K));refine hK _ ?_;clear hK K))
                rw [hnext]
                refine hKL _ (q + 1) ?_ (by omega) (by omega)
                refine Weak.subs _ _ _ _ (fun t o ho=>?_) (by simp only [wks,reduceIte,Nat.reduceEqDiff,implies_true,and_self,frI,hy6,hi7,List.cons_append,List.nil_append,wrap_succ (show q < 1152921504606846976 by omega)]) (by simp only [wks,AV.okB,Nat.reduceLT,decide_true,List.all_cons,List.all_nil,Bool.and_self,frI,hy6,hi7,List.cons_append,List.nil_append,wrap_succ (show q < 1152921504606846976 by omega)]) (midI_ok hB hl hs (hH _));exact (lookup_cons_ne (Nat.ne_of_lt (midI_ok hB hl hs (hH _) t o ho).1)).trans ho
        · have hdq:decide ((q:Int) < (r.length:Int))=false:=by simpa using hqr
          repeat' (first|refine T.seqK fun K hK=>?_|refine T.block ?_|(refine T.reg (by kernel_rfl) fun K' hK'=>?_;simp only [startSt,frOf,List.map_cons,List.map_nil];(repeat' (first|(with_reducible refine WL.fin ?_;refine hK' _ ?_;clear hK' K')|((with_reducible refine WL.step fun K2 hK2=>?_);simp only [simprocAttr,implies_true,amz,tys,hdq];(repeat' (first|with_reducible (first|(refine hK2 _ ?_;clear hK2 K2)|refine And.intro ?_ ?_|intro hb) ))))))|refine T.skip ?_|refine T.exit ?_|refine T.condT rfl ?_|refine T.condF rfl ?_|refine T.cond rfl (fun hc=>?_) (fun hc=>?_)|refine T.ret ?_|simp only [ThenA,InBlock,reduceIte,Nat.reduceEqDiff]|((repeat ((fail_if_success (refine hK _ ?_));clear hK K));refine hK _ ?_;clear hK K))
          rw [hacc2,List.take_of_length_le (by omega)]
          refine Weak.frm _ _ _ _ (fun t=>?_) (by simp only [wks,reduceIte,Nat.reduceEqDiff,implies_true,and_self,frI,hy6,]) (by simp only [wks,AV.okB,Nat.reduceLT,decide_true,List.all_cons,List.all_nil,Bool.and_self,frI,hy6,]) ?_;(focus (first|rfl|(simp only [ownI,List.cons_append];done)));exact midI_ok hB hl hs (hH _)
    intro s' hw
    refine hK s' ?_
    refine T.weak hw ?_
    clear hK hw s' K ht
    obtain ⟨acc3,hacc3⟩ : ∃ a,a=acc1 ++ relsI l e s.j (atL l e.obj e.off s.j):=⟨_,rfl⟩
    rw [← hacc3]
    rw [← List.append_assoc,← hacc3] at hrest
    have ht:=hH acc3
    refine T.seqK fun K hK=>?_
    suffices hmid : ∀ s',Weak s' ⟨frI l y s.j,ownI B l e s ++ H (acc3 ++ relsW l e s.j),190,5000006⟩→K s' by
      clear hK
      have hK:=hmid
      clear hmid
      simp only [frI,ownI,List.cons_append]
      cases hW:lastI l (wrAt e.obj e.off) s.j with
      | none =>
        have hrW:relsW l e s.j = []:=by rw [relsW,hW]
        rw [hrW,List.append_nil] at hK
        repeat' (first|refine T.seqK fun K hK=>?_|refine T.block ?_|(refine T.reg (by kernel_rfl) fun K' hK'=>?_;simp only [startSt,frOf,List.map_cons,List.map_nil];(repeat' (first|(with_reducible refine WL.fin ?_;refine hK' _ ?_;clear hK' K')|((with_reducible refine WL.step fun K2 hK2=>?_);simp only [simprocAttr,implies_true,amz,tys,hW,keyed_69,keyOf_69 iO iF,plM_at nI _ iO iF,nI,tl_none hB hR ht,tl_set hB hR ht,Option.isSome_none];(repeat' (first|with_reducible (first|(refine hK2 _ ?_;clear hK2 K2)|refine And.intro ?_ ?_|intro hb) ))))))|refine T.skip ?_|refine T.exit ?_|refine T.condT rfl ?_|refine T.condF rfl ?_|refine T.cond rfl (fun hc=>?_) (fun hc=>?_)|refine T.ret ?_|simp only [ThenA,InBlock,reduceIte,Nat.reduceEqDiff]|((repeat ((fail_if_success (refine hK _ ?_));clear hK K));refine hK _ ?_;clear hK K))
        refine Weak.frm _ _ _ _ (fun t=>?_) (by simp only [wks,reduceIte,Nat.reduceEqDiff,implies_true,and_self,frI,hy6,]) (by simp only [wks,AV.okB,Nat.reduceLT,decide_true,List.all_cons,List.all_nil,Bool.and_self,frI,hy6,]) ?_;(focus (first|rfl|(simp only [ownI,List.cons_append];done)));exact midI_ok hB hl hs (hH _)
      | some w =>
        cases k3:(e.kind == 3) with
        | true =>
          have hrW:relsW l e s.j = [⟨w,s.j,e.kind⟩]:=by rw [relsW,hW];simp [rdK,k3]
          rw [hrW] at hK hrest
          obtain ⟨lr,sp,fr0,hlk0,hyc0⟩:=hyld acc3 ⟨w,s.j,e.kind⟩ ⟨_,hrest⟩
          simp only [edC,List.map_cons,List.map_nil] at hyc0
          repeat' (first|refine T.seqK fun K hK=>?_|refine T.block ?_|refine T.skip ?_|refine T.exit ?_|refine T.condT rfl ?_|refine T.condF rfl ?_|refine T.cond rfl (fun hc=>?_) (fun hc=>?_)|refine T.ret ?_|simp only [ThenA,InBlock,reduceIte,Nat.reduceEqDiff]|((repeat ((fail_if_success (refine hK _ ?_));clear hK K));refine hK _ ?_;clear hK K))
          (refine T.reg (by kernel_rfl) fun K' hK'=>?_;simp only [startSt,frOf,List.map_cons,List.map_nil];(repeat' (first|(with_reducible refine WL.fin ?_;refine hK' _ ?_;clear hK' K')|((with_reducible refine WL.step fun K2 hK2=>?_);simp only [simprocAttr,implies_true,amz,tys,hW,k3,keyed_69,keyOf_69 iO iF,plM_at nI _ iO iF,nI,tl_none hB hR ht,tl_set hB hR ht,Option.isSome_some];(repeat' (first|with_reducible (first|(refine hK2 _ ?_;clear hK2 K2)|refine And.intro ?_ ?_|intro hb) )))));all_goals ((try simp only [ThenA,InBlock,reduceIte,Nat.reduceEqDiff]);(try ((repeat ((fail_if_success (refine hK _ ?_));clear hK K));refine hK _ ?_;clear hK K))))
          repeat' (first|refine T.seqK fun K hK=>?_|refine T.block ?_|refine T.skip ?_|refine T.exit ?_|refine T.condT rfl ?_|refine T.condF rfl ?_|refine T.cond rfl (fun hc=>?_) (fun hc=>?_)|refine T.ret ?_|simp only [ThenA,InBlock,reduceIte,Nat.reduceEqDiff]|((repeat ((fail_if_success (refine hK _ ?_));clear hK K));refine hK _ ?_;clear hK K))
          (refine T.reg (by kernel_rfl) fun K' hK'=>?_;simp only [startSt,frOf,List.map_cons,List.map_nil];(repeat' (first|(with_reducible refine WL.fin ?_;refine hK' _ ?_;clear hK' K')|((with_reducible refine WL.step fun K2 hK2=>?_);simp only [simprocAttr,implies_true,amz,tys,hW,k3,tl_none hB hR ht];(repeat' (first|with_reducible (first|(refine hK2 _ ?_;clear hK2 K2)|refine And.intro ?_ ?_|intro hb) )))));all_goals ((try simp only [ThenA,InBlock,reduceIte,Nat.reduceEqDiff]);(try ((repeat ((fail_if_success (refine hK _ ?_));clear hK K));refine hK _ ?_;clear hK K))))
          repeat' (first|refine T.seqK fun K hK=>?_|refine T.block ?_|refine T.skip ?_|refine T.exit ?_|refine T.condT rfl ?_|refine T.condF rfl ?_|refine T.cond rfl (fun hc=>?_) (fun hc=>?_)|refine T.ret ?_|simp only [ThenA,InBlock,reduceIte,Nat.reduceEqDiff]|((repeat ((fail_if_success (refine hK _ ?_));clear hK K));refine hK _ ?_;clear hK K))
          refine T.regI (by kernel_rfl) fun K' hK'=>?_;simp only [List.map_cons,List.map_nil]
          iterate 6 ((with_reducible refine WLI.stepP fun K2 hK2=>?_);simp only [simprocAttr,implies_true,amz,tys,tl_none hB hR ht];(repeat' (first|with_reducible (first|(refine hK2 _ ?_;clear hK2 K2)|refine And.intro ?_ ?_|intro hb))))
          (with_reducible refine WLI.stepY fun K2 hK2=>?_);simp only [WSY,WY,simprocAttr,implies_true,amz,tys];(refine CallY.of 2000000 (ownI B l e s) (H (acc3)) (H (acc3 ++ [⟨w,s.j,e.kind⟩])) _ _ _ rfl (ownI_ge hB _ _ _) ?_ (hH _) hyc0 hlk0 (keptH hh _ _) (by decide) (by simp [AV.okB,AV.okB_agg]) ?_);(focus (simp only [ownI_keep hB,List.map_cons,AO.keep_box,AV.keep_p,List.map_nil,evC];done));refine hK2 _ ?_;clear hK2 K2;(refine WLI.weak (Weak.hpe _ (ownI B l e s ++ H (acc3 ++ [⟨w,s.j,e.kind⟩])) (lk_swap (ownI_ge hB _ _ _) (hH _))) ?_);simp only [List.map_cons,List.map_nil,AV.keep_own,AV.keep_ptr,AV.keep_rptr,AV.keep_pre,AV.keep_p,AV.keep_elt,AV.keep_junk,AV.keep_cap0,AV.keep_fn,AV.keep_agg,AV.keep_tup,Nat.reduceLeDiff,true_or,reduceIte,List.mem_singleton,or_true,ownI,List.cons_append,put_some,tys]
          (with_reducible refine WLI.stepP fun K2 hK2=>?_);simp only [simprocAttr,implies_true,amz,tys];(repeat' (first|with_reducible (first|(refine hK2 _ ?_;clear hK2 K2)|refine And.intro ?_ ?_|intro hb)))
          (with_reducible refine WLI.fin ?_);refine hK' _ ?_;clear hK' K';(try simp only [ThenA,InBlock,reduceIte,Nat.reduceEqDiff]);(try ((repeat ((fail_if_success (refine hK _ ?_));clear hK K));refine hK _ ?_;clear hK K))
          repeat' (first|refine T.seqK fun K hK=>?_|refine T.block ?_|(refine T.reg (by kernel_rfl) fun K' hK'=>?_;simp only [startSt,frOf,List.map_cons,List.map_nil];(repeat' (first|(with_reducible refine WL.fin ?_;refine hK' _ ?_;clear hK' K')|((with_reducible refine WL.step fun K2 hK2=>?_);simp only [simprocAttr,implies_true,amz,tys];(repeat' (first|with_reducible (first|(refine hK2 _ ?_;clear hK2 K2)|refine And.intro ?_ ?_|intro hb) ))))))|refine T.skip ?_|refine T.exit ?_|refine T.condT rfl ?_|refine T.condF rfl ?_|refine T.cond rfl (fun hc=>?_) (fun hc=>?_)|refine T.ret ?_|simp only [ThenA,InBlock,reduceIte,Nat.reduceEqDiff]|((repeat ((fail_if_success (refine hK _ ?_));clear hK K));refine hK _ ?_;clear hK K))
          refine Weak.frm _ _ _ _ (fun t=>?_) (by simp only [wks,reduceIte,Nat.reduceEqDiff,implies_true,and_self,frI,hy6,]) (by simp only [wks,AV.okB,Nat.reduceLT,decide_true,List.all_cons,List.all_nil,Bool.and_self,frI,hy6,]) ?_;(focus (first|rfl|(simp only [ownI,List.cons_append];done)));exact midI_ok hB hl hs (hH _)
        | false =>
          cases k5:(e.kind == 5) with
          | true =>
            have hrW:relsW l e s.j = [⟨w,s.j,e.kind⟩]:=by rw [relsW,hW];simp [rdK,k3,k5]
            rw [hrW] at hK hrest
            obtain ⟨lr,sp,fr0,hlk0,hyc0⟩:=hyld acc3 ⟨w,s.j,e.kind⟩ ⟨_,hrest⟩
            simp only [edC,List.map_cons,List.map_nil] at hyc0
            repeat' (first|refine T.seqK fun K hK=>?_|refine T.block ?_|refine T.skip ?_|refine T.exit ?_|refine T.condT rfl ?_|refine T.condF rfl ?_|refine T.cond rfl (fun hc=>?_) (fun hc=>?_)|refine T.ret ?_|simp only [ThenA,InBlock,reduceIte,Nat.reduceEqDiff]|((repeat ((fail_if_success (refine hK _ ?_));clear hK K));refine hK _ ?_;clear hK K))
            (refine T.reg (by kernel_rfl) fun K' hK'=>?_;simp only [startSt,frOf,List.map_cons,List.map_nil];(repeat' (first|(with_reducible refine WL.fin ?_;refine hK' _ ?_;clear hK' K')|((with_reducible refine WL.step fun K2 hK2=>?_);simp only [simprocAttr,implies_true,amz,tys,hW,k3,k5,keyed_69,keyOf_69 iO iF,plM_at nI _ iO iF,nI,tl_none hB hR ht,tl_set hB hR ht,Option.isSome_some];(repeat' (first|with_reducible (first|(refine hK2 _ ?_;clear hK2 K2)|refine And.intro ?_ ?_|intro hb) )))));all_goals ((try simp only [ThenA,InBlock,reduceIte,Nat.reduceEqDiff]);(try ((repeat ((fail_if_success (refine hK _ ?_));clear hK K));refine hK _ ?_;clear hK K))))
            repeat' (first|refine T.seqK fun K hK=>?_|refine T.block ?_|refine T.skip ?_|refine T.exit ?_|refine T.condT rfl ?_|refine T.condF rfl ?_|refine T.cond rfl (fun hc=>?_) (fun hc=>?_)|refine T.ret ?_|simp only [ThenA,InBlock,reduceIte,Nat.reduceEqDiff]|((repeat ((fail_if_success (refine hK _ ?_));clear hK K));refine hK _ ?_;clear hK K))
            (refine T.reg (by kernel_rfl) fun K' hK'=>?_;simp only [startSt,frOf,List.map_cons,List.map_nil];(repeat' (first|(with_reducible refine WL.fin ?_;refine hK' _ ?_;clear hK' K')|((with_reducible refine WL.step fun K2 hK2=>?_);simp only [simprocAttr,implies_true,amz,tys,hW,k3,k5,tl_none hB hR ht];(repeat' (first|with_reducible (first|(refine hK2 _ ?_;clear hK2 K2)|refine And.intro ?_ ?_|intro hb) )))));all_goals ((try simp only [ThenA,InBlock,reduceIte,Nat.reduceEqDiff]);(try ((repeat ((fail_if_success (refine hK _ ?_));clear hK K));refine hK _ ?_;clear hK K))))
            repeat' (first|refine T.seqK fun K hK=>?_|refine T.block ?_|refine T.skip ?_|refine T.exit ?_|refine T.condT rfl ?_|refine T.condF rfl ?_|refine T.cond rfl (fun hc=>?_) (fun hc=>?_)|refine T.ret ?_|simp only [ThenA,InBlock,reduceIte,Nat.reduceEqDiff]|((repeat ((fail_if_success (refine hK _ ?_));clear hK K));refine hK _ ?_;clear hK K))
            refine T.regI (by kernel_rfl) fun K' hK'=>?_;simp only [List.map_cons,List.map_nil]
            iterate 6 ((with_reducible refine WLI.stepP fun K2 hK2=>?_);simp only [simprocAttr,implies_true,amz,tys,tl_none hB hR ht];(repeat' (first|with_reducible (first|(refine hK2 _ ?_;clear hK2 K2)|refine And.intro ?_ ?_|intro hb))))
            (with_reducible refine WLI.stepY fun K2 hK2=>?_);simp only [WSY,WY,simprocAttr,implies_true,amz,tys];(refine CallY.of 2000000 (ownI B l e s) (H (acc3)) (H (acc3 ++ [⟨w,s.j,e.kind⟩])) _ _ _ rfl (ownI_ge hB _ _ _) ?_ (hH _) hyc0 hlk0 (keptH hh _ _) (by decide) (by simp [AV.okB,AV.okB_agg]) ?_);(focus (simp only [ownI_keep hB,List.map_cons,AO.keep_box,AV.keep_p,List.map_nil,evC];done));refine hK2 _ ?_;clear hK2 K2;(refine WLI.weak (Weak.hpe _ (ownI B l e s ++ H (acc3 ++ [⟨w,s.j,e.kind⟩])) (lk_swap (ownI_ge hB _ _ _) (hH _))) ?_);simp only [List.map_cons,List.map_nil,AV.keep_own,AV.keep_ptr,AV.keep_rptr,AV.keep_pre,AV.keep_p,AV.keep_elt,AV.keep_junk,AV.keep_cap0,AV.keep_fn,AV.keep_agg,AV.keep_tup,Nat.reduceLeDiff,true_or,reduceIte,List.mem_singleton,or_true,ownI,List.cons_append,put_some,tys]
            (with_reducible refine WLI.stepP fun K2 hK2=>?_);simp only [simprocAttr,implies_true,amz,tys];(repeat' (first|with_reducible (first|(refine hK2 _ ?_;clear hK2 K2)|refine And.intro ?_ ?_|intro hb)))
            (with_reducible refine WLI.fin ?_);refine hK' _ ?_;clear hK' K';(try simp only [ThenA,InBlock,reduceIte,Nat.reduceEqDiff]);(try ((repeat ((fail_if_success (refine hK _ ?_));clear hK K));refine hK _ ?_;clear hK K))
            repeat' (first|refine T.seqK fun K hK=>?_|refine T.block ?_|(refine T.reg (by kernel_rfl) fun K' hK'=>?_;simp only [startSt,frOf,List.map_cons,List.map_nil];(repeat' (first|(with_reducible refine WL.fin ?_;refine hK' _ ?_;clear hK' K')|((with_reducible refine WL.step fun K2 hK2=>?_);simp only [simprocAttr,implies_true,amz,tys];(repeat' (first|with_reducible (first|(refine hK2 _ ?_;clear hK2 K2)|refine And.intro ?_ ?_|intro hb) ))))))|refine T.skip ?_|refine T.exit ?_|refine T.condT rfl ?_|refine T.condF rfl ?_|refine T.cond rfl (fun hc=>?_) (fun hc=>?_)|refine T.ret ?_|simp only [ThenA,InBlock,reduceIte,Nat.reduceEqDiff]|((repeat ((fail_if_success (refine hK _ ?_));clear hK K));refine hK _ ?_;clear hK K))
            refine Weak.frm _ _ _ _ (fun t=>?_) (by simp only [wks,reduceIte,Nat.reduceEqDiff,implies_true,and_self,frI,hy6,]) (by simp only [wks,AV.okB,Nat.reduceLT,decide_true,List.all_cons,List.all_nil,Bool.and_self,frI,hy6,]) ?_;(focus (first|rfl|(simp only [ownI,List.cons_append];done)));exact midI_ok hB hl hs (hH _)
          | false =>
            have hrW:relsW l e s.j = []:=by rw [relsW,hW];simp [rdK,k3,k5]
            rw [hrW,List.append_nil] at hK
            repeat' (first|refine T.seqK fun K hK=>?_|refine T.block ?_|(refine T.reg (by kernel_rfl) fun K' hK'=>?_;simp only [startSt,frOf,List.map_cons,List.map_nil];(repeat' (first|(with_reducible refine WL.fin ?_;refine hK' _ ?_;clear hK' K')|((with_reducible refine WL.step fun K2 hK2=>?_);simp only [simprocAttr,implies_true,amz,tys,hW,k3,k5,keyed_69,keyOf_69 iO iF,plM_at nI _ iO iF,nI,tl_none hB hR ht,tl_set hB hR ht,Option.isSome_some];(repeat' (first|with_reducible (first|(refine hK2 _ ?_;clear hK2 K2)|refine And.intro ?_ ?_|intro hb) ))))))|refine T.skip ?_|refine T.exit ?_|refine T.condT rfl ?_|refine T.condF rfl ?_|refine T.cond rfl (fun hc=>?_) (fun hc=>?_)|refine T.ret ?_|simp only [ThenA,InBlock,reduceIte,Nat.reduceEqDiff]|((repeat ((fail_if_success (refine hK _ ?_));clear hK K));refine hK _ ?_;clear hK K))
            refine Weak.frm _ _ _ _ (fun t=>?_) (by simp only [wks,reduceIte,Nat.reduceEqDiff,implies_true,and_self,frI,hy6,]) (by simp only [wks,AV.okB,Nat.reduceLT,decide_true,List.all_cons,List.all_nil,Bool.and_self,frI,hy6,]) ?_;(focus (first|rfl|(simp only [ownI,List.cons_append];done)));exact midI_ok hB hl hs (hH _)
    intro s' hw
    refine hK s' ?_
    refine T.weak hw ?_
    clear hK hw s' K ht
    obtain ⟨acc4,hacc4⟩ : ∃ a,a=acc3 ++ relsW l e s.j:=⟨_,rfl⟩
    rw [← hacc4]
    have hfin:acc4=relsU l (s.j + 1):=by rw [relsU_succ hx,relsJ,hacc4,hacc3,hacc1,hacc];simp only [List.append_assoc]
    have ht:=hH acc4
    rw [hfin] at ht ⊢
    clear hfin hrest hacc4 hacc3 hacc1 hacc
    have hmA:s.a < maxLen:=by have:=hs.a;unfold maxLen;omega
    have hmB:s.b < maxLen:=by have:=hs.b;unfold maxLen;omega
    have hmC:s.c < maxLen:=by have:=hs.c;unfold maxLen;omega
    have hmC1:s.c + 1 < maxLen:=by have:=hs.c;unfold maxLen;omega
    have hmD:s.d < maxLen:=by have:=hs.d;unfold maxLen;omega
    have hj53:s.j < 1152921504606846976:=by omega
    simp only [frI,ownI,List.cons_append]
    cases k14:(e.kind == 14) with
    | true =>
      have k4:(e.kind == 4)=false:=by simp at k14 ⊢;omega
      have k5:(e.kind == 5)=false:=by simp at k14 ⊢;omega
      repeat' (first|refine T.seqK fun K hK=>?_|refine T.block ?_|(refine T.reg (by kernel_rfl) fun K' hK'=>?_;simp only [startSt,frOf,List.map_cons,List.map_nil];(repeat' (first|(with_reducible refine WL.fin ?_;refine hK' _ ?_;clear hK' K')|((with_reducible refine WL.step fun K2 hK2=>?_);simp only [simprocAttr,implies_true,amz,tys,hmA,hmB,hmC,hmC1,hmD,keyed_3,keyOf_3 iG,last_upd hx,tl_none hB hR ht,tl_set hB hR ht,k14,keyOf_3 (iK (by simpa using k14)),starts_upd hx k14];(repeat' (first|with_reducible (first|(refine hK2 _ ?_;clear hK2 K2)|refine And.intro ?_ ?_|intro hb) ))))))|refine T.skip ?_|refine T.exit ?_|refine T.condT rfl ?_|refine T.condF rfl ?_|refine T.cond rfl (fun hc=>?_) (fun hc=>?_)|refine T.ret ?_|simp only [ThenA,InBlock,reduceIte,Nat.reduceEqDiff]|((repeat ((fail_if_success (refine hK _ ?_));clear hK K));refine hK _ ?_;clear hK K))
      have hs2:ItOk l ⟨s.j + 1,s.m,s.R,s.a + 1,s.b + 1,s.c,s.d⟩:=it_same hs hx (by simp [pubK,k14]) _ _ _ _ (by have:=hs.a;omega) (by have:=hs.b;omega) (by have:=hs.c;omega) (by have:=hs.d;omega)
      refine hKL _ _ ?_ hs2 (by simp only [];omega)
      refine Weak.subs _ _ _ _ (fun t o ho=>?_) (by simp only [wks,reduceIte,Nat.reduceEqDiff,implies_true,and_self,hy4,wrap_succ hj53]) (by simp only [wks,AV.okB,Nat.reduceLT,decide_true,List.all_cons,List.all_nil,Bool.and_self,hy4]) (hpI_ok hB hl hs2 (hH _));have h1:=(hpI_ok hB hl hs2 (hH _) t o ho).1;simp only [hpI,wr_same hx k4 k5] at ho;exact (lookup_cons_ne (by omega)).trans ((lookup_cons_ne (by omega)).trans ho)
    | false =>
      cases k4:(e.kind == 4) with
      | true =>
        have hw:wrAt e.obj e.off e=true:=by simp [wrAt,k4]
        repeat' (first|refine T.seqK fun K hK=>?_|refine T.block ?_|(refine T.reg (by kernel_rfl) fun K' hK'=>?_;simp only [startSt,frOf,List.map_cons,List.map_nil];(repeat' (first|(with_reducible refine WL.fin ?_;refine hK' _ ?_;clear hK' K')|((with_reducible refine WL.step fun K2 hK2=>?_);simp only [simprocAttr,implies_true,amz,tys,hmA,hmB,hmC,hmC1,hmD,keyed_3,keyOf_3 iG,last_upd hx,tl_none hB hR ht,tl_set hB hR ht,k14,k4,keyed_69,keyOf_69 iO iF,wr_upd hx hw iO iF];(repeat' (first|with_reducible (first|(refine hK2 _ ?_;clear hK2 K2)|refine And.intro ?_ ?_|intro hb) ))))))|refine T.skip ?_|refine T.exit ?_|refine T.condT rfl ?_|refine T.condF rfl ?_|refine T.cond rfl (fun hc=>?_) (fun hc=>?_)|refine T.ret ?_|simp only [ThenA,InBlock,reduceIte,Nat.reduceEqDiff]|((repeat ((fail_if_success (refine hK _ ?_));clear hK K));refine hK _ ?_;clear hK K))
        have hs2:ItOk l ⟨s.j + 1,s.m,s.R,s.a + 1,s.b,s.c,s.d + 1⟩:=it_same hs hx (by simp [pubK,k4]) _ _ _ _ (by have:=hs.a;omega) (by have:=hs.b;omega) (by have:=hs.c;omega) (by have:=hs.d;omega)
        refine hKL _ _ ?_ hs2 (by simp only [];omega)
        refine Weak.subs _ _ _ _ (fun t o ho=>?_) (by simp only [wks,reduceIte,Nat.reduceEqDiff,implies_true,and_self,hy4,wrap_succ hj53]) (by simp only [wks,AV.okB,Nat.reduceLT,decide_true,List.all_cons,List.all_nil,Bool.and_self,hy4]) (hpI_ok hB hl hs2 (hH _));have h1:=(hpI_ok hB hl hs2 (hH _) t o ho).1;simp only [hpI,starts_same hx k14] at ho;exact (lookup_cons_ne (by omega)).trans ((lookup_cons_ne (by omega)).trans ho)
      | false =>
        cases k5:(e.kind == 5) with
        | true =>
          have hw:wrAt e.obj e.off e=true:=by simp [wrAt,k5]
          repeat' (first|refine T.seqK fun K hK=>?_|refine T.block ?_|(refine T.reg (by kernel_rfl) fun K' hK'=>?_;simp only [startSt,frOf,List.map_cons,List.map_nil];(repeat' (first|(with_reducible refine WL.fin ?_;refine hK' _ ?_;clear hK' K')|((with_reducible refine WL.step fun K2 hK2=>?_);simp only [simprocAttr,implies_true,amz,tys,hmA,hmB,hmC,hmC1,hmD,keyed_3,keyOf_3 iG,last_upd hx,tl_none hB hR ht,tl_set hB hR ht,k14,k4,k5,keyed_69,keyOf_69 iO iF,wr_upd hx hw iO iF];(repeat' (first|with_reducible (first|(refine hK2 _ ?_;clear hK2 K2)|refine And.intro ?_ ?_|intro hb) ))))))|refine T.skip ?_|refine T.exit ?_|refine T.condT rfl ?_|refine T.condF rfl ?_|refine T.cond rfl (fun hc=>?_) (fun hc=>?_)|refine T.ret ?_|simp only [ThenA,InBlock,reduceIte,Nat.reduceEqDiff]|((repeat ((fail_if_success (refine hK _ ?_));clear hK K));refine hK _ ?_;clear hK K))
          have hs2:ItOk l ⟨s.j + 1,s.m,s.R,s.a + 1,s.b,s.c,s.d + 1⟩:=it_same hs hx (by simp [pubK,k5]) _ _ _ _ (by have:=hs.a;omega) (by have:=hs.b;omega) (by have:=hs.c;omega) (by have:=hs.d;omega)
          refine hKL _ _ ?_ hs2 (by simp only [];omega)
          refine Weak.subs _ _ _ _ (fun t o ho=>?_) (by simp only [wks,reduceIte,Nat.reduceEqDiff,implies_true,and_self,hy4,wrap_succ hj53]) (by simp only [wks,AV.okB,Nat.reduceLT,decide_true,List.all_cons,List.all_nil,Bool.and_self,hy4]) (hpI_ok hB hl hs2 (hH _));have h1:=(hpI_ok hB hl hs2 (hH _) t o ho).1;simp only [hpI,starts_same hx k14] at ho;exact (lookup_cons_ne (by omega)).trans ((lookup_cons_ne (by omega)).trans ho)
        | false =>
          cases k1:(e.kind == 1) with
          | true =>
            repeat' (first|refine T.seqK fun K hK=>?_|refine T.block ?_|(refine T.reg (by kernel_rfl) fun K' hK'=>?_;simp only [startSt,frOf,List.map_cons,List.map_nil];(repeat' (first|(with_reducible refine WL.fin ?_;refine hK' _ ?_;clear hK' K')|((with_reducible refine WL.step fun K2 hK2=>?_);simp only [simprocAttr,implies_true,amz,tys,hmA,hmB,hmC,hmC1,hmD,keyed_3,keyOf_3 iG,last_upd hx,tl_none hB hR ht,tl_set hB hR ht,k14,k4,k5,k1];(repeat' (first|with_reducible (first|(refine hK2 _ ?_;clear hK2 K2)|refine And.intro ?_ ?_|intro hb) ))))))|refine T.skip ?_|refine T.exit ?_|refine T.condT rfl ?_|refine T.condF rfl ?_|refine T.cond rfl (fun hc=>?_) (fun hc=>?_)|refine T.ret ?_|simp only [ThenA,InBlock,reduceIte,Nat.reduceEqDiff]|((repeat ((fail_if_success (refine hK _ ?_));clear hK K));refine hK _ ?_;clear hK K))
            have hs2:ItOk l ⟨s.j + 1,s.m,s.R,s.a + 1,s.b,s.c,s.d⟩:=it_same hs hx (by simp [pubK,k1]) _ _ _ _ (by have:=hs.a;omega) (by have:=hs.b;omega) (by have:=hs.c;omega) (by have:=hs.d;omega)
            refine hKL _ _ ?_ hs2 (by simp only [];omega)
            refine Weak.subs _ _ _ _ (fun t o ho=>?_) (by simp only [wks,reduceIte,Nat.reduceEqDiff,implies_true,and_self,hy4,wrap_succ hj53]) (by simp only [wks,AV.okB,Nat.reduceLT,decide_true,List.all_cons,List.all_nil,Bool.and_self,hy4]) (hpI_ok hB hl hs2 (hH _));have h1:=(hpI_ok hB hl hs2 (hH _) t o ho).1;simp only [hpI,starts_same hx k14,wr_same hx k4 k5] at ho;exact (lookup_cons_ne (by omega)).trans ((lookup_cons_ne (by omega)).trans ho)
          | false =>
            cases k2:(e.kind == 2) with
            | true =>
              repeat' (first|refine T.seqK fun K hK=>?_|refine T.block ?_|(refine T.reg (by kernel_rfl) fun K' hK'=>?_;simp only [startSt,frOf,List.map_cons,List.map_nil];(repeat' (first|(with_reducible refine WL.fin ?_;refine hK' _ ?_;clear hK' K')|((with_reducible refine WL.step fun K2 hK2=>?_);simp only [simprocAttr,implies_true,amz,tys,hmA,hmB,hmC,hmC1,hmD,keyed_3,keyOf_3 iG,last_upd hx,tl_none hB hR ht,tl_set hB hR ht,k14,k4,k5,k1,k2];(repeat' (first|with_reducible (first|(refine hK2 _ ?_;clear hK2 K2)|refine And.intro ?_ ?_|intro hb) ))))))|refine T.skip ?_|refine T.exit ?_|refine T.condT rfl ?_|refine T.condF rfl ?_|refine T.cond rfl (fun hc=>?_) (fun hc=>?_)|refine T.ret ?_|simp only [ThenA,InBlock,reduceIte,Nat.reduceEqDiff]|((repeat ((fail_if_success (refine hK _ ?_));clear hK K));refine hK _ ?_;clear hK K))
              have hs2:ItOk l ⟨s.j + 1,s.m,s.R,s.a + 1,s.b,s.c,s.d⟩:=it_same hs hx (by simp [pubK,k2]) _ _ _ _ (by have:=hs.a;omega) (by have:=hs.b;omega) (by have:=hs.c;omega) (by have:=hs.d;omega)
              refine hKL _ _ ?_ hs2 (by simp only [];omega)
              refine Weak.subs _ _ _ _ (fun t o ho=>?_) (by simp only [wks,reduceIte,Nat.reduceEqDiff,implies_true,and_self,hy4,wrap_succ hj53]) (by simp only [wks,AV.okB,Nat.reduceLT,decide_true,List.all_cons,List.all_nil,Bool.and_self,hy4]) (hpI_ok hB hl hs2 (hH _));have h1:=(hpI_ok hB hl hs2 (hH _) t o ho).1;simp only [hpI,starts_same hx k14,wr_same hx k4 k5] at ho;exact (lookup_cons_ne (by omega)).trans ((lookup_cons_ne (by omega)).trans ho)
            | false =>
              cases k3:(e.kind == 3) with
              | true =>
                repeat' (first|refine T.seqK fun K hK=>?_|refine T.block ?_|(refine T.reg (by kernel_rfl) fun K' hK'=>?_;simp only [startSt,frOf,List.map_cons,List.map_nil];(repeat' (first|(with_reducible refine WL.fin ?_;refine hK' _ ?_;clear hK' K')|((with_reducible refine WL.step fun K2 hK2=>?_);simp only [simprocAttr,implies_true,amz,tys,hmA,hmB,hmC,hmC1,hmD,keyed_3,keyOf_3 iG,last_upd hx,tl_none hB hR ht,tl_set hB hR ht,k14,k4,k5,k1,k2,k3];(repeat' (first|with_reducible (first|(refine hK2 _ ?_;clear hK2 K2)|refine And.intro ?_ ?_|intro hb) ))))))|refine T.skip ?_|refine T.exit ?_|refine T.condT rfl ?_|refine T.condF rfl ?_|refine T.cond rfl (fun hc=>?_) (fun hc=>?_)|refine T.ret ?_|simp only [ThenA,InBlock,reduceIte,Nat.reduceEqDiff]|((repeat ((fail_if_success (refine hK _ ?_));clear hK K));refine hK _ ?_;clear hK K))
                have hs2:ItOk l ⟨s.j + 1,s.m,s.R,s.a + 1,s.b,s.c,s.d⟩:=it_same hs hx (by simp [pubK,k3]) _ _ _ _ (by have:=hs.a;omega) (by have:=hs.b;omega) (by have:=hs.c;omega) (by have:=hs.d;omega)
                refine hKL _ _ ?_ hs2 (by simp only [];omega)
                refine Weak.subs _ _ _ _ (fun t o ho=>?_) (by simp only [wks,reduceIte,Nat.reduceEqDiff,implies_true,and_self,hy4,wrap_succ hj53]) (by simp only [wks,AV.okB,Nat.reduceLT,decide_true,List.all_cons,List.all_nil,Bool.and_self,hy4]) (hpI_ok hB hl hs2 (hH _));have h1:=(hpI_ok hB hl hs2 (hH _) t o ho).1;simp only [hpI,starts_same hx k14,wr_same hx k4 k5] at ho;exact (lookup_cons_ne (by omega)).trans ((lookup_cons_ne (by omega)).trans ho)
              | false =>
                have hpk:pubK e.kind=true:=by simp [pubK,k14,k4,k5,k1,k2,k3]
                cases hM:s.m e.obj e.off with
                | some i =>
                  obtain ⟨r,hr⟩ : ∃ r,r=atL l e.obj e.off s.j:=⟨_,rfl⟩
                  have hrow:=hs.row _ _ _ hM
                  rw [← hr] at hrow
                  have hrw:=tl_row (B:=B) ht (rowsI_at hrow)
                  have hat:atM B s.m (kyl e.obj e.off)=some (.own (i + B)):=by rw [atM,plA_at _ iO iF,hM];rfl
                  have hi6:i < 1000000:=by have:=(List.getElem?_eq_some_iff.1 hrow).1;have:=hs.R;have:=hs.j;omega
                  have hR2:(List.map rowI (s.R.set i (r ++ [s.j]))).length ≤ 1000000:=by rw [List.length_map,List.length_set];have:=hs.R;have:=hs.j;omega
                  have pyi:(y=i + B)=False:=by simp;omega
                  have n0:(i + B=5000000)=False:=by simp;omega
                  have m0:(5000000=i + B)=False:=by simp;omega
                  have n1:(i + B=5000001)=False:=by simp;omega
                  have m1:(5000001=i + B)=False:=by simp;omega
                  have n2:(i + B=5000002)=False:=by simp;omega
                  have m2:(5000002=i + B)=False:=by simp;omega
                  have n3:(i + B=5000003)=False:=by simp;omega
                  have m3:(5000003=i + B)=False:=by simp;omega
                  have n4:(i + B=5000004)=False:=by simp;omega
                  have m4:(5000004=i + B)=False:=by simp;omega
                  have n5:(i + B=5000005)=False:=by simp;omega
                  have m5:(5000005=i + B)=False:=by simp;omega
                  have n6:(i + B=5000006)=False:=by simp;omega
                  have m6:(5000006=i + B)=False:=by simp;omega
                  have hrn:r.length ≤ 1000000:=by
                    rw [hr]
                    have:=List.length_filter_le (fun k=>(l[k]?).any (pubAt e.obj e.off)) (List.range s.j)
                    rw [List.length_range] at this
                    have h2:=hs.j
                    unfold atL
                    omega
                  have hb0 : 1≤maxLen:=by unfold maxLen;omega
                  have hb1:r.length + 1≤maxLen:=by unfold maxLen;omega
                  have hb2:(r.length + 1) * 8 ≤ 140737488355328:=by omega
                  have hsub:=tl_sub (B:=B) (R:=s.R.map rowI) ht (t:=i + B) AV.junk (by omega)
                  have hset:=tl_setI (B:=B) hB (R:=s.R.map rowI) ht i (rowI (r ++ [s.j]))
                  repeat' (first|refine T.seqK fun K hK=>?_|refine T.block ?_|(refine T.reg (by kernel_rfl) fun K' hK'=>?_;simp only [startSt,frOf,List.map_cons,List.map_nil];(repeat' (first|(with_reducible refine WL.fin ?_;refine hK' _ ?_;clear hK' K')|((with_reducible refine WL.step fun K2 hK2=>?_);simp only [simprocAttr,implies_true,amz,tys,hmA,hmB,hmC,hmC1,hmD,keyed_3,keyOf_3 iG,last_upd hx,tl_none hB hR ht,tl_set hB hR ht,k14,k4,k5,k1,k2,k3,keyed_69,keyOf_69 iO iF,hat,hrw,rowI_len,hb0,hb1,hb2,hsub,hset,rowI_snoc,rowsI_set,AO.sub_amap,atM_old hs hM iO iF,pyi,tl_set hB hR2 ht,tl_none hB hR2 ht,n0,n1,n2,n3,n4,n5,n6,m0,m1,m2,m3,m4,m5,m6];(repeat' (first|with_reducible (first|(refine hK2 _ ?_;clear hK2 K2)|refine And.intro ?_ ?_|intro hb) ))))))|refine T.skip ?_|refine T.exit ?_|refine T.condT rfl ?_|refine T.condF rfl ?_|refine T.cond rfl (fun hc=>?_) (fun hc=>?_)|refine T.ret ?_|simp only [ThenA,InBlock,reduceIte,Nat.reduceEqDiff]|((repeat ((fail_if_success (refine hK _ ?_));clear hK K));refine hK _ ?_;clear hK K))
                  have hs2:ItOk l ⟨s.j + 1,s.m,s.R.set i (r ++ [s.j]),s.a + 1,s.b,s.c + 1 + 1,s.d⟩:=by
                    rw [hr]
                    exact it_old hs hx hpk hM _ _ _ _ (by have:=hs.a;omega) (by have:=hs.b;omega) (by have:=hs.c;omega) (by have:=hs.d;omega)
                  refine hKL _ _ ?_ hs2 (by simp only [];omega)
                  refine Weak.subs _ _ _ _ (fun t o ho=>?_) (by simp only [wks,reduceIte,Nat.reduceEqDiff,implies_true,and_self,hy4,wrap_succ hj53]) (by simp only [wks,AV.okB,Nat.reduceLT,decide_true,List.all_cons,List.all_nil,Bool.and_self,hy4]) (hpI_ok hB hl hs2 (hH _));have h1:=(hpI_ok hB hl hs2 (hH _) t o ho).1;simp only [hpI,starts_same hx k14,wr_same hx k4 k5] at ho;exact (lookup_cons_ne (by omega)).trans ((lookup_cons_ne (by omega)).trans ho)
                | none =>
                  have hat:atM B s.m (kyl e.obj e.off)=none:=by rw [atM,plA_at _ iO iF,hM];rfl
                  have hb1 : 1≤maxLen:=by unfold maxLen;omega
                  repeat' (first|refine T.seqK fun K hK=>?_|refine T.block ?_|(refine T.reg (by kernel_rfl) fun K' hK'=>?_;simp only [startSt,frOf,List.map_cons,List.map_nil];(repeat' (first|(with_reducible refine WL.fin ?_;refine hK' _ ?_;clear hK' K')|((with_reducible refine WL.step fun K2 hK2=>?_);simp only [simprocAttr,implies_true,amz,tys,hmA,hmB,hmC,hmC1,hmD,keyed_3,keyOf_3 iG,last_upd hx,tl_none hB hR ht,tl_set hB hR ht,k14,k4,k5,k1,k2,k3,keyed_69,keyOf_69 iO iF,hat,hb1];(repeat' (first|with_reducible (first|(refine hK2 _ ?_;clear hK2 K2)|refine And.intro ?_ ?_|intro hb) ))))))|refine T.skip ?_|refine T.exit ?_|refine T.condT rfl ?_|refine T.condF rfl ?_|refine T.cond rfl (fun hc=>?_) (fun hc=>?_)|refine T.ret ?_|simp only [ThenA,InBlock,reduceIte,Nat.reduceEqDiff]|((repeat ((fail_if_success (refine hK _ ?_));clear hK K));refine hK _ ?_;clear hK K))
                  have hs2:ItOk l ⟨s.j + 1,updN s.m e.obj e.off s.R.length,s.R ++ [[s.j]],s.a + 1,s.b,s.c + 1 + 1,s.d⟩:=it_new hs hx hpk hM _ _ _ _ (by have:=hs.a;omega) (by have:=hs.b;omega) (by have:=hs.c;omega) (by have:=hs.d;omega)
                  have hR1:s.R.length ≤ 1000000:=by have:=hs.R;have:=hs.j;omega
                  have hz1:(s.R.length + B < 5000007)=True:=by simp;omega
                  have p0:(5000000=s.R.length + B)=False:=by simp;omega
                  have q0:(5000000 != s.R.length + B)=true:=by simp;omega
                  have p1:(5000001=s.R.length + B)=False:=by simp;omega
                  have q1:(5000001 != s.R.length + B)=true:=by simp;omega
                  have p2:(5000002=s.R.length + B)=False:=by simp;omega
                  have q2:(5000002 != s.R.length + B)=true:=by simp;omega
                  have p3:(5000003=s.R.length + B)=False:=by simp;omega
                  have q3:(5000003 != s.R.length + B)=true:=by simp;omega
                  have p4:(5000004=s.R.length + B)=False:=by simp;omega
                  have q4:(5000004 != s.R.length + B)=true:=by simp;omega
                  have p5:(5000005=s.R.length + B)=False:=by simp;omega
                  have q5:(5000005 != s.R.length + B)=true:=by simp;omega
                  have p6:(5000006=s.R.length + B)=False:=by simp;omega
                  have q6:(5000006 != s.R.length + B)=true:=by simp;omega
                  have hne:=tl_ne2 (B:=B) hB hR ht (t := 5000006) (by omega)
                  rw [List.length_map] at hne
                  have hren:=tl_ren (B:=B) (R:=s.R.map rowI) ht (t := 5000006) (t':=s.R.length + B) (by omega) (by omega)
                  have py:(y=5000006)=False:=by simp;omega
                  have pz:(y=s.R.length + B)=False:=by simp;omega
                  refine hKL _ _ ((Weak.ren _ 5000006 (s.R.length + B)).trans ?_) hs2 (by simp only [];omega)
                  simp only [ASt.ren,AV.ren_own,AV.ren_ptr,AV.ren_rptr,AV.ren_pre,AV.ren_p,AV.ren_elt,AV.ren_junk,AV.ren_cap0,AV.ren_fn,AV.ren_agg,AV.ren_tup,AO.ren_box,AO.ren_row,AO.ren_map,AO.ren_raw,List.map_cons,List.map_nil,List.filter_cons,List.filter_nil,lk_cons,lk_nil,reduceIte,Nat.reduceEqDiff,Nat.reduceLT,Nat.reduceBneDiff,bne_self_eq_false,Bool.and_true,Bool.and_false,Bool.true_and,Bool.false_and,Bool.and_self,Bool.false_eq_true,ne_eq,not_false_eq_true,not_true_eq_false,and_self,and_true,true_and,and_false,AO.ren_amap,atM_new hB hl hs _ iO iF,hne,hren,hz1,py,pz,p0,p1,p2,p3,p4,p5,p6,q0,q1,q2,q3,q4,q5,q6]
                  refine Weak.subs _ _ _ _ (fun t o ho=>?_) (by simp only [wks,reduceIte,Nat.reduceEqDiff,implies_true,and_self,hy4,wrap_succ hj53]) (by simp only [wks,AV.okB,Nat.reduceLT,decide_true,List.all_cons,List.all_nil,Bool.and_self,hy4]) (hpI_ok hB hl hs2 (hH _))
                  have h1:=(hpI_ok hB hl hs2 (hH _) t o ho).1
                  simp only [hpI,starts_same hx k14,wr_same hx k4 k5] at ho
                  rw [hpI_new hB _ _ _ _ hR1] at ho
                  exact (skip2 (by omega) (by omega)).trans ho
  · have hd:decide ((s.j:Int) < (l.length:Int))=false:=by simpa using hlt
    have hjl:s.j=l.length:=by have:=hs.j;omega
    simp only [hpI]
    repeat' (first|refine T.seqK fun K hK=>?_|refine T.block ?_|(refine T.reg (by kernel_rfl) fun K' hK'=>?_;simp only [startSt,frOf,List.map_cons,List.map_nil];(repeat' (first|(with_reducible refine WL.fin ?_;refine hK' _ ?_;clear hK' K')|((with_reducible refine WL.step fun K2 hK2=>?_);simp only [simprocAttr,implies_true,amz,tys,hd];(repeat' (first|with_reducible (first|(refine hK2 _ ?_;clear hK2 K2)|refine And.intro ?_ ?_|intro hb) ))))))|refine T.skip ?_|refine T.exit ?_|refine T.condT rfl ?_|refine T.condF rfl ?_|refine T.cond rfl (fun hc=>?_) (fun hc=>?_)|refine T.ret ?_|simp only [ThenA,InBlock,reduceIte,Nat.reduceEqDiff]|((repeat ((fail_if_success (refine hK _ ?_));clear hK K));refine hK _ ?_;clear hK K))
    refine FinM.ret (s':=⟨[],H (relsU l l.length),190,2000000⟩) (r := .tup []) (.inl rfl) Try.results41 (Weak.subs _ _ _ _ (fun t o ho=>?_) (by simp) (by simp) (fun t o h=>(hH _).at' h)) rfl rfl ⟨rfl,rfl⟩
    rw [← hjl] at ho
    exact (lk_end hB ((hH _).at' ho).1 _ _ _ _ _ _).trans ho
end Go.Proofs.Ytnckehomadnhoaa
namespace Go.Proofs.Ytnckehomadnhoaa
open Go.RowKit Go.Sort Go.Maps
set_option linter.unusedSimpArgs false
set_option linter.unusedVariables false
theorem T.rangeFS {P:Program} {Q:Exit→ASt→Prop} {s:ASt} {g:Operand} {ps:Array Tmp} {assign body:Code} (gf:FuncId) (caps:List AV) (fr:List (Nat × AV)) (hg:s.ev g = .fn (.func gf) caps) (he:Ent P gf) (hfr : ∀ p ∈ fr,s.get p.1=p.2)
    (hc : ∀ l sp,sp.n=s.n→sp.ps=ps→sp.assign=assign→sp.body=body → ∃ n hp I ks,MemC P gf n hp (.own s.N :: caps) I∧Passes (s.add (.lrec l sp fr)) n hp∧((AV.own s.N :: caps).all (·.okB n))=true ∧ ∀ hp' r,I hp' r→(∀ t ∈ ks,t < n→Kept hp hp' t)∧(∃ fr',hp'.lookup s.N=some (.lrec l sp fr')) ∧
      ∀ ob,Q .normal { (s.add (.lrec l sp fr)).callM n ks hp' with hp:=setHp ((s.add (.lrec l sp fr)).callM n ks hp').hp s.N (.raw (.func (.yield l) #[] #[]) ob) }):T Fence.wide P (.rangeFunc g ps assign body) Q s :=
  T.rangeF gf caps fr hg he hfr fun l fn D=>hc l ⟨s.n,fn,ps,assign,body,D⟩ rfl rfl rfl rfl
theorem HRel.congr {L:Nat→Prop} {N:Nat} {hp hp' : Hp} {loc:Nat→Option Value} {w:World} (h:HRel L N hp loc w) (e : ∀ t,hp'.lookup t=hp.lookup t):HRel L N hp' loc w:=⟨fun t o ho=>h.at' t o (e t ▸ ho),fun t ho=>h.dead t (e t ▸ ho),h.apart,h.inL,h.notL⟩
theorem mat_one (e n:Nat) : ∀ (R:List (List (List PV))) (b:Nat),∀ p ∈ mat e n b R,(mat e n b R).lookup p.1=some p.2
  | [],b,p,h=>by cases h
  | r :: R,b,p,h=>by
    rcases List.mem_cons.1 h with h|h
    · subst h;rw [mat,lookup_cons_eq]
    · have h1:=(mat_keys e n R (b + 1) p h).1
      rw [mat,lookup_cons_ne (by omega)]
      exact mat_one e n R (b + 1) p h
theorem HpOk.mat {n e m b:Nat} {R:List (List (List PV))} (h:b + R.length≤n):HpOk n (mat e m b R) :=
  ⟨fun p hp=>by
    obtain ⟨h1,h2,r,_,h3⟩:=mat_keys e m R b p hp
    rw [h3];exact ⟨by omega,rfl⟩,mat_one e m R b⟩
theorem HpOk.cons {n t:Nat} {o:AO} {hp:Hp} (h:HpOk n hp) (ht:t < n) (ho:o.okB n=true) (hn:hp.lookup t=Option.none):HpOk n ((t,o) :: hp) :=
  ⟨fun p hp=>by
    rcases List.mem_cons.1 hp with rfl|h1
    · exact ⟨ht,ho⟩
    · exact h.ok p h1,fun p hp=>by
    rcases List.mem_cons.1 hp with rfl|h1
    · rw [lookup_cons_eq]
    · rw [lookup_cons_ne,h.one p h1]
      intro e
      have:=h.one p h1
      rw [e,hn] at this
      cases this⟩
def triR (n:Nat) (f:Nat→Nat→Bool):List (List (List PV)):=(List.range n).map fun j=>rowR (j + 1) (f j)
theorem triR_len (n:Nat) (f:Nat→Nat→Bool):(triR n f).length=n:=by simp [triR]
theorem triR_at {n j:Nat} (f:Nat→Nat→Bool) (h:j < n):(triR n f)[j]? = some (rowR (j + 1) (f j)):=by
  unfold triR;rw [List.getElem?_map,List.getElem?_range h];rfl
theorem triR_set {n i j:Nat} (f:Nat→Nat→Bool) (b:Bool) (hj:j < n) (hi:i≤j):(triR n f).set j ((rowR (j + 1) (f j)).set i (bvC b))=triR n (updM f j i b):=by
  apply List.ext_getElem?
  intro k
  rw [List.getElem?_set]
  by_cases hk:k < n
  · rw [triR_at _ hk,triR_at _ hk]
    by_cases e:j=k
    · subst e
      rw [if_pos rfl,if_pos (by rw [triR_len];exact hj)]
      congr 1
      apply List.ext_getElem?
      intro q
      rw [List.getElem?_set]
      by_cases hq:q < j + 1
      · rw [rowR_at _ hq,rowR_at _ hq]
        by_cases e2:i=q
        · subst e2;rw [if_pos rfl,if_pos (by rw [rowR_len];omega)];simp [updM]
        · rw [if_neg e2];simp only [updM,true_and];rw [if_neg (fun h=>e2 h.symm)]
      · have e2 : ¬ i=q:=by omega
        rw [if_neg e2,List.getElem?_eq_none (by rw [rowR_len];omega),List.getElem?_eq_none (by rw [rowR_len];omega)]
    · rw [if_neg e]
      congr 1
      unfold rowR
      refine List.map_congr_left fun q _=>?_
      simp only [updM]
      rw [if_neg (fun h=>e h.1.symm)]
  · have e2 : ¬ j=k:=by omega
    rw [if_neg e2,List.getElem?_eq_none (by rw [triR_len];omega),List.getElem?_eq_none (by rw [triR_len];omega)]
theorem triR_snoc (j:Nat) (f:Nat→Nat→Bool):triR (j + 1) f=triR j f ++ [rowR (j + 1) (f j)]:=by
  simp [triR,List.range_succ]
def idM:Nat→Nat→Bool:=fun a b=>b == a
theorem rowR_id (j:Nat):(List.replicate (j + 1) (bvC false)).set j (bvC true)=rowR (j + 1) (idM j):=by
  apply List.ext_getElem?
  intro q
  rw [List.getElem?_set]
  by_cases hq:q < j + 1
  · rw [rowR_at _ hq]
    by_cases e:j=q
    · subst e;rw [if_pos rfl,if_pos (by simp)];simp [idM]
    · rw [if_neg e,List.getElem?_replicate,if_pos hq]
      have:(q == j)=false:=by simpa using fun h=>e h.symm
      simp [idM,this]
  · have e2 : ¬ j=q:=by omega
    rw [if_neg e2,List.getElem?_eq_none (by simp;omega),List.getElem?_eq_none (by rw [rowR_len];omega)]
def addE (f:Nat→Nat→Bool) (x:Ed):Nat→Nat→Bool:=fun a b=>if a=x.t.toNat then f a b || (decide (b≤x.f.toNat) && f x.f.toNat b) else f a b
def fC (acc:List Ed):Nat→Nat→Bool:=acc.foldl addE idM
def addQ (f:Nat→Nat→Bool) (i j q:Nat):Nat→Nat→Bool:=fun a b=>if a=j then f a b || (decide (b < q) && f i b) else f a b
theorem addQ_zero (f:Nat→Nat→Bool) (i j:Nat):addQ f i j 0=f:=by funext a b;simp [addQ]
theorem addQ_end (f:Nat→Nat→Bool) (i j:Nat) (k:Int):addQ f i j (i + 1)=addE f ⟨i,j,k⟩:=by
  funext a b
  simp only [addQ,addE,Int.toNat_natCast,Nat.lt_succ_iff]
theorem addQ_yes {f:Nat→Nat→Bool} {i j q:Nat} (h:f i q=true):updM (addQ f i j q) j q true=addQ f i j (q + 1):=by
  funext a b
  simp only [updM,addQ]
  by_cases ha:a=j
  · subst ha
    by_cases hb:b=q
    · subst hb;simp [h]
    · rw [if_neg (fun h'=>hb h'.2),if_pos rfl,if_pos rfl,show decide (b < q + 1)=decide (b < q) by simp;omega]
  · rw [if_neg (fun h'=>ha h'.1),if_neg ha,if_neg ha]
theorem addQ_no {f:Nat→Nat→Bool} {i j q:Nat} (h:f i q=false):addQ f i j q=addQ f i j (q + 1):=by
  funext a b
  simp only [addQ]
  by_cases hb:b=q
  · subst hb;simp [h]
  · rw [show decide (b < q + 1)=decide (b < q) by simp;omega]
theorem relsU_mem {l:List Ev} : ∀ {n:Nat} {x:Ed},x ∈ relsU l n → ∃ i j:Nat,i < j∧j < n∧x.f=i∧x.t=j
  | 0,x,h=>by cases h
  | n + 1,x,h=>by
    rw [relsU] at h
    rcases List.mem_append.1 h with h|h
    · obtain ⟨i,j,h1,h2,h3⟩:=relsU_mem h;exact ⟨i,j,h1,by omega,h3⟩
    · cases hx:l[n]? with
      | none=>rw [hx] at h;cases h
      | some e =>
        rw [hx] at h
        simp only [relsJ] at h
        rcases List.mem_append.1 h with h|h
        · rcases List.mem_append.1 h with h|h
          · unfold relsA at h
            split at h
            · rename_i i hi
              rw [List.mem_singleton.1 h]
              exact ⟨i,n,(lastI_lt hi).1,by omega,rfl,rfl⟩
            · split at h
              · rename_i i hi
                rw [List.mem_singleton.1 h]
                exact ⟨i,n,(lastI_lt hi).1,by omega,rfl,rfl⟩
              · cases h
          · unfold relsI at h
            obtain ⟨i,hi,rfl⟩:=List.mem_map.1 h
            exact ⟨i,n,(atL_mem (List.mem_filter.1 hi).1).1,by omega,rfl,rfl⟩
        · unfold relsW at h
          split at h
          · rename_i i hi
            split at h
            · rw [List.mem_singleton.1 h]
              exact ⟨i,n,(lastI_lt hi).1,by omega,rfl,rfl⟩
            · cases h
          · cases h
set_option maxHeartbeats 4000000 in
set_option maxRecDepth 100000 in
theorem relations_ok (l:List Ev):PureC Try.prog 29 [.p (.seq 9 (l.map evC))] (.fn (.func 41) [.elt [.seq 9 (l.map evC)] 0]):=by
  refine PureC.of Try.func29 rfl 4 rfl (by decide) (by simp [AV.okB]) ?_
  repeat' (first|refine T.seqK fun K hK=>?_|refine T.block ?_|(refine T.reg (by kernel_rfl) fun K' hK'=>?_;simp only [startSt,frOf,List.map_cons,List.map_nil];(repeat' (first|(with_reducible refine WL.fin ?_;refine hK' _ ?_;clear hK' K')|((with_reducible refine WL.step fun K2 hK2=>?_);simp only [simprocAttr,implies_true,amz,tys];(repeat' (first|with_reducible (first|(refine hK2 _ ?_;clear hK2 K2)|refine And.intro ?_ ?_|intro hb) ))))))|refine T.skip ?_|refine T.exit ?_|refine T.condT rfl ?_|refine T.condF rfl ?_|refine T.cond rfl (fun hc=>?_) (fun hc=>?_)|refine T.ret ?_|simp only [ThenA,InBlock,reduceIte,Nat.reduceEqDiff]|((repeat ((fail_if_success (refine hK _ ?_));clear hK K));refine hK _ ?_;clear hK K))
  refine FinA.retW (.inr rfl) Try.results29 (Weak.dat _ 0 none 22 [.seq 9 (l.map evC)] rfl) ?_
  simp only [ares,aresL,ares1,AV.dat_ptr,AV.dat_own,AV.dat_p,AV.dat_fn,List.map_cons,List.map_nil,reduceIte,simprocAttr,implies_true,amz]
theorem Weak.rowsD (R:List (List (List PV))) (q m N:Nat):Weak ⟨[(q,.own 0)],(0,.arow 33 (owns 10 R.length)) :: mat 4 1 10 R,m,N⟩ ⟨[(q,.p (.seq 1 (R.map fun r => [PV.seq 1 r])))],[],m,N⟩:=by
  refine (Weak.frzMat [(q,.own 0)] (fun t y=>by simp [AV.sub]) m N 33 4 10 R (by decide)).trans ?_
  refine (Weak.frz _ 0).trans ?_
  simp only [ASt.frz,lookup_cons_eq,ASt.subst,List.map_cons,List.map_nil,AV.sub,if_true]
  exact Weak.refl _
def hpT (n:Nat) (f:Nat→Nat→Bool):Hp:=(0,.arow 33 (owns 10 n)) :: mat 4 1 10 (triR n f)
def hpC (bb n:Nat) (f:Nat→Nat→Bool):Hp:=(1,.boxP (some bb) 31 [.own 0]) :: hpT n f
theorem hpT_hok (n:Nat) (f:Nat→Nat→Bool) (m:Nat) (hm : 10 + n≤m):HpOk m (hpT n f) :=
  (HpOk.mat (by rw [triR_len];exact hm)).cons (by omega) (owns_okB _ _ _ hm) (mat_below _ _ _ _ _ (by omega))
theorem hpC_hok (bb n:Nat) (f:Nat→Nat→Bool) (m:Nat) (hm : 10 + n≤m):HpOk m (hpC bb n f) :=
  (hpT_hok n f m hm).cons (by omega) (by simp [AO.okB_box,AV.okB];omega) (by rw [hpT,lookup_cons_ne (by omega),mat_below _ _ _ _ _ (by omega)])
theorem box_ok {o:AO} {L:Hp} {m:Nat} {pin:Option Nat} (h : ∀ t o,List.lookup t L=some o→t < m∧o.okB m=true) (t:Nat) (ho:List.lookup t ((1,.boxP pin 31 [.own 0]) :: L)=some o) (h0 : 1 < m):t < m∧o.okB m=true:=by
  rw [lk_cons] at ho
  split at ho
  · rename_i e;subst e;cases ho;exact ⟨h0,by simp only [AO.okB_box,List.all_cons,List.all_nil,Bool.and_true,AV.okB,decide_eq_true_eq];omega⟩
  · exact h t o ho
theorem hpB_hok (bb n:Nat) (f:Nat→Nat→Bool) (i j:Nat) (k:Int) (hn:n ≤ 1000000):HpOk 2000001 ((2000000,.boxP none 49 [.p (.val (.int .i64 i)),.p (.val (.int .i64 j)),.p (.val (.int .i64 k))]) :: hpC bb n f) :=
  (hpC_hok bb n f 2000001 (by omega)).cons (by omega) (by simp [AO.okB_box,AV.okB]) ((hpC_hok bb n f 2000000 (by omega)).none (Nat.le_refl _))
theorem mat_setHi {e n b t:Nat} (o:AO) {R:List (List (List PV))} (h:b + R.length≤t):List.map (fun p=>if p.1=t then (t,o) else p) (mat e n b R)=mat e n b R :=
  map_id_of fun p hp=>by rw [if_neg];have:=(mat_keys _ _ _ _ p hp).2.1;omega
theorem mat_push1 (o1 o0:AO) (e n:Nat) (R:List (List (List PV))) (r:List (List PV)) (t:Nat):List.lookup t ((1,o1) :: (0,o0) :: mat e n 10 (R ++ [r]))=List.lookup t ((R.length + 10,.row e n r) :: (1,o1) :: (0,o0) :: mat e n 10 R):=by
  by_cases h1:t=1
  · subst h1;rw [lookup_cons_eq,lookup_cons_ne (by omega),lookup_cons_eq]
  · rw [lookup_cons_ne h1,mat_push]
    by_cases h2:t=R.length + 10
    · subst h2;rw [lookup_cons_eq,lookup_cons_eq]
    · rw [lookup_cons_ne h2,lookup_cons_ne h2,lookup_cons_ne h1]
set_option maxHeartbeats 16000000 in
set_option maxRecDepth 100000 in
theorem cones_ok (l:List Ev) (hl:l.length ≤ 1000000) (hI : ∀ e ∈ l,inI e.g∧inI e.obj∧inI e.off∧(e.kind=14→inI e.k)):PureC Try.prog 36 [.p (.seq 9 (l.map evC))] (.p (.seq 1 ((triR l.length (fC (relsU l l.length))).map fun r => [PV.seq 1 r]))):=by
  obtain ⟨n,hn⟩ : ∃ n,n=l.length:=⟨_,rfl⟩
  have hml' : n≤maxLen:=by unfold maxLen;omega
  have hmb : 24 * n ≤ 140737488355328:=by omega
  have hrel:=relations_ok l
  rw [← hn] at hl ⊢
  refine PureC.of Try.func36 rfl 53 rfl (by decide) (by simp [AV.okB]) ?_
  repeat' (first|refine T.seqK fun K hK=>?_|refine T.block ?_|(refine T.reg (by kernel_rfl) fun K' hK'=>?_;simp only [startSt,frOf,List.map_cons,List.map_nil];(repeat' (first|(with_reducible refine WL.fin ?_;refine hK' _ ?_;clear hK' K')|((with_reducible refine WL.step fun K2 hK2=>?_);simp only [simprocAttr,implies_true,amz,tys,← hn,hml',hmb];(repeat' (first|with_reducible (first|(refine hK2 _ ?_;clear hK2 K2)|refine And.intro ?_ ?_|intro hb) ))))))|refine T.skip ?_|refine T.exit ?_|refine T.condT rfl ?_|refine T.condF rfl ?_|refine T.cond rfl (fun hc=>?_) (fun hc=>?_)|refine T.ret ?_|simp only [ThenA,InBlock,reduceIte,Nat.reduceEqDiff]|((repeat ((fail_if_success (refine hK _ ?_));clear hK K));refine hK _ ?_;clear hK K))
  rw [show List.replicate n [PV.val (.slice none 0 0)]=(List.replicate n (PV.val (.slice none 0 0))).map fun x => [x] by simp]
  refine T.weak (Weak.toA _ 0 33 _ rfl) ?_
  refine T.weak (Weak.upN _ 1000010 (by simp)) ?_
  simp only [setHp,List.map_cons,List.map_nil,if_true,List.map_replicate,Nat.reduceEqDiff,reduceIte]
  refine T.loopK (fun j:Nat=>⟨[(0,.p (.seq 9 (l.map evC))),(2,.p (.val nilV)),(3,.ptr 1 0),(12,.int n),(13,.int j)],(1,.boxP none 31 [.own 0]) :: (0,.arow 33 (arS n j)) :: mat 4 1 10 (triR j idM),53,1000010⟩) (fun j=>j≤n) (fun j=>n - j) 0 (Nat.zero_le _) ?_ ?_
  · refine Weak.frm _ _ _ _ (fun t=>?_) (by simp only [wks,reduceIte,Nat.reduceEqDiff,implies_true,and_self,Int.natCast_zero]) (by simp only [wks,AV.okB,Nat.reduceLT,decide_true,List.all_cons,List.all_nil,Bool.and_self,Int.natCast_zero]) ?_
    · simp [arS,owns,mat,triR]
    · exact fun t o h=>box_ok (arow_ok (arS_ok (by omega)) (by simp [triR])) t h (by omega)
  intro j hj KL hKL
  by_cases hlt:j < n
  · have hd:decide ((j:Int) < (n:Int))=true:=by simpa using hlt
    have hst:=arS_step hlt hl
    have hal:=arS_len (n:=n) (i:=j) (by omega)
    have hget:(List.set (arS n j) j (.own 1000010))[j]? = some (.own 1000010):=by rw [List.getElem?_set,if_pos rfl,if_pos (by omega)]
    have hal2:(List.set (arS n j) j (.own 1000010)).length=n:=by rw [List.length_set,hal]
    have hw:IntKind.i64.wrap ((j:Int) + 1)=((j + 1:Nat):Int):=wrap_succ (by omega)
    have hm1:j + 1≤maxLen:=by unfold maxLen;omega
    have hm2 : 1 * (j + 1) ≤ 140737488355328:=by omega
    have hj1:j < j + 1:=Nat.lt_succ_self _
    have hrr:(List.replicate (j + 1) [PV.val (.bool false)])[j]? = some [PV.val (.bool false)]:=by rw [List.getElem?_replicate,if_pos hj1]
    have hid:List.set (List.replicate (j + 1) [PV.val (.bool false)]) j [PV.val (.bool true)]=rowR (j + 1) (idM j):=rowR_id j
    repeat' (first|refine T.seqK fun K hK=>?_|refine T.block ?_|refine T.skip ?_|refine T.exit ?_|refine T.condT rfl ?_|refine T.condF rfl ?_|refine T.cond rfl (fun hc=>?_) (fun hc=>?_)|refine T.ret ?_|simp only [ThenA,InBlock,reduceIte,Nat.reduceEqDiff]|((repeat ((fail_if_success (refine hK _ ?_));clear hK K));refine hK _ ?_;clear hK K))
    (refine T.reg (by kernel_rfl) fun K' hK'=>?_;simp only [startSt,frOf,List.map_cons,List.map_nil];(repeat' (first|(with_reducible refine WL.fin ?_;refine hK' _ ?_;clear hK' K')|((with_reducible refine WL.step fun K2 hK2=>?_);simp only [simprocAttr,implies_true,amz,tys,hd];(repeat' (first|with_reducible (first|(refine hK2 _ ?_;clear hK2 K2)|refine And.intro ?_ ?_|intro hb) )))));all_goals ((try simp only [ThenA,InBlock,reduceIte,Nat.reduceEqDiff]);(try ((repeat ((fail_if_success (refine hK _ ?_));clear hK K));refine hK _ ?_;clear hK K))))
    repeat' (first|refine T.seqK fun K hK=>?_|refine T.block ?_|(refine T.reg (by kernel_rfl) fun K' hK'=>?_;simp only [startSt,frOf,List.map_cons,List.map_nil];(repeat' (first|(with_reducible refine WL.fin ?_;refine hK' _ ?_;clear hK' K')|((with_reducible refine WL.step fun K2 hK2=>?_);simp only [simprocAttr,implies_true,amz,tys];(repeat' (first|with_reducible (first|(refine hK2 _ ?_;clear hK2 K2)|refine And.intro ?_ ?_|intro hb) ))))))|refine T.skip ?_|refine T.exit ?_|refine T.condT rfl ?_|refine T.condF rfl ?_|refine T.cond rfl (fun hc=>?_) (fun hc=>?_)|refine T.ret ?_|simp only [ThenA,InBlock,reduceIte,Nat.reduceEqDiff]|((repeat ((fail_if_success (refine hK _ ?_));clear hK K));refine hK _ ?_;clear hK K))
    refine T.commT 5 [some (0,1),some (0,1),some (0,1),some (0,0),none] (by kernel_rfl) (by kernel_rfl) fun K' hK'=>?_;simp only [List.map_cons,List.map_nil,List.take_succ_cons,List.take_zero,List.zip_cons_cons,List.zip_nil_left,List.drop_succ_cons,List.drop_zero] at hK' ⊢;(repeat' (first|(with_reducible refine WC.fin ?_;refine hK' _ ?_;clear hK' K')|((first|(with_reducible refine WC.stepV fun K2 hK2=>?_)|(with_reducible refine WC.stepW fun K2 hK2=>?_));simp only [simprocAttr,implies_true,amz,WCg,WCv,WOw,allP,dav,Chk,List.filter_cons,List.filter_nil,bne_self_eq_false,Nat.reduceBneDiff,Bool.false_eq_true,tys,hw,hm1,hm2,hal,hlt,mat_set0U,mat_below];(repeat' (first|(with_reducible refine hK2 _ _ ?_;clear hK2 K2)|with_reducible (first|(refine hK2 _ ?_;clear hK2 K2)|refine And.intro ?_ ?_|intro hb)|(with_reducible rfl)|((with_reducible show @Eq ASt _ _);rfl) )))));all_goals ((repeat' (first|(with_reducible refine WLW.fin ?_)|((with_reducible refine WLW.step fun K2 hK2=>?_);simp only [simprocAttr,implies_true,amz,tys,hw,hm1,hm2,hal,hlt,mat_set0U,mat_below];(repeat' (first|with_reducible (first|(refine hK2 _ ?_;clear hK2 K2)|refine And.intro ?_ ?_|intro hb) )))));all_goals ((try simp only [ThenA,InBlock,reduceIte,Nat.reduceEqDiff]);(try ((repeat ((fail_if_success (refine hK _ ?_));clear hK K));refine hK _ ?_;clear hK K))))
    have hne0:List.filter (fun p=>p.1 != 1000010 && p.1 != j + 10) (mat 4 1 10 (triR j idM))=mat 4 1 10 (triR j idM):=mat_ne2 _ _ _ _ _ _ (.inr (by rw [triR_len];omega)) (.inr (by rw [triR_len];omega))
    have hz1:(0 != j + 10)=true:=by simp
    have hz4:(1 != j + 10)=true:=by simp
    have hz2:(1000010=j + 10)=False:=by simp;omega
    have hz3:(j + 10 < 1000011)=True:=by simp;omega
    have hz5:(0=j + 10)=False:=by simp
    have hz6:(1=j + 10)=False:=by simp
    have hsh:=fun o=>mat_setHi (e := 4) (n := 1) (b := 10) (t := 1000010) o (R:=triR j idM) (by rw [triR_len];omega)
    repeat' (first|refine T.seqK fun K hK=>?_|refine T.block ?_|(refine T.reg (by kernel_rfl) fun K' hK'=>?_;simp only [startSt,frOf,List.map_cons,List.map_nil];(repeat' (first|(with_reducible refine WL.fin ?_;refine hK' _ ?_;clear hK' K')|((with_reducible refine WL.step fun K2 hK2=>?_);simp only [simprocAttr,implies_true,amz,tys,hget,hal2,hlt,hj1,hrr,hid,hsh,List.length_replicate,mat_set0U,mat_below];(repeat' (first|with_reducible (first|(refine hK2 _ ?_;clear hK2 K2)|refine And.intro ?_ ?_|intro hb) ))))))|refine T.skip ?_|refine T.exit ?_|refine T.condT rfl ?_|refine T.condF rfl ?_|refine T.cond rfl (fun hc=>?_) (fun hc=>?_)|refine T.ret ?_|simp only [ThenA,InBlock,reduceIte,Nat.reduceEqDiff]|((repeat ((fail_if_success (refine hK _ ?_));clear hK K));refine hK _ ?_;clear hK K))
    refine hKL _ (j + 1) ((Weak.ren _ 1000010 (j + 10)).trans ?_) (by omega) (by omega)
    rw [triR_snoc]
    simp only [ASt.ren,AV.ren_own,AV.ren_ptr,AV.ren_rptr,AV.ren_pre,AV.ren_p,AV.ren_elt,AV.ren_junk,AV.ren_cap0,AV.ren_fn,AV.ren_agg,AV.ren_tup,AO.ren_box,AO.ren_row,AO.ren_map,AO.ren_raw,List.map_cons,List.map_nil,List.filter_cons,List.filter_nil,lk_cons,lk_nil,reduceIte,Nat.reduceEqDiff,Nat.reduceLT,Nat.reduceBneDiff,bne_self_eq_false,Bool.and_true,Bool.and_false,Bool.true_and,Bool.false_and,Bool.and_self,Bool.false_eq_true,ne_eq,not_false_eq_true,not_true_eq_false,and_self,and_true,true_and,and_false,AO.ren_arow,hne0,hz1,hz2,hz3,hz4,hz5,hz6,mat_ren,hst]
    refine Weak.frm _ _ _ _ (fun t=>?_) (by simp only [wks,reduceIte,Nat.reduceEqDiff,implies_true,and_self,wrap_succ (show j < 1152921504606846976 by omega)]) (by simp only [wks,AV.okB,Nat.reduceLT,decide_true,List.all_cons,List.all_nil,Bool.and_self,wrap_succ (show j < 1152921504606846976 by omega)]) ?_
    · rw [mat_push1,triR_len]
    · exact fun t o h=>box_ok (arow_ok (arS_ok (by omega)) (by simp [triR_len];omega)) t h (by omega)
  · have hjn:n=j:=by omega
    subst hjn
    have hd:decide ((n:Int) < (n:Int))=false:=by simp
    repeat' (first|refine T.seqK fun K hK=>?_|refine T.block ?_|(refine T.reg (by kernel_rfl) fun K' hK'=>?_;simp only [startSt,frOf,List.map_cons,List.map_nil];(repeat' (first|(with_reducible refine WL.fin ?_;refine hK' _ ?_;clear hK' K')|((with_reducible refine WL.step fun K2 hK2=>?_);simp only [simprocAttr,implies_true,amz,tys,← hn,hd];(repeat' (first|with_reducible (first|(refine hK2 _ ?_;clear hK2 K2)|refine And.intro ?_ ?_|intro hb)|((first|(with_reducible apply callArmO)|(with_reducible apply callArm));case h=>exact CallV.plain (Ent.of Try.func29 (by kernel_rfl) rfl) (hrel) (by simp [AV.okB]))))))))|refine T.skip ?_|refine T.exit ?_|refine T.condT rfl ?_|refine T.condF rfl ?_|refine T.cond rfl (fun hc=>?_) (fun hc=>?_)|refine T.ret ?_|simp only [ThenA,InBlock,reduceIte,Nat.reduceEqDiff]|((repeat ((fail_if_success (refine hK _ ?_));clear hK K));refine hK _ ?_;clear hK K))
    refine T.pin 1 _ rfl fun bb=>?_;simp only [setHp,AO.pin,List.map_cons,List.map_nil,reduceIte,Nat.reduceEqDiff]
    simp only [mat_set0U,Nat.reduceLT]
    refine T.weak (s':=⟨[(0,.p (.seq 9 (l.map evC))),(2,.p (.val nilV)),(3,.ptr 1 0),(30,.fn (.func 41) [.elt [.seq 9 (l.map evC)] 0])],hpC bb n idM,53,1999999⟩) ?_ ?_
    · refine Weak.frm _ _ _ _ (fun t=>?_) (by simp only [wks,reduceIte,Nat.reduceEqDiff,implies_true,and_self,AV.okB_fn]) (by simp only [wks,AV.okB,Nat.reduceLT,decide_true,List.all_cons,List.all_nil,Bool.and_self,AV.okB_fn]) ?_
      · rw [hpC,hpT,show arS n n=owns 10 n by simp [arS]]
      · exact fun t o h=>(hpC_hok bb n idM 1999999 (by omega)).at' h
    refine T.rangeFS 41 [.elt [.seq 9 (l.map evC)] 0] [(3,.ptr 1 0)] rfl (Ent.of Try.func41 (by kernel_rfl) rfl) (by simp [get_mk,lk_cons]) fun lr sp hsn hsp hsa hsb=>?_
    obtain ⟨H,hHd⟩ : ∃ H:List Ed→Hp,∀ acc,H acc=(1999999,.lrec lr sp [(3,.ptr 1 0)]) :: hpC bb n (fC acc):=⟨_,fun _=>rfl⟩
    have hH : ∀ acc,HpOk 2000000 (H acc):=fun acc=>by
      rw [hHd]
      exact (hpC_hok bb n _ 2000000 (by omega)).cons (by omega) (by simp [AO.okB_lrec,AV.okB]) ((hpC_hok bb n _ 1999999 (by omega)).none (Nat.le_refl _))
    have hh : ∀ acc,∃ o,(H acc).lookup 1999999=some o∧o.handle=some (.func (.yield lr) #[] #[]):=fun acc=>⟨_,by rw [hHd,lookup_cons_eq],rfl⟩
    have hyld : ∀ acc x,(∃ r,relsU l l.length=acc ++ x :: r) → ∃ lr' sp' fr',(H acc).lookup 1999999=some (.lrec lr' sp' fr')∧YldC Try.prog lr' 2000000 (H acc) [.agg ((edC x).map .p)] fun hp' r=>hp' = H (acc ++ [x])∧r = .bool true:=by
      rintro acc x ⟨r,hr⟩
      obtain ⟨i,j,hij,hjn,hxf,hxt⟩:=relsU_mem (l:=l) (n:=l.length) (x:=x) (by rw [hr];simp)
      obtain ⟨xf,xt,xk⟩:=x
      simp only at hxf hxt
      subst hxf hxt
      rw [← hn] at hjn
      have hnext:fC (acc ++ [⟨(i:Int),(j:Int),xk⟩])=addQ (fC acc) i j (i + 1):=by
        rw [addQ_end _ _ _ xk,fC,List.foldl_append];rfl
      refine ⟨lr,sp,[(3,.ptr 1 0)],by rw [hHd,lookup_cons_eq],YldC.of 1999999 [1] (fun hp3=>hp3=hpC bb n (fC (acc ++ [⟨(i:Int),(j:Int),xk⟩]))) (sp:=sp) (fr := [(3,.ptr 1 0)]) (by rw [hHd,lookup_cons_eq]) (by rw [hsp];rfl) (by rw [hsp,hsn];simp) (by simp [AV.keep_ptr]) ?_ ?_ (by simp [AV.okB_agg,edC,AV.okB])⟩
      · have hfil:(H acc).filter (fun p=>p.1 != 1999999)=hpC bb n (fC acc):=by
          rw [hHd,List.filter_cons,if_neg (by simp)]
          exact List.filter_eq_self.2 fun p hp=>by have:=((hpC_hok bb n (fC acc) 1999999 (by omega)).ok p hp).1;simp;omega
        rw [hsa,hsb,hsp,hsn,hfil,hnext]
        obtain ⟨f,hf⟩ : ∃ f,f=fC acc:=⟨_,rfl⟩
        rw [← hf]
        clear hnext hfil hr
        simp only [frPut,edC,List.map_cons,List.map_nil,hpC,hpT]
        have hin:i < n:=by omega
        have o1:=owns_get n 10 i hin
        have o2:=owns_len n 10
        have hi0:(i + 10=0)=False:=by simp
        have hi1:(i + 10=1)=False:=by simp
        have hi2:(i + 10=2000000)=False:=by simp;omega
        have m1:=triR_at f hin
        have hsh:=fun o=>mat_setHi (e := 4) (n := 1) (b := 10) (t := 2000000) o (R:=triR n f) (by rw [triR_len];omega)
        repeat' (first|refine T.seqK fun K hK=>?_|refine T.block ?_|(refine T.reg (by kernel_rfl) fun K' hK'=>?_;simp only [startSt,frOf,List.map_cons,List.map_nil];(repeat' (first|(with_reducible refine WL.fin ?_;refine hK' _ ?_;clear hK' K')|((with_reducible refine WL.step fun K2 hK2=>?_);simp only [simprocAttr,implies_true,amz,tys,o1,o2,hin,hi0,hi1,hi2,mat_at,m1,rowR_len,hsh];(repeat' (first|with_reducible (first|(refine hK2 _ ?_;clear hK2 K2)|refine And.intro ?_ ?_|intro hb) ))))))|refine T.skip ?_|refine T.exit ?_|refine T.condT rfl ?_|refine T.condF rfl ?_|refine T.cond rfl (fun hc=>?_) (fun hc=>?_)|refine T.ret ?_|simp only [ThenA,InBlock,reduceIte,Nat.reduceEqDiff]|((repeat ((fail_if_success (refine hK _ ?_));clear hK K));refine hK _ ?_;clear hK K))
        refine T.loopK (fun q:Nat=>⟨[(3,.ptr 1 0),(5,.ptr 2000000 0),(36,.own (i + 10)),(37,.int (i + 1:Nat)),(38,.int q)],(2000000,.boxP none 49 [.p (.val (.int .i64 i)),.p (.val (.int .i64 j)),.p (.val (.int .i64 xk))]) :: hpC bb n (addQ f i j q),53,2000001⟩) (fun q=>q≤i + 1) (fun q=>i + 1 - q) 0 (Nat.zero_le _) ?_ ?_
        · have hi3:(i + 10 < 2000001)=True:=by simp;omega
          refine Weak.frm _ _ _ _ (fun t=>?_) (by simp only [wks,reduceIte,Nat.reduceEqDiff,implies_true,and_self,Int.natCast_zero,hi3]) (by simp only [wks,AV.okB,Nat.reduceLT,decide_true,List.all_cons,List.all_nil,Bool.and_self,Int.natCast_zero,hi3]) ?_
          · rw [addQ_zero];rfl
          · exact fun t o h=>(hpB_hok bb n _ i j xk (by omega)).at' h
        intro q hq KL2 hKL2
        obtain ⟨g,hg⟩ : ∃ g,g=addQ f i j q:=⟨_,rfl⟩
        have hgv:g i q=f i q:=by rw [hg,addQ,if_neg (by omega)]
        have m2:=triR_at g hin
        have m3:=triR_at g hjn
        have hsh2:=fun o=>mat_setHi (e := 4) (n := 1) (b := 10) (t := 2000000) o (R:=triR n g) (by rw [triR_len];omega)
        have hi3:(i + 10 < 2000001)=True:=by simp;omega
        have hj0:(j + 10=0)=False:=by simp
        have hj1:(j + 10=1)=False:=by simp
        have hj2:(j + 10=2000000)=False:=by simp;omega
        have hj3:(2000000=j + 10)=False:=by simp;omega
        have hj4:(1=j + 10)=False:=by simp
        have hj5:(0=j + 10)=False:=by simp
        have o3:=owns_get n 10 j hjn
        rw [← hg]
        simp only [hpC,hpT]
        by_cases hqi:q < i + 1
        · have hdq:decide ((q:Int) < ((i + 1:Nat):Int))=true:=by simp;omega
          have m4:=rowR_at (g i) hqi
          rw [hgv] at m4
          cases hv:f i q with
          | false =>
            rw [hv] at m4
            repeat' (first|refine T.seqK fun K hK=>?_|refine T.block ?_|(refine T.reg (by kernel_rfl) fun K' hK'=>?_;simp only [startSt,frOf,List.map_cons,List.map_nil];(repeat' (first|(with_reducible refine WL.fin ?_;refine hK' _ ?_;clear hK' K')|((with_reducible refine WL.step fun K2 hK2=>?_);simp only [simprocAttr,implies_true,amz,tys,hdq,hqi,hi0,hi1,hi2,mat_at,m2,m4,rowR_len,bvC];(repeat' (first|with_reducible (first|(refine hK2 _ ?_;clear hK2 K2)|refine And.intro ?_ ?_|intro hb) ))))))|refine T.skip ?_|refine T.exit ?_|refine T.condT rfl ?_|refine T.condF rfl ?_|refine T.cond rfl (fun hc=>?_) (fun hc=>?_)|refine T.ret ?_|simp only [ThenA,InBlock,reduceIte,Nat.reduceEqDiff]|((repeat ((fail_if_success (refine hK _ ?_));clear hK K));refine hK _ ?_;clear hK K))
            refine hKL2 _ (q + 1) ?_ (by omega) (by omega)
            refine Weak.frm _ _ _ _ (fun t=>?_) (by simp only [wks,reduceIte,Nat.reduceEqDiff,implies_true,and_self,wrap_succ (show q < 1152921504606846976 by omega),hi3]) (by simp only [wks,AV.okB,Nat.reduceLT,decide_true,List.all_cons,List.all_nil,Bool.and_self,wrap_succ (show q < 1152921504606846976 by omega),hi3]) ?_
            · rw [← addQ_no hv,← hg];rfl
            · exact fun t o h=>(hpB_hok bb n _ i j xk (by omega)).at' h
          | true =>
            rw [hv] at m4
            have hqj:q < j + 1:=by omega
            have m5:=rowR_at (g j) hqj
            have m6:List.set (triR n g) j (List.set (rowR (j + 1) (g j)) q [PV.val (.bool true)])=triR n (updM g j q true):=triR_set g true hjn (by omega)
            repeat' (first|refine T.seqK fun K hK=>?_|refine T.block ?_|(refine T.reg (by kernel_rfl) fun K' hK'=>?_;simp only [startSt,frOf,List.map_cons,List.map_nil];(repeat' (first|(with_reducible refine WL.fin ?_;refine hK' _ ?_;clear hK' K')|((with_reducible refine WL.step fun K2 hK2=>?_);simp only [simprocAttr,implies_true,amz,tys,hdq,hqi,hi0,hi1,hi2,hj0,hj1,hj2,hj3,hj4,hj5,o2,o3,hjn,hqj,mat_at,m2,m3,m4,m5,rowR_len,bvC,mat_setU,m6];(repeat' (first|with_reducible (first|(refine hK2 _ ?_;clear hK2 K2)|refine And.intro ?_ ?_|intro hb) ))))))|refine T.skip ?_|refine T.exit ?_|refine T.condT rfl ?_|refine T.condF rfl ?_|refine T.cond rfl (fun hc=>?_) (fun hc=>?_)|refine T.ret ?_|simp only [ThenA,InBlock,reduceIte,Nat.reduceEqDiff]|((repeat ((fail_if_success (refine hK _ ?_));clear hK K));refine hK _ ?_;clear hK K))
            refine hKL2 _ (q + 1) ?_ (by omega) (by omega)
            refine Weak.frm _ _ _ _ (fun t=>?_) (by simp only [wks,reduceIte,Nat.reduceEqDiff,implies_true,and_self,wrap_succ (show q < 1152921504606846976 by omega),hi3]) (by simp only [wks,AV.okB,Nat.reduceLT,decide_true,List.all_cons,List.all_nil,Bool.and_self,wrap_succ (show q < 1152921504606846976 by omega),hi3]) ?_
            · rw [← addQ_yes hv,← hg];rfl
            · exact fun t o h=>(hpB_hok bb n _ i j xk (by omega)).at' h
        · have hdq:decide ((q:Int) < ((i + 1:Nat):Int))=false:=by simp;omega
          have hqe:q=i + 1:=by omega
          subst hqe
          repeat' (first|refine T.seqK fun K hK=>?_|refine T.block ?_|(refine T.reg (by kernel_rfl) fun K' hK'=>?_;simp only [startSt,frOf,List.map_cons,List.map_nil];(repeat' (first|(with_reducible refine WL.fin ?_;refine hK' _ ?_;clear hK' K')|((with_reducible refine WL.step fun K2 hK2=>?_);simp only [simprocAttr,implies_true,amz,tys,hdq];(repeat' (first|with_reducible (first|(refine hK2 _ ?_;clear hK2 K2)|refine And.intro ?_ ?_|intro hb) ))))))|refine T.skip ?_|refine T.exit ?_|refine T.condT rfl ?_|refine T.condF rfl ?_|refine T.cond rfl (fun hc=>?_) (fun hc=>?_)|refine T.ret ?_|simp only [ThenA,InBlock,reduceIte,Nat.reduceEqDiff]|((repeat ((fail_if_success (refine hK _ ?_));clear hK K));refine hK _ ?_;clear hK K))
          refine ⟨rfl,⟨[],hpC bb n (addQ f i j (i + 1)),53,2000000⟩,Weak.subs _ _ _ _ (fun t o ho=>?_) (by simp) (by simp) (fun t o h=>(hpC_hok bb n _ 2000000 (by omega)).at' h),rfl,(hpC_hok bb n _ 1999999 (by omega)).none (Nat.le_refl _),rfl⟩
          rw [hg]
          exact (lookup_cons_ne (Nat.ne_of_lt ((hpC_hok bb n _ 2000000 (by omega)).at' ho).1)).trans ho
      · rintro hp3 rfl
        refine ⟨?_,?_,?_,rfl⟩
        · intro t ht
          rw [List.mem_singleton.1 ht]
          simp [Kept,hHd,hpC,lk_cons,AO.handle_box]
        · exact fun p hp=>AO.sub_ge .junk (Nat.le_refl _) ((hpC_hok bb n _ 1999999 (by omega)).ok p hp).2
        · rw [hHd]
    have hmem:=rels_ok 2000010 rfl l (by omega) hI H hH 1999999 (by omega) (.func (.yield lr) #[] #[]) hh hyld
    refine ⟨2000000,H [],_,[1],hmem,?_,by simp [AV.okB,AV.okB_fn],?_⟩
    · have he:ASt.hp (ASt.add ⟨[(0,.p (.seq 9 (l.map evC))),(2,.p (.val nilV)),(3,.ptr 1 0),(30,.fn (.func 41) [.elt [.seq 9 (l.map evC)] 0])],hpC bb n idM,53,1999999⟩ (.lrec lr sp [(3,.ptr 1 0)]))=H []:=by rw [hHd];rfl
      refine ⟨Nat.le_refl _,fun p hp=>⟨?_,(hH []).ok p hp⟩,fun p hp _=>?_⟩
      · rw [he];exact (hH []).one p hp
      · rw [he] at hp;rw [(hH []).one p hp];rfl
    rintro hp' r ⟨rfl,rfl⟩
    refine ⟨fun t ht _=>?_,⟨_,by rw [hHd,lookup_cons_eq]⟩,fun ob=>?_⟩
    · rw [List.mem_singleton.1 ht]
      simp [Kept,hHd,hpC,lk_cons,AO.handle_box]
    have hfl:List.filter (fun p=>decide (2000000≤p.1)) ((1999999,AO.lrec lr sp [(3,.ptr 1 0)]) :: hpC bb n idM) = []:=by
      have:=(hH []).le
      rw [hHd] at this
      exact this
    have hst9:List.map (fun p=>if p.1=1999999 then (1999999,AO.raw (.func (.yield lr) #[] #[]) ob) else p) (hpC bb n (fC (relsU l l.length)))=hpC bb n (fC (relsU l l.length)):=(hpC_hok bb n _ 1999999 (by omega)).set _ (Nat.le_refl _)
    simp only [ASt.callM,ASt.add,hfl,List.map_nil,List.append_nil,List.map_cons,setHp,hHd,hst9,AV.keep_own,AV.keep_ptr,AV.keep_rptr,AV.keep_pre,AV.keep_p,AV.keep_elt,AV.keep_junk,AV.keep_cap0,AV.keep_fn,AV.keep_agg,AV.keep_tup,List.mem_singleton,or_true,reduceIte,Nat.reduceEqDiff]
    obtain ⟨F,hF⟩ : ∃ F,F=fC (relsU l l.length):=⟨_,rfl⟩
    rw [← hF]
    simp only [hpC,hpT]
    (try simp only [ThenA,InBlock,reduceIte,Nat.reduceEqDiff]);(try ((repeat ((fail_if_success (refine hK _ ?_));clear hK K));refine hK _ ?_;clear hK K))
    repeat' (first|refine T.seqK fun K hK=>?_|refine T.block ?_|(refine T.reg (by kernel_rfl) fun K' hK'=>?_;simp only [startSt,frOf,List.map_cons,List.map_nil];(repeat' (first|(with_reducible refine WL.fin ?_;refine hK' _ ?_;clear hK' K')|((with_reducible refine WL.step fun K2 hK2=>?_);simp only [simprocAttr,implies_true,amz,tys];(repeat' (first|with_reducible (first|(refine hK2 _ ?_;clear hK2 K2)|refine And.intro ?_ ?_|intro hb) ))))))|refine T.skip ?_|refine T.exit ?_|refine T.condT rfl ?_|refine T.condF rfl ?_|refine T.cond rfl (fun hc=>?_) (fun hc=>?_)|refine T.ret ?_|simp only [ThenA,InBlock,reduceIte,Nat.reduceEqDiff]|((repeat ((fail_if_success (refine hK _ ?_));clear hK K));refine hK _ ?_;clear hK K))
    have hsp2:Weak ⟨[(2,.own 0)],hpT n F,53,2000000⟩ ⟨[(2,.p (.seq 1 ((triR n F).map fun r => [PV.seq 1 r])))],[],53,2000000⟩:=by
      have:=Weak.rowsD (triR n F) 2 53 2000000
      rw [triR_len] at this
      exact this
    refine FinA.retW (.inr rfl) Try.results36 (Weak.trans (s2:=⟨[(2,.own 0)],hpT n F,53,2000000⟩) (Weak.subs _ _ _ _ (fun t o ho=>?_) ?_ ?_ (fun t o h=>(hpT_hok n F 2000000 (by omega)).at' h)) hsp2) ?_
    · have h1:=((hpT_hok n F 1999999 (by omega)).at' ho).1
      have h2:t ≠ 1:=fun e=>by
        subst e
        rw [hpT,lookup_cons_ne (by omega),mat_below _ _ _ _ _ (by omega)] at ho
        cases ho
      exact (lookup_cons_ne (by omega)).trans ((lookup_cons_ne h2).trans ho)
    · simp only [wks,reduceIte,Nat.reduceEqDiff,implies_true,and_self]
    · simp only [wks,AV.okB,Nat.reduceLT,decide_true,List.all_cons,List.all_nil,Bool.and_self]
    · rw [hF,← hn]
      simp only [ares,aresL,ares1,simprocAttr,implies_true,amz,tys]
end Go.Proofs.Ytnckehomadnhoaa
namespace Go.Proofs.Ytnckehomadnhoaa
open Go.RowKit Go.Sort Go.Maps
set_option linter.unusedSimpArgs false
set_option linter.unusedVariables false
theorem sends_ok (k:Int):PureC Try.prog 91 [.int k] (.bool (sendsB k)):=by
  refine PureC.of Try.func91 rfl 9 rfl (by decide) (by simp [AV.okB]) ?_
  repeat' (first|refine T.seqK fun K hK=>?_|refine T.block ?_|(refine T.reg (by kernel_rfl) fun K' hK'=>?_;simp only [startSt,frOf,List.map_cons,List.map_nil];(repeat' (first|(with_reducible refine WL.fin ?_;refine hK' _ ?_;clear hK' K')|((with_reducible refine WL.step fun K2 hK2=>?_);simp only [simprocAttr,implies_true,amz,tys];(repeat' (first|with_reducible (first|(refine hK2 _ ?_;clear hK2 K2)|refine And.intro ?_ ?_|intro hb) ))))))|refine T.skip ?_|refine T.exit ?_|refine T.condT rfl ?_|refine T.condF rfl ?_|refine T.cond rfl (fun hc=>?_) (fun hc=>?_)|refine T.ret ?_|simp only [ThenA,InBlock,reduceIte,Nat.reduceEqDiff]|((repeat ((fail_if_success (refine hK _ ?_));clear hK K));refine hK _ ?_;clear hK K))
  all_goals (refine FinA.ret (.inr rfl) Try.results91 ?_;simp only [ares,aresL,ares1,simprocAttr,implies_true,amz,tys,];first|(simp [sendsB, *];done)|(simp_all [sendsB];done)|(simp_all [sendsB];omega))
def QS (b:Nat) (s:Ps) (a1 a2 a3:Nat) (o:Option Ps) (hp' : Hp) (r:AV):Prop:=r = .bool o.isSome ∧ ∃ x1 x2 x3,x1≤a1 + 2∧x2≤a2 + 2∧x3≤a3 + 2∧hp' = hpS b (o.getD s) x1 x2 x3
theorem QS.no {b:Nat} {s:Ps} {a1 a2 a3:Nat} {o:Option Ps} (h:o=none):QS b s a1 a2 a3 o (hpS b s a1 a2 a3) (.bool false):=by subst h;exact ⟨rfl,a1,a2,a3,by omega,by omega,by omega,rfl⟩
theorem QS.yes {b:Nat} {s:Ps} {a1 a2 a3:Nat} {o:Option Ps} (t:Ps) (x1 x2 x3:Nat) (h:o=some t) (h1:x1≤a1 + 2) (h2:x2≤a2 + 2) (h3:x3≤a3 + 2):QS b s a1 a2 a3 o (hpS b t x1 x2 x3) (.bool true):=by subst h;exact ⟨rfl,x1,x2,x3,h1,h2,h3,rfl⟩
set_option maxHeartbeats 8000000 in
set_option maxRecDepth 100000 in
theorem proceed_ok (b:Nat) (s:Ps) (a1 a2 a3:Nat) (e:Ev) (kd:Int) (r:List Int) (hk:s.op.kinds=kd :: r) (he:Oki e) (h1:a1 < 1000000):MemC Try.prog 84 4 (hpS b s a1 a2 a3) [.ptr 0 0,evA e] (QS b s a1 a2 a3 (procP s kd r e)):=by
  have hl:decide ((0:Int) < ((r.length + 1:Nat):Int))=true:=by simp
  have h1l:(1:Int)≤((r.length + 1:Nat):Int):=by omega
  have htk:List.take r.length (r.map fun x => [pI x])=r.map fun x => [pI x]:=List.take_of_length_le (by simp)
  have hdr:List.drop (Int.toNat 1) ([pI kd] :: r.map fun x => [pI x])=r.map fun x => [pI x]:=rfl
  by_cases hf:fitP s.op kd e=true
  · have hcn:=count_ok b (setOp s (ownGp s.op e r)) a1 a2 a3 e he h1
    have f1:(e.kind != kd)=false:=by simp_all [fitP]
    have f2:(e.obj != s.op.obj)=false:=by simp_all [fitP]
    have f3:(e.k != s.op.k)=false:=by simp_all [fitP]
    have f4:(e.n != s.op.n)=false:=by simp_all [fitP]
    cases hs:sendsB e.kind with
    | true =>
      obtain ⟨t,ht⟩ : ∃ t,countP (setOp s (ownGp s.op e r)) e=t:=⟨_,rfl⟩
      rw [ht] at hcn
      simp only [ownGp,if_pos hs,setOp,hpS,gpC,evA,evC,List.map_cons,List.map_nil] at hcn
      have hsx:=sends_ok e.kind
      rw [hs] at hsx
      have ho:ownP s.op.snd s.op.rcv e.kind=s.op.snd∧othP s.op.snd s.op.rcv e.kind=s.op.rcv:=by simp [ownP,othP,hs]
      have hpe:hpS b s a1 a2 a3 = [(0,.boxP (some b) 127 [.int s.ev,.int s.gor,.own 1,.own 2,.own 3,.p (.seq 1 ([pI kd] :: r.map fun x => [pI x])),.int s.op.obj,.int s.op.k,.int s.op.n,.int s.op.snd,.int s.op.rcv]),(1,.map none Try.prog 3 a1 (inM chV s.ch)),(2,.map none Try.prog 120 a2 (plM muV s.mu)),(3,.map none Try.prog 120 a3 (plM Value.bool (dnO s.dn)))]:=by simp only [hpS,gpC,hk,List.map_cons]
      rw [hpe]
      simp only [evA,evC,List.map_cons,List.map_nil]
      refine MemC.of Try.func84 rfl 103 rfl (by decide) ?_;simp only [startM,frOf]
      repeat' (first|refine T.seqK fun K hK=>?_|refine T.block ?_|(refine T.reg (by kernel_rfl) fun K' hK'=>?_;simp only [startSt,frOf,List.map_cons,List.map_nil];(repeat' (first|(with_reducible refine WL.fin ?_;refine hK' _ ?_;clear hK' K')|((with_reducible refine WL.step fun K2 hK2=>?_);simp only [simprocAttr,implies_true,amz,tys];(repeat' (first|with_reducible (first|(refine hK2 _ ?_;clear hK2 K2)|refine And.intro ?_ ?_|intro hb) ))))))|refine T.skip ?_|refine T.exit ?_|refine T.condT rfl ?_|refine T.condF rfl ?_|refine T.cond rfl (fun hc=>?_) (fun hc=>?_)|refine T.ret ?_|simp only [ThenA,InBlock,reduceIte,Nat.reduceEqDiff]|((repeat ((fail_if_success (refine hK _ ?_));clear hK K));refine hK _ ?_;clear hK K))
      refine T.comm [some (0,0),some (0,0),some (0,0),some (0,0),some (0,0),some (0,0),some (0,0),some (0,0),some (0,0),some (0,0),some (0,0),some (0,0),some (0,0),some (0,0),some (0,0),some (0,0),some (0,0),some (0,0),some (0,0),some (0,0),some (0,0),some (0,0),some (0,0),some (0,0),some (0,0),some (0,0),some (0,0),some (0,0),some (0,0),some (0,0),some (0,0),some (0,0),some (0,0),some (0,0),some (0,0),some (0,0)] (by kernel_rfl) (by kernel_rfl) fun K' hK'=>?_;simp only [List.map_cons,List.map_nil,List.zip_cons_cons,List.zip_nil_left];(repeat' (first|(with_reducible refine WC.fin ?_;refine hK' _ ?_;clear hK' K')|((first|(with_reducible refine WC.stepV fun K2 hK2=>?_)|(with_reducible refine WC.stepW fun K2 hK2=>?_));simp only [simprocAttr,implies_true,amz,WCg,WCv,WOw,allP,dav,Chk,List.filter_cons,List.filter_nil,bne_self_eq_false,Nat.reduceBneDiff,Bool.false_eq_true,tys,f1,f2,f3,f4];(repeat' (first|(with_reducible refine hK2 _ _ ?_;clear hK2 K2)|with_reducible (first|(refine hK2 _ ?_;clear hK2 K2)|refine And.intro ?_ ?_|intro hb)|(with_reducible rfl)|((with_reducible show @Eq ASt _ _);rfl) )))));all_goals ((try simp only [ThenA,InBlock,reduceIte,Nat.reduceEqDiff]);(try ((repeat ((fail_if_success (refine hK _ ?_));clear hK K));refine hK _ ?_;clear hK K)))
      all_goals (repeat' (first|refine T.seqK fun K hK=>?_|refine T.block ?_|(refine T.reg (by kernel_rfl) fun K' hK'=>?_;simp only [startSt,frOf,List.map_cons,List.map_nil];(repeat' (first|(with_reducible refine WL.fin ?_;refine hK' _ ?_;clear hK' K')|((with_reducible refine WL.step fun K2 hK2=>?_);simp only [simprocAttr,implies_true,amz,tys];(repeat' (first|with_reducible (first|(refine hK2 _ ?_;clear hK2 K2)|refine And.intro ?_ ?_|intro hb) ))))))|refine T.skip ?_|refine T.exit ?_|refine T.condT rfl ?_|refine T.condF rfl ?_|refine T.cond rfl (fun hc=>?_) (fun hc=>?_)|refine T.ret ?_|simp only [ThenA,InBlock,reduceIte,Nat.reduceEqDiff]|((repeat ((fail_if_success (refine hK _ ?_));clear hK K));refine hK _ ?_;clear hK K)))
      refine T.weak (s':=⟨[(0,.ptr 0 0),(3,.ptr 4 0),(4,.bool false),(5,.ptr 0 5)],[(4,.boxP none 44 ((evC e).map .p)),(0,.boxP (some b) 127 [.int s.ev,.int s.gor,.own 1,.own 2,.own 3,.p (.seq 1 ([pI kd] :: r.map fun x => [pI x])),.int s.op.obj,.int s.op.k,.int s.op.n,.int s.op.snd,.int s.op.rcv]),(1,.map none Try.prog 3 a1 (inM chV s.ch)),(2,.map none Try.prog 120 a2 (plM muV s.mu)),(3,.map none Try.prog 120 a3 (plM Value.bool (dnO s.dn)))],103,5⟩) (by refine Weak.of' rfl ?_;simp only [wks,reduceIte,Nat.reduceEqDiff,ASt.okB,AV.okB,Nat.reduceLT,implies_true,evA,evC,List.map_cons,List.map_nil]) ?_
      simp only [evC,List.map_cons,List.map_nil]
      refine T.drw 9 (by kernel_rfl) (by kernel_rfl) fun K' hK'=>?_;simp only [List.map_cons,List.map_nil];(repeat' (first|(with_reducible refine WL.fin ?_;refine hK' _ ?_;clear hK' K')|(with_reducible refine WD.fin ?_)|((with_reducible first|refine WL.step fun K2 hK2=>?_|refine WD.step fun K2 hK2=>?_);simp only [simprocAttr,implies_true,amz,tys];(repeat' (first|with_reducible (first|(refine hK2 _ ?_;clear hK2 K2)|refine And.intro ?_ ?_|intro hb) )))));all_goals ((try simp only [ThenA,InBlock,reduceIte,Nat.reduceEqDiff]);(try ((repeat ((fail_if_success (refine hK _ ?_));clear hK K));refine hK _ ?_;clear hK K)))
      repeat' (first|refine T.seqK fun K hK=>?_|refine T.block ?_|(refine T.reg (by kernel_rfl) fun K' hK'=>?_;simp only [startSt,frOf,List.map_cons,List.map_nil];(repeat' (first|(with_reducible refine WL.fin ?_;refine hK' _ ?_;clear hK' K')|((with_reducible refine WL.step fun K2 hK2=>?_);simp only [simprocAttr,implies_true,amz,tys];(repeat' (first|with_reducible (first|(refine hK2 _ ?_;clear hK2 K2)|refine And.intro ?_ ?_|intro hb)|((first|(with_reducible apply callArmO)|(with_reducible apply callArm));case h=>exact CallV.plain (Ent.of Try.func91 (by kernel_rfl) rfl) (hsx) (by simp [AV.okB]))))))))|refine T.skip ?_|refine T.exit ?_|refine T.condT rfl ?_|refine T.condF rfl ?_|refine T.cond rfl (fun hc=>?_) (fun hc=>?_)|refine T.ret ?_|simp only [ThenA,InBlock,reduceIte,Nat.reduceEqDiff]|((repeat ((fail_if_success (refine hK _ ?_));clear hK K));refine hK _ ?_;clear hK K))
      refine T.drw 9 (by kernel_rfl) (by kernel_rfl) fun K' hK'=>?_;simp only [List.map_cons,List.map_nil];(repeat' (first|(with_reducible refine WL.fin ?_;refine hK' _ ?_;clear hK' K')|(with_reducible refine WD.fin ?_)|((with_reducible first|refine WL.step fun K2 hK2=>?_|refine WD.step fun K2 hK2=>?_);simp only [simprocAttr,implies_true,amz,tys];(repeat' (first|with_reducible (first|(refine hK2 _ ?_;clear hK2 K2)|refine And.intro ?_ ?_|intro hb) )))));all_goals ((try simp only [ThenA,InBlock,reduceIte,Nat.reduceEqDiff]);(try ((repeat ((fail_if_success (refine hK _ ?_));clear hK K));refine hK _ ?_;clear hK K)))
      repeat' (first|refine T.seqK fun K hK=>?_|refine T.block ?_|(refine T.reg (by kernel_rfl) fun K' hK'=>?_;simp only [startSt,frOf,List.map_cons,List.map_nil];(repeat' (first|(with_reducible refine WL.fin ?_;refine hK' _ ?_;clear hK' K')|((with_reducible refine WL.step fun K2 hK2=>?_);simp only [simprocAttr,implies_true,amz,tys];(repeat' (first|with_reducible (first|(refine hK2 _ ?_;clear hK2 K2)|refine And.intro ?_ ?_|intro hb) ))))))|refine T.skip ?_|refine T.exit ?_|refine T.condT rfl ?_|refine T.condF rfl ?_|refine T.cond rfl (fun hc=>?_) (fun hc=>?_)|refine T.ret ?_|simp only [ThenA,InBlock,reduceIte,Nat.reduceEqDiff]|((repeat ((fail_if_success (refine hK _ ?_));clear hK K));refine hK _ ?_;clear hK K))
      refine T.weak (s':=⟨[(0,.ptr 0 0),(3,.ptr 4 0),(4,.bool false),(5,.ptr 0 5),(6,.ptr 0 9),(7,.int s.op.rcv)],[(4,.boxP none 44 ((evC e).map .p)),(0,.boxP (some b) 127 [.int s.ev,.int s.gor,.own 1,.own 2,.own 3,.p (.seq 1 ([pI kd] :: r.map fun x => [pI x])),.int s.op.obj,.int s.op.k,.int s.op.n,.int s.op.snd,.int s.op.rcv]),(1,.map none Try.prog 3 a1 (inM chV s.ch)),(2,.map none Try.prog 120 a2 (plM muV s.mu)),(3,.map none Try.prog 120 a3 (plM Value.bool (dnO s.dn)))],103,5⟩) (by refine Weak.of' rfl ?_;simp only [wks,reduceIte,Nat.reduceEqDiff,ASt.okB,AV.okB,Nat.reduceLT,implies_true,evA,evC,List.map_cons,List.map_nil]) ?_
      simp only [evC,List.map_cons,List.map_nil]
      cases hb:badP s.op.snd s.op.rcv e.g with
      | true =>
        have hn:procP s kd r e=none:=by simp [procP,hf,ho,hb]
        refine T.drw 24 (by kernel_rfl) (by kernel_rfl) fun K' hK'=>?_;simp only [List.map_cons,List.map_nil];(repeat' (first|(with_reducible refine WL.fin ?_;refine hK' _ ?_;clear hK' K')|(with_reducible refine WD.fin ?_)|((with_reducible first|refine WL.step fun K2 hK2=>?_|refine WD.step fun K2 hK2=>?_);simp only [simprocAttr,implies_true,amz,tys];(repeat' (first|with_reducible (first|(refine hK2 _ ?_;clear hK2 K2)|refine And.intro ?_ ?_|intro hb) )))));all_goals ((try simp only [ThenA,InBlock,reduceIte,Nat.reduceEqDiff]);(try ((repeat ((fail_if_success (refine hK _ ?_));clear hK K));refine hK _ ?_;clear hK K)))
        all_goals (repeat' (first|refine T.seqK fun K hK=>?_|refine T.block ?_|(refine T.reg (by kernel_rfl) fun K' hK'=>?_;simp only [startSt,frOf,List.map_cons,List.map_nil];(repeat' (first|(with_reducible refine WL.fin ?_;refine hK' _ ?_;clear hK' K')|((with_reducible refine WL.step fun K2 hK2=>?_);simp only [simprocAttr,implies_true,amz,tys];(repeat' (first|with_reducible (first|(refine hK2 _ ?_;clear hK2 K2)|refine And.intro ?_ ?_|intro hb) ))))))|refine T.skip ?_|refine T.exit ?_|refine T.condT rfl ?_|refine T.condF rfl ?_|refine T.cond rfl (fun hc=>?_) (fun hc=>?_)|refine T.ret ?_|simp only [ThenA,InBlock,reduceIte,Nat.reduceEqDiff]|((repeat ((fail_if_success (refine hK _ ?_));clear hK K));refine hK _ ?_;clear hK K)))
        all_goals first
          | ((refine FinM.ret (s':=⟨[(4,.bool false)],hpS b s a1 a2 a3,103,4⟩) (r := .bool false) (.inr rfl) Try.results84 (by refine Weak.of' rfl ?_;simp only [wks,reduceIte,Nat.reduceEqDiff,ASt.okB,AV.okB,Nat.reduceLT,implies_true,hpS,gpC,hk,evA,evC,List.map_cons,List.map_nil]) rfl ?_ ?_;(focus (simp only [ares,aresL,ares1,simprocAttr,implies_true,amz,tys,];done)));exact QS.no hn;done)
          | (exfalso;simp_all [badP];done)
      | false =>
        have hy:procP s kd r e=some t:=by simp [procP,hf,ho,hb,ht]
        refine T.drw 24 (by kernel_rfl) (by kernel_rfl) fun K' hK'=>?_;simp only [List.map_cons,List.map_nil];(repeat' (first|(with_reducible refine WL.fin ?_;refine hK' _ ?_;clear hK' K')|(with_reducible refine WD.fin ?_)|((with_reducible first|refine WL.step fun K2 hK2=>?_|refine WD.step fun K2 hK2=>?_);simp only [simprocAttr,implies_true,amz,tys];(repeat' (first|with_reducible (first|(refine hK2 _ ?_;clear hK2 K2)|refine And.intro ?_ ?_|intro hb) )))));all_goals ((try simp only [ThenA,InBlock,reduceIte,Nat.reduceEqDiff]);(try ((repeat ((fail_if_success (refine hK _ ?_));clear hK K));refine hK _ ?_;clear hK K)))
        all_goals (repeat' (first|refine T.seqK fun K hK=>?_|refine T.block ?_|(refine T.reg (by kernel_rfl) fun K' hK'=>?_;simp only [startSt,frOf,List.map_cons,List.map_nil];(repeat' (first|(with_reducible refine WL.fin ?_;refine hK' _ ?_;clear hK' K')|((with_reducible refine WL.step fun K2 hK2=>?_);simp only [simprocAttr,implies_true,amz,tys,h1l,htk,hdr,Int.le_refl,and_self];(repeat' (first|with_reducible (first|(refine hK2 _ ?_;clear hK2 K2)|refine And.intro ?_ ?_|intro hb)|((with_reducible refine callArmM 4 _ _ [0] (Ent.of Try.func92 (by kernel_rfl) rfl) (hcn) ?_ ?_ ?_);(focus ((refine ⟨Nat.le_of_ble_eq_true rfl,?_,?_⟩ <;> simp only [List.mem_cons,List.not_mem_nil,or_false,forall_eq_or_imp,forall_eq,lk_cons,lk_nil,reduceIte,Nat.reduceEqDiff,AO.okB_box,AO.okB_row,AO.okB_map,AO.okB_raw,AV.okB,AV.okB_agg,AV.okB_fn,AV.okB_tup,List.all_cons,List.all_nil,Bool.and_true,Bool.and_self,Nat.reduceLT,decide_true,true_and,and_true,Option.isSome_some,true_implies,false_implies,implies_true,and_self,Nat.lt_irrefl,Option.some.injEq,]);done));(focus (simp [AV.okB];done));rintro hp' r ⟨rfl,rfl⟩;refine ⟨by simp [Kept,lk_cons,AO.handle],?_⟩;simp only [ASt.callM,AV.keep_own,AV.keep_ptr,AV.keep_rptr,AV.keep_pre,AV.keep_p,AV.keep_elt,AV.keep_junk,AV.keep_cap0,AV.keep_fn,AV.keep_agg,AV.keep_tup,AO.keep,List.map_cons,List.map_nil,List.filter_cons,List.filter_nil,Nat.reduceLeDiff,decide_true,decide_false,reduceIte,Bool.false_eq_true,List.cons_append,List.nil_append,List.mem_cons,List.not_mem_nil,or_false,false_or,or_true,true_or,Nat.reduceEqDiff,put_some,put_none,Nat.le_refl,])))))))|refine T.skip ?_|refine T.exit ?_|refine T.condT rfl ?_|refine T.condF rfl ?_|refine T.cond rfl (fun hc=>?_) (fun hc=>?_)|refine T.ret ?_|simp only [ThenA,InBlock,reduceIte,Nat.reduceEqDiff]|((repeat ((fail_if_success (refine hK _ ?_));clear hK K));refine hK _ ?_;clear hK K)))
        all_goals first
          | (exfalso;simp_all [badP];done)
          | ((refine FinM.ret (s':=⟨[(4,.bool true)],hpS b t (a1 + 1) a2 a3,103,4⟩) (r := .bool true) (.inr rfl) Try.results84 (by refine Weak.of' rfl ?_;simp only [wks,reduceIte,Nat.reduceEqDiff,ASt.okB,AV.okB,Nat.reduceLT,implies_true,hpS,gpC,List.map_cons,List.map_nil]) rfl ?_ ?_;(focus (simp only [ares,aresL,ares1,simprocAttr,implies_true,amz,tys,];done)));exact QS.yes t (a1 + 1) a2 a3 hy (by omega) (by omega) (by omega);done)
    | false =>
      obtain ⟨t,ht⟩ : ∃ t,countP (setOp s (ownGp s.op e r)) e=t:=⟨_,rfl⟩
      rw [ht] at hcn
      simp only [ownGp,hs,Bool.false_eq_true,if_false,setOp,hpS,gpC,evA,evC,List.map_cons,List.map_nil] at hcn
      have hsx:=sends_ok e.kind
      rw [hs] at hsx
      have ho:ownP s.op.snd s.op.rcv e.kind=s.op.rcv∧othP s.op.snd s.op.rcv e.kind=s.op.snd:=by simp [ownP,othP,hs]
      have hpe:hpS b s a1 a2 a3 = [(0,.boxP (some b) 127 [.int s.ev,.int s.gor,.own 1,.own 2,.own 3,.p (.seq 1 ([pI kd] :: r.map fun x => [pI x])),.int s.op.obj,.int s.op.k,.int s.op.n,.int s.op.snd,.int s.op.rcv]),(1,.map none Try.prog 3 a1 (inM chV s.ch)),(2,.map none Try.prog 120 a2 (plM muV s.mu)),(3,.map none Try.prog 120 a3 (plM Value.bool (dnO s.dn)))]:=by simp only [hpS,gpC,hk,List.map_cons]
      rw [hpe]
      simp only [evA,evC,List.map_cons,List.map_nil]
      refine MemC.of Try.func84 rfl 103 rfl (by decide) ?_;simp only [startM,frOf]
      repeat' (first|refine T.seqK fun K hK=>?_|refine T.block ?_|(refine T.reg (by kernel_rfl) fun K' hK'=>?_;simp only [startSt,frOf,List.map_cons,List.map_nil];(repeat' (first|(with_reducible refine WL.fin ?_;refine hK' _ ?_;clear hK' K')|((with_reducible refine WL.step fun K2 hK2=>?_);simp only [simprocAttr,implies_true,amz,tys];(repeat' (first|with_reducible (first|(refine hK2 _ ?_;clear hK2 K2)|refine And.intro ?_ ?_|intro hb) ))))))|refine T.skip ?_|refine T.exit ?_|refine T.condT rfl ?_|refine T.condF rfl ?_|refine T.cond rfl (fun hc=>?_) (fun hc=>?_)|refine T.ret ?_|simp only [ThenA,InBlock,reduceIte,Nat.reduceEqDiff]|((repeat ((fail_if_success (refine hK _ ?_));clear hK K));refine hK _ ?_;clear hK K))
      refine T.comm [some (0,0),some (0,0),some (0,0),some (0,0),some (0,0),some (0,0),some (0,0),some (0,0),some (0,0),some (0,0),some (0,0),some (0,0),some (0,0),some (0,0),some (0,0),some (0,0),some (0,0),some (0,0),some (0,0),some (0,0),some (0,0),some (0,0),some (0,0),some (0,0),some (0,0),some (0,0),some (0,0),some (0,0),some (0,0),some (0,0),some (0,0),some (0,0),some (0,0),some (0,0),some (0,0),some (0,0)] (by kernel_rfl) (by kernel_rfl) fun K' hK'=>?_;simp only [List.map_cons,List.map_nil,List.zip_cons_cons,List.zip_nil_left];(repeat' (first|(with_reducible refine WC.fin ?_;refine hK' _ ?_;clear hK' K')|((first|(with_reducible refine WC.stepV fun K2 hK2=>?_)|(with_reducible refine WC.stepW fun K2 hK2=>?_));simp only [simprocAttr,implies_true,amz,WCg,WCv,WOw,allP,dav,Chk,List.filter_cons,List.filter_nil,bne_self_eq_false,Nat.reduceBneDiff,Bool.false_eq_true,tys,f1,f2,f3,f4];(repeat' (first|(with_reducible refine hK2 _ _ ?_;clear hK2 K2)|with_reducible (first|(refine hK2 _ ?_;clear hK2 K2)|refine And.intro ?_ ?_|intro hb)|(with_reducible rfl)|((with_reducible show @Eq ASt _ _);rfl) )))));all_goals ((try simp only [ThenA,InBlock,reduceIte,Nat.reduceEqDiff]);(try ((repeat ((fail_if_success (refine hK _ ?_));clear hK K));refine hK _ ?_;clear hK K)))
      all_goals (repeat' (first|refine T.seqK fun K hK=>?_|refine T.block ?_|(refine T.reg (by kernel_rfl) fun K' hK'=>?_;simp only [startSt,frOf,List.map_cons,List.map_nil];(repeat' (first|(with_reducible refine WL.fin ?_;refine hK' _ ?_;clear hK' K')|((with_reducible refine WL.step fun K2 hK2=>?_);simp only [simprocAttr,implies_true,amz,tys];(repeat' (first|with_reducible (first|(refine hK2 _ ?_;clear hK2 K2)|refine And.intro ?_ ?_|intro hb) ))))))|refine T.skip ?_|refine T.exit ?_|refine T.condT rfl ?_|refine T.condF rfl ?_|refine T.cond rfl (fun hc=>?_) (fun hc=>?_)|refine T.ret ?_|simp only [ThenA,InBlock,reduceIte,Nat.reduceEqDiff]|((repeat ((fail_if_success (refine hK _ ?_));clear hK K));refine hK _ ?_;clear hK K)))
      refine T.weak (s':=⟨[(0,.ptr 0 0),(3,.ptr 4 0),(4,.bool false),(5,.ptr 0 5)],[(4,.boxP none 44 ((evC e).map .p)),(0,.boxP (some b) 127 [.int s.ev,.int s.gor,.own 1,.own 2,.own 3,.p (.seq 1 ([pI kd] :: r.map fun x => [pI x])),.int s.op.obj,.int s.op.k,.int s.op.n,.int s.op.snd,.int s.op.rcv]),(1,.map none Try.prog 3 a1 (inM chV s.ch)),(2,.map none Try.prog 120 a2 (plM muV s.mu)),(3,.map none Try.prog 120 a3 (plM Value.bool (dnO s.dn)))],103,5⟩) (by refine Weak.of' rfl ?_;simp only [wks,reduceIte,Nat.reduceEqDiff,ASt.okB,AV.okB,Nat.reduceLT,implies_true,evA,evC,List.map_cons,List.map_nil]) ?_
      simp only [evC,List.map_cons,List.map_nil]
      refine T.drw 9 (by kernel_rfl) (by kernel_rfl) fun K' hK'=>?_;simp only [List.map_cons,List.map_nil];(repeat' (first|(with_reducible refine WL.fin ?_;refine hK' _ ?_;clear hK' K')|(with_reducible refine WD.fin ?_)|((with_reducible first|refine WL.step fun K2 hK2=>?_|refine WD.step fun K2 hK2=>?_);simp only [simprocAttr,implies_true,amz,tys];(repeat' (first|with_reducible (first|(refine hK2 _ ?_;clear hK2 K2)|refine And.intro ?_ ?_|intro hb) )))));all_goals ((try simp only [ThenA,InBlock,reduceIte,Nat.reduceEqDiff]);(try ((repeat ((fail_if_success (refine hK _ ?_));clear hK K));refine hK _ ?_;clear hK K)))
      repeat' (first|refine T.seqK fun K hK=>?_|refine T.block ?_|(refine T.reg (by kernel_rfl) fun K' hK'=>?_;simp only [startSt,frOf,List.map_cons,List.map_nil];(repeat' (first|(with_reducible refine WL.fin ?_;refine hK' _ ?_;clear hK' K')|((with_reducible refine WL.step fun K2 hK2=>?_);simp only [simprocAttr,implies_true,amz,tys];(repeat' (first|with_reducible (first|(refine hK2 _ ?_;clear hK2 K2)|refine And.intro ?_ ?_|intro hb)|((first|(with_reducible apply callArmO)|(with_reducible apply callArm));case h=>exact CallV.plain (Ent.of Try.func91 (by kernel_rfl) rfl) (hsx) (by simp [AV.okB]))))))))|refine T.skip ?_|refine T.exit ?_|refine T.condT rfl ?_|refine T.condF rfl ?_|refine T.cond rfl (fun hc=>?_) (fun hc=>?_)|refine T.ret ?_|simp only [ThenA,InBlock,reduceIte,Nat.reduceEqDiff]|((repeat ((fail_if_success (refine hK _ ?_));clear hK K));refine hK _ ?_;clear hK K))
      refine T.weak (s':=⟨[(0,.ptr 0 0),(3,.ptr 4 0),(4,.bool false),(5,.ptr 0 5),(6,.ptr 0 10),(7,.int s.op.snd)],[(4,.boxP none 44 ((evC e).map .p)),(0,.boxP (some b) 127 [.int s.ev,.int s.gor,.own 1,.own 2,.own 3,.p (.seq 1 ([pI kd] :: r.map fun x => [pI x])),.int s.op.obj,.int s.op.k,.int s.op.n,.int s.op.snd,.int s.op.rcv]),(1,.map none Try.prog 3 a1 (inM chV s.ch)),(2,.map none Try.prog 120 a2 (plM muV s.mu)),(3,.map none Try.prog 120 a3 (plM Value.bool (dnO s.dn)))],103,5⟩) (by refine Weak.of' rfl ?_;simp only [wks,reduceIte,Nat.reduceEqDiff,ASt.okB,AV.okB,Nat.reduceLT,implies_true,evA,evC,List.map_cons,List.map_nil]) ?_
      simp only [evC,List.map_cons,List.map_nil]
      cases hb:badP s.op.rcv s.op.snd e.g with
      | true =>
        have hn:procP s kd r e=none:=by simp [procP,hf,ho,hb]
        refine T.drw 24 (by kernel_rfl) (by kernel_rfl) fun K' hK'=>?_;simp only [List.map_cons,List.map_nil];(repeat' (first|(with_reducible refine WL.fin ?_;refine hK' _ ?_;clear hK' K')|(with_reducible refine WD.fin ?_)|((with_reducible first|refine WL.step fun K2 hK2=>?_|refine WD.step fun K2 hK2=>?_);simp only [simprocAttr,implies_true,amz,tys];(repeat' (first|with_reducible (first|(refine hK2 _ ?_;clear hK2 K2)|refine And.intro ?_ ?_|intro hb) )))));all_goals ((try simp only [ThenA,InBlock,reduceIte,Nat.reduceEqDiff]);(try ((repeat ((fail_if_success (refine hK _ ?_));clear hK K));refine hK _ ?_;clear hK K)))
        all_goals (repeat' (first|refine T.seqK fun K hK=>?_|refine T.block ?_|(refine T.reg (by kernel_rfl) fun K' hK'=>?_;simp only [startSt,frOf,List.map_cons,List.map_nil];(repeat' (first|(with_reducible refine WL.fin ?_;refine hK' _ ?_;clear hK' K')|((with_reducible refine WL.step fun K2 hK2=>?_);simp only [simprocAttr,implies_true,amz,tys];(repeat' (first|with_reducible (first|(refine hK2 _ ?_;clear hK2 K2)|refine And.intro ?_ ?_|intro hb) ))))))|refine T.skip ?_|refine T.exit ?_|refine T.condT rfl ?_|refine T.condF rfl ?_|refine T.cond rfl (fun hc=>?_) (fun hc=>?_)|refine T.ret ?_|simp only [ThenA,InBlock,reduceIte,Nat.reduceEqDiff]|((repeat ((fail_if_success (refine hK _ ?_));clear hK K));refine hK _ ?_;clear hK K)))
        all_goals first
          | ((refine FinM.ret (s':=⟨[(4,.bool false)],hpS b s a1 a2 a3,103,4⟩) (r := .bool false) (.inr rfl) Try.results84 (by refine Weak.of' rfl ?_;simp only [wks,reduceIte,Nat.reduceEqDiff,ASt.okB,AV.okB,Nat.reduceLT,implies_true,hpS,gpC,hk,evA,evC,List.map_cons,List.map_nil]) rfl ?_ ?_;(focus (simp only [ares,aresL,ares1,simprocAttr,implies_true,amz,tys,];done)));exact QS.no hn;done)
          | (exfalso;simp_all [badP];done)
      | false =>
        have hy:procP s kd r e=some t:=by simp [procP,hf,ho,hb,ht]
        refine T.drw 24 (by kernel_rfl) (by kernel_rfl) fun K' hK'=>?_;simp only [List.map_cons,List.map_nil];(repeat' (first|(with_reducible refine WL.fin ?_;refine hK' _ ?_;clear hK' K')|(with_reducible refine WD.fin ?_)|((with_reducible first|refine WL.step fun K2 hK2=>?_|refine WD.step fun K2 hK2=>?_);simp only [simprocAttr,implies_true,amz,tys];(repeat' (first|with_reducible (first|(refine hK2 _ ?_;clear hK2 K2)|refine And.intro ?_ ?_|intro hb) )))));all_goals ((try simp only [ThenA,InBlock,reduceIte,Nat.reduceEqDiff]);(try ((repeat ((fail_if_success (refine hK _ ?_));clear hK K));refine hK _ ?_;clear hK K)))
        all_goals (repeat' (first|refine T.seqK fun K hK=>?_|refine T.block ?_|(refine T.reg (by kernel_rfl) fun K' hK'=>?_;simp only [startSt,frOf,List.map_cons,List.map_nil];(repeat' (first|(with_reducible refine WL.fin ?_;refine hK' _ ?_;clear hK' K')|((with_reducible refine WL.step fun K2 hK2=>?_);simp only [simprocAttr,implies_true,amz,tys,h1l,htk,hdr,Int.le_refl,and_self];(repeat' (first|with_reducible (first|(refine hK2 _ ?_;clear hK2 K2)|refine And.intro ?_ ?_|intro hb)|((with_reducible refine callArmM 4 _ _ [0] (Ent.of Try.func92 (by kernel_rfl) rfl) (hcn) ?_ ?_ ?_);(focus ((refine ⟨Nat.le_of_ble_eq_true rfl,?_,?_⟩ <;> simp only [List.mem_cons,List.not_mem_nil,or_false,forall_eq_or_imp,forall_eq,lk_cons,lk_nil,reduceIte,Nat.reduceEqDiff,AO.okB_box,AO.okB_row,AO.okB_map,AO.okB_raw,AV.okB,AV.okB_agg,AV.okB_fn,AV.okB_tup,List.all_cons,List.all_nil,Bool.and_true,Bool.and_self,Nat.reduceLT,decide_true,true_and,and_true,Option.isSome_some,true_implies,false_implies,implies_true,and_self,Nat.lt_irrefl,Option.some.injEq,]);done));(focus (simp [AV.okB];done));rintro hp' r ⟨rfl,rfl⟩;refine ⟨by simp [Kept,lk_cons,AO.handle],?_⟩;simp only [ASt.callM,AV.keep_own,AV.keep_ptr,AV.keep_rptr,AV.keep_pre,AV.keep_p,AV.keep_elt,AV.keep_junk,AV.keep_cap0,AV.keep_fn,AV.keep_agg,AV.keep_tup,AO.keep,List.map_cons,List.map_nil,List.filter_cons,List.filter_nil,Nat.reduceLeDiff,decide_true,decide_false,reduceIte,Bool.false_eq_true,List.cons_append,List.nil_append,List.mem_cons,List.not_mem_nil,or_false,false_or,or_true,true_or,Nat.reduceEqDiff,put_some,put_none,Nat.le_refl,])))))))|refine T.skip ?_|refine T.exit ?_|refine T.condT rfl ?_|refine T.condF rfl ?_|refine T.cond rfl (fun hc=>?_) (fun hc=>?_)|refine T.ret ?_|simp only [ThenA,InBlock,reduceIte,Nat.reduceEqDiff]|((repeat ((fail_if_success (refine hK _ ?_));clear hK K));refine hK _ ?_;clear hK K)))
        all_goals first
          | (exfalso;simp_all [badP];done)
          | ((refine FinM.ret (s':=⟨[(4,.bool true)],hpS b t (a1 + 1) a2 a3,103,4⟩) (r := .bool true) (.inr rfl) Try.results84 (by refine Weak.of' rfl ?_;simp only [wks,reduceIte,Nat.reduceEqDiff,ASt.okB,AV.okB,Nat.reduceLT,implies_true,hpS,gpC,List.map_cons,List.map_nil]) rfl ?_ ?_;(focus (simp only [ares,aresL,ares1,simprocAttr,implies_true,amz,tys,];done)));exact QS.yes t (a1 + 1) a2 a3 hy (by omega) (by omega) (by omega);done)
  · have hn:procP s kd r e=none:=by simp [procP,hf]
    have hf' : fitP s.op kd e=false:=by simpa using hf
    have hpe:hpS b s a1 a2 a3 = [(0,.boxP (some b) 127 [.int s.ev,.int s.gor,.own 1,.own 2,.own 3,.p (.seq 1 ([pI kd] :: r.map fun x => [pI x])),.int s.op.obj,.int s.op.k,.int s.op.n,.int s.op.snd,.int s.op.rcv]),(1,.map none Try.prog 3 a1 (inM chV s.ch)),(2,.map none Try.prog 120 a2 (plM muV s.mu)),(3,.map none Try.prog 120 a3 (plM Value.bool (dnO s.dn)))]:=by simp only [hpS,gpC,hk,List.map_cons]
    rw [hpe]
    simp only [evA,evC,List.map_cons,List.map_nil]
    refine MemC.of Try.func84 rfl 103 rfl (by decide) ?_;simp only [startM,frOf]
    repeat' (first|refine T.seqK fun K hK=>?_|refine T.block ?_|(refine T.reg (by kernel_rfl) fun K' hK'=>?_;simp only [startSt,frOf,List.map_cons,List.map_nil];(repeat' (first|(with_reducible refine WL.fin ?_;refine hK' _ ?_;clear hK' K')|((with_reducible refine WL.step fun K2 hK2=>?_);simp only [simprocAttr,implies_true,amz,tys];(repeat' (first|with_reducible (first|(refine hK2 _ ?_;clear hK2 K2)|refine And.intro ?_ ?_|intro hb) ))))))|refine T.skip ?_|refine T.exit ?_|refine T.condT rfl ?_|refine T.condF rfl ?_|refine T.cond rfl (fun hc=>?_) (fun hc=>?_)|refine T.ret ?_|simp only [ThenA,InBlock,reduceIte,Nat.reduceEqDiff]|((repeat ((fail_if_success (refine hK _ ?_));clear hK K));refine hK _ ?_;clear hK K))
    refine T.comm [some (0,0),some (0,0),some (0,0),some (0,0),some (0,0),some (0,0),some (0,0),some (0,0),some (0,0),some (0,0),some (0,0),some (0,0),some (0,0),some (0,0),some (0,0),some (0,0),some (0,0),some (0,0),some (0,0),some (0,0),some (0,0),some (0,0),some (0,0),some (0,0),some (0,0),some (0,0),some (0,0),some (0,0),some (0,0),some (0,0),some (0,0),some (0,0),some (0,0),some (0,0),some (0,0),some (0,0)] (by kernel_rfl) (by kernel_rfl) fun K' hK'=>?_;simp only [List.map_cons,List.map_nil,List.zip_cons_cons,List.zip_nil_left];(repeat' (first|(with_reducible refine WC.fin ?_;refine hK' _ ?_;clear hK' K')|((first|(with_reducible refine WC.stepV fun K2 hK2=>?_)|(with_reducible refine WC.stepW fun K2 hK2=>?_));simp only [simprocAttr,implies_true,amz,WCg,WCv,WOw,allP,dav,Chk,List.filter_cons,List.filter_nil,bne_self_eq_false,Nat.reduceBneDiff,Bool.false_eq_true,tys];(repeat' (first|(with_reducible refine hK2 _ _ ?_;clear hK2 K2)|with_reducible (first|(refine hK2 _ ?_;clear hK2 K2)|refine And.intro ?_ ?_|intro hb)|(with_reducible rfl)|((with_reducible show @Eq ASt _ _);rfl) )))));all_goals ((try simp only [ThenA,InBlock,reduceIte,Nat.reduceEqDiff]);(try ((repeat ((fail_if_success (refine hK _ ?_));clear hK K));refine hK _ ?_;clear hK K)))
    all_goals (repeat' (first|refine T.seqK fun K hK=>?_|refine T.block ?_|(refine T.reg (by kernel_rfl) fun K' hK'=>?_;simp only [startSt,frOf,List.map_cons,List.map_nil];(repeat' (first|(with_reducible refine WL.fin ?_;refine hK' _ ?_;clear hK' K')|((with_reducible refine WL.step fun K2 hK2=>?_);simp only [simprocAttr,implies_true,amz,tys];(repeat' (first|with_reducible (first|(refine hK2 _ ?_;clear hK2 K2)|refine And.intro ?_ ?_|intro hb) ))))))|refine T.skip ?_|refine T.exit ?_|refine T.condT rfl ?_|refine T.condF rfl ?_|refine T.cond rfl (fun hc=>?_) (fun hc=>?_)|refine T.ret ?_|simp only [ThenA,InBlock,reduceIte,Nat.reduceEqDiff]|((repeat ((fail_if_success (refine hK _ ?_));clear hK K));refine hK _ ?_;clear hK K)))
    all_goals first
      | (exfalso;simp_all [fitP];done)
      | ((refine FinM.ret (s':=⟨[(4,.bool false)],hpS b s a1 a2 a3,103,4⟩) (r := .bool false) (.inr rfl) Try.results84 (by refine Weak.of' rfl ?_;simp only [wks,reduceIte,Nat.reduceEqDiff,ASt.okB,AV.okB,Nat.reduceLT,implies_true,hpS,gpC,hk,evA,evC,List.map_cons,List.map_nil]) rfl ?_ ?_;(focus (simp only [ares,aresL,ares1,simprocAttr,implies_true,amz,tys,];done)));exact QS.no hn;done)
      | fail
end Go.Proofs.Ytnckehomadnhoaa
