/- Texts Pi, Pk, Pl, Pn, Px. -/
import Derived.Test.YtnckehomadnhoaaZ06
namespace Go.Proofs.Ytnckehomadnhoaa
open Go.RowKit Go.Sort Go.Maps
set_option linter.unusedSimpArgs false
set_option linter.unusedVariables false
set_option maxHeartbeats 16000000 in
set_option maxRecDepth 100000 in
theorem operate_ok (b:Nat) (s:Ps) (a1 a2 a3:Nat) (e:Ev) (he:Oki e) (h1:a1 < 999000):MemC Try.prog 86 4 (hpS b s a1 a2 a3) [.ptr 0 0,evA e] (QS b s a1 a2 a3 (operP s e)):=by
  have hm:a1 < maxLen:=by unfold maxLen;omega
  have hpe:hpS b s a1 a2 a3 = [(0,.boxP (some b) 127 [.int s.ev,.int s.gor,.own 1,.own 2,.own 3,.p (.seq 1 (s.op.kinds.map fun x => [pI x])),.int s.op.obj,.int s.op.k,.int s.op.n,.int s.op.snd,.int s.op.rcv]),(1,.map none Try.prog 3 a1 (inM chV s.ch)),(2,.map none Try.prog 120 a2 (plM muV s.mu)),(3,.map none Try.prog 120 a3 (plM Value.bool (dnO s.dn)))]:=rfl
  rw [hpe]
  simp only [evA,evC,List.map_cons,List.map_nil]
  refine MemC.of Try.func86 rfl 143 rfl (by decide) ?_;simp only [startM,frOf]
  repeat' (first|refine T.seqK fun K hK=>?_|refine T.block ?_|(refine T.reg (by kernel_rfl) fun K' hK'=>?_;simp only [startSt,frOf,List.map_cons,List.map_nil];(repeat' (first|(with_reducible refine WL.fin ?_;refine hK' _ ?_;clear hK' K')|((with_reducible refine WL.step fun K2 hK2=>?_);simp only [simprocAttr,implies_true,amz,tys];(repeat' (first|with_reducible (first|(refine hK2 _ ?_;clear hK2 K2)|refine And.intro ?_ ?_|intro hb) ))))))|refine T.skip ?_|refine T.exit ?_|refine T.condT rfl ?_|refine T.condF rfl ?_|refine T.cond rfl (fun hc=>?_) (fun hc=>?_)|refine T.ret ?_|simp only [ThenA,InBlock,reduceIte,Nat.reduceEqDiff]|((repeat ((fail_if_success (refine hK _ ?_));clear hK K));refine hK _ ?_;clear hK K))
  refine T.comm [some (0,1),some (0,1),some (0,1),some (0,1),some (0,1),some (0,1),some (0,1),some (0,1),some (0,1),some (0,2),none,none,some (2,2)] (by kernel_rfl) (by kernel_rfl) fun K' hK'=>?_;simp only [List.map_cons,List.map_nil,List.zip_cons_cons,List.zip_nil_left];(repeat' (first|(with_reducible refine WC.fin ?_;refine hK' _ ?_;clear hK' K')|((first|(with_reducible refine WC.stepV fun K2 hK2=>?_)|(with_reducible refine WC.stepW fun K2 hK2=>?_));simp only [simprocAttr,implies_true,amz,WCg,WCv,WOw,allP,dav,Chk,List.filter_cons,List.filter_nil,bne_self_eq_false,Nat.reduceBneDiff,Bool.false_eq_true,tys,keyed_3,keyOf_3 he.o,inM_at,ch_z,cv_ch,Option.isSome_map];(repeat' (first|(with_reducible refine hK2 _ _ ?_;clear hK2 K2)|with_reducible (first|(refine hK2 _ ?_;clear hK2 K2)|refine And.intro ?_ ?_|intro hb)|(with_reducible rfl)|((with_reducible show @Eq ASt _ _);rfl) )))));all_goals ((try simp only [ThenA,InBlock,reduceIte,Nat.reduceEqDiff]);(try ((repeat ((fail_if_success (refine hK _ ?_));clear hK K));refine hK _ ?_;clear hK K)))
  obtain ⟨c,hcc⟩ : ∃ c,chanP s e=c:=⟨_,rfl⟩
  repeat' (first|refine T.seqK fun K hK=>?_|refine T.block ?_|refine T.skip ?_|refine T.exit ?_|refine T.condT rfl ?_|refine T.condF rfl ?_|refine T.cond rfl (fun hc=>?_) (fun hc=>?_)|refine T.ret ?_|simp only [ThenA,InBlock,reduceIte,Nat.reduceEqDiff]|((repeat ((fail_if_success (refine hK _ ?_));clear hK K));refine hK _ ?_;clear hK K))
  (refine T.reg (by kernel_rfl) fun K' hK'=>?_;simp only [startSt,frOf,List.map_cons,List.map_nil];(repeat' (first|(with_reducible refine WL.fin ?_;refine hK' _ ?_;clear hK' K')|((with_reducible refine WL.step fun K2 hK2=>?_);simp only [simprocAttr,implies_true,amz,tys];(repeat' (first|with_reducible (first|(refine hK2 _ ?_;clear hK2 K2)|refine And.intro ?_ ?_|intro hb) )))));all_goals ((try simp only [ThenA,InBlock,reduceIte,Nat.reduceEqDiff]);(try ((repeat ((fail_if_success (refine hK _ ?_));clear hK K));refine hK _ ?_;clear hK K))))
  suffices hmid : ∀ s',Weak s' ⟨[(0,.ptr 0 0),(3,.ptr 4 0),(4,.bool false),(5,.ptr 5 0)],[(5,.boxP none 136 [.int c.cap,.int c.sent,.int c.recv,.bool c.closed]),(4,.boxP none 44 ((evC e).map .p)),(0,.boxP (some b) 127 [.int s.ev,.int s.gor,.own 1,.own 2,.own 3,.p (.seq 1 (s.op.kinds.map fun x => [pI x])),.int s.op.obj,.int s.op.k,.int s.op.n,.int s.op.snd,.int s.op.rcv]),(1,.map none Try.prog 3 a1 (inM chV s.ch)),(2,.map none Try.prog 120 a2 (plM muV s.mu)),(3,.map none Try.prog 120 a3 (plM Value.bool (dnO s.dn)))],143,6⟩→K s' by
    clear hK
    have hK:=hmid
    clear hmid
    cases hx:s.ch e.obj with
    | none =>
      have c1:c=⟨e.n,0,0,false⟩:=by rw [← hcc,chanP,hx];rfl
      simp only [hx,Option.getD_none,Option.isSome_none,ch0]
      repeat' (first|refine T.seqK fun K hK=>?_|refine T.block ?_|(refine T.reg (by kernel_rfl) fun K' hK'=>?_;simp only [startSt,frOf,List.map_cons,List.map_nil];(repeat' (first|(with_reducible refine WL.fin ?_;refine hK' _ ?_;clear hK' K')|((with_reducible refine WL.step fun K2 hK2=>?_);simp only [simprocAttr,implies_true,amz,tys];(repeat' (first|with_reducible (first|(refine hK2 _ ?_;clear hK2 K2)|refine And.intro ?_ ?_|intro hb) ))))))|refine T.skip ?_|refine T.exit ?_|refine T.condT rfl ?_|refine T.condF rfl ?_|refine T.cond rfl (fun hc=>?_) (fun hc=>?_)|refine T.ret ?_|simp only [ThenA,InBlock,reduceIte,Nat.reduceEqDiff]|((repeat ((fail_if_success (refine hK _ ?_));clear hK K));refine hK _ ?_;clear hK K))
      all_goals first
        | (exfalso;simp_all;done)
        | (refine Weak.of' rfl ?_;simp only [wks,reduceIte,Nat.reduceEqDiff,ASt.okB,AV.okB,Nat.reduceLT,implies_true,evC,List.map_cons,List.map_nil,c1];done)
    | some c0 =>
      have c1:c=c0:=by rw [← hcc,chanP,hx];rfl
      simp only [hx,Option.getD_some,Option.isSome_some]
      repeat' (first|refine T.seqK fun K hK=>?_|refine T.block ?_|(refine T.reg (by kernel_rfl) fun K' hK'=>?_;simp only [startSt,frOf,List.map_cons,List.map_nil];(repeat' (first|(with_reducible refine WL.fin ?_;refine hK' _ ?_;clear hK' K')|((with_reducible refine WL.step fun K2 hK2=>?_);simp only [simprocAttr,implies_true,amz,tys];(repeat' (first|with_reducible (first|(refine hK2 _ ?_;clear hK2 K2)|refine And.intro ?_ ?_|intro hb) ))))))|refine T.skip ?_|refine T.exit ?_|refine T.condT rfl ?_|refine T.condF rfl ?_|refine T.cond rfl (fun hc=>?_) (fun hc=>?_)|refine T.ret ?_|simp only [ThenA,InBlock,reduceIte,Nat.reduceEqDiff]|((repeat ((fail_if_success (refine hK _ ?_));clear hK K));refine hK _ ?_;clear hK K))
      all_goals first
        | (exfalso;simp_all;done)
        | (refine Weak.of' rfl ?_;simp only [wks,reduceIte,Nat.reduceEqDiff,ASt.okB,AV.okB,Nat.reduceLT,implies_true,evC,List.map_cons,List.map_nil,c1];done)
  intro s' hw
  refine hK s' (T.weak hw ?_)
  clear hK hw K s'
  simp only [evC,List.map_cons,List.map_nil]
  have m1:(1:Nat)≤maxLen:=by unfold maxLen;omega
  have m3:(3:Nat)≤maxLen:=by unfold maxLen;omega
  have hu:=inM_upd' s.ch e.obj c (v := .agg #[.int .i64 c.cap,.int .i64 c.sent,.int .i64 c.recv,.bool c.closed]) rfl
  by_cases hcap:(c.cap != e.n)=true
  · have hn:operP s e=none:=by simp [operP,hcc,hcap]
    repeat' (first|refine T.seqK fun K hK=>?_|refine T.block ?_|(refine T.reg (by kernel_rfl) fun K' hK'=>?_;simp only [startSt,frOf,List.map_cons,List.map_nil];(repeat' (first|(with_reducible refine WL.fin ?_;refine hK' _ ?_;clear hK' K')|((with_reducible refine WL.step fun K2 hK2=>?_);simp only [simprocAttr,implies_true,amz,tys,m1,m3,hcap];(repeat' (first|with_reducible (first|(refine hK2 _ ?_;clear hK2 K2)|refine And.intro ?_ ?_|intro hb) ))))))|refine T.skip ?_|refine T.exit ?_|refine T.condT rfl ?_|refine T.condF rfl ?_|refine T.cond rfl (fun hc=>?_) (fun hc=>?_)|refine T.ret ?_|simp only [ThenA,InBlock,reduceIte,Nat.reduceEqDiff]|((repeat ((fail_if_success (refine hK _ ?_));clear hK K));refine hK _ ?_;clear hK K))
    all_goals first
      | (((refine FinM.ret (s':=⟨[(4,.bool false)],hpS b s a1 a2 a3,143,4⟩) (r := .bool false) (.inr rfl) Try.results86 (by refine Weak.of' rfl ?_;simp only [wks,reduceIte,Nat.reduceEqDiff,ASt.okB,AV.okB,Nat.reduceLT,implies_true,hpS,gpC,List.map_cons,List.map_nil]) rfl ?_ ?_;(focus (simp only [ares,aresL,ares1,simprocAttr,implies_true,amz,tys,];done)));exact QS.no hn);done)
      | (exfalso;simp_all;done)
      | fail
  have hcap' : (c.cap != e.n)=false:=by simpa using hcap
  clear hcap
  have hce:c.cap=e.n:=by simpa using hcap'
  by_cases hk:e.kind=19
  · have q19:(e.kind == 19)=true:=by simp [hk]
    have q20:(e.kind == 20)=false:=by simp [hk]
    have q15:(e.kind == 15)=false:=by simp [hk]
    have q17:(e.kind == 17)=false:=by simp [hk]
    cases hcl:c.closed with
    | true =>
      have hn:operP s e=none:=by simp [operP,hcc,hce,hk,hcl]
      repeat' (first|refine T.seqK fun K hK=>?_|refine T.block ?_|(refine T.reg (by kernel_rfl) fun K' hK'=>?_;simp only [startSt,frOf,List.map_cons,List.map_nil];(repeat' (first|(with_reducible refine WL.fin ?_;refine hK' _ ?_;clear hK' K')|((with_reducible refine WL.step fun K2 hK2=>?_);simp only [simprocAttr,implies_true,amz,tys,m1,m3,hcap',q19,hcl];(repeat' (first|with_reducible (first|(refine hK2 _ ?_;clear hK2 K2)|refine And.intro ?_ ?_|intro hb) ))))))|refine T.skip ?_|refine T.exit ?_|refine T.condT rfl ?_|refine T.condF rfl ?_|refine T.cond rfl (fun hc=>?_) (fun hc=>?_)|refine T.ret ?_|simp only [ThenA,InBlock,reduceIte,Nat.reduceEqDiff]|((repeat ((fail_if_success (refine hK _ ?_));clear hK K));refine hK _ ?_;clear hK K))
      all_goals first
        | (((refine FinM.ret (s':=⟨[(4,.bool false)],hpS b s a1 a2 a3,143,4⟩) (r := .bool false) (.inr rfl) Try.results86 (by refine Weak.of' rfl ?_;simp only [wks,reduceIte,Nat.reduceEqDiff,ASt.okB,AV.okB,Nat.reduceLT,implies_true,hpS,gpC,List.map_cons,List.map_nil]) rfl ?_ ?_;(focus (simp only [ares,aresL,ares1,simprocAttr,implies_true,amz,tys,];done)));exact QS.no hn);done)
        | (exfalso;simp_all;done)
        | fail
    | false =>
      have hy:operP s e=some (setCh s e.obj { c with closed:=true }):=by simp [operP,hcc,hce,hk,hcl]
      have hu2:=inM_upd' s.ch e.obj { c with closed:=true } (v := .agg #[.int .i64 c.cap,.int .i64 c.sent,.int .i64 c.recv,.bool true]) rfl
      repeat' (first|refine T.seqK fun K hK=>?_|refine T.block ?_|(refine T.reg (by kernel_rfl) fun K' hK'=>?_;simp only [startSt,frOf,List.map_cons,List.map_nil];(repeat' (first|(with_reducible refine WL.fin ?_;refine hK' _ ?_;clear hK' K')|((with_reducible refine WL.step fun K2 hK2=>?_);simp only [simprocAttr,implies_true,amz,tys,m1,m3,hcap',q19,hcl];(repeat' (first|with_reducible (first|(refine hK2 _ ?_;clear hK2 K2)|refine And.intro ?_ ?_|intro hb) ))))))|refine T.skip ?_|refine T.exit ?_|refine T.condT rfl ?_|refine T.condF rfl ?_|refine T.cond rfl (fun hc=>?_) (fun hc=>?_)|refine T.ret ?_|simp only [ThenA,InBlock,reduceIte,Nat.reduceEqDiff]|((repeat ((fail_if_success (refine hK _ ?_));clear hK K));refine hK _ ?_;clear hK K))
      all_goals (refine T.drw 7 (by kernel_rfl) (by kernel_rfl) fun K' hK'=>?_;simp only [List.map_cons,List.map_nil];(repeat' (first|(with_reducible refine WL.fin ?_;refine hK' _ ?_;clear hK' K')|(with_reducible refine WD.fin ?_)|((with_reducible first|refine WL.step fun K2 hK2=>?_|refine WD.step fun K2 hK2=>?_);simp only [simprocAttr,implies_true,amz,tys,keyed_3,keyOf_3 he.o,hm,hu2];(repeat' (first|with_reducible (first|(refine hK2 _ ?_;clear hK2 K2)|refine And.intro ?_ ?_|intro hb) )))));all_goals ((try simp only [ThenA,InBlock,reduceIte,Nat.reduceEqDiff]);(try ((repeat ((fail_if_success (refine hK _ ?_));clear hK K));refine hK _ ?_;clear hK K))))
      all_goals (repeat' (first|refine T.seqK fun K hK=>?_|refine T.block ?_|(refine T.reg (by kernel_rfl) fun K' hK'=>?_;simp only [startSt,frOf,List.map_cons,List.map_nil];(repeat' (first|(with_reducible refine WL.fin ?_;refine hK' _ ?_;clear hK' K')|((with_reducible refine WL.step fun K2 hK2=>?_);simp only [simprocAttr,implies_true,amz,tys];(repeat' (first|with_reducible (first|(refine hK2 _ ?_;clear hK2 K2)|refine And.intro ?_ ?_|intro hb) ))))))|refine T.skip ?_|refine T.exit ?_|refine T.condT rfl ?_|refine T.condF rfl ?_|refine T.cond rfl (fun hc=>?_) (fun hc=>?_)|refine T.ret ?_|simp only [ThenA,InBlock,reduceIte,Nat.reduceEqDiff]|((repeat ((fail_if_success (refine hK _ ?_));clear hK K));refine hK _ ?_;clear hK K)))
      all_goals first
        | (((refine FinM.ret (s':=⟨[(4,.bool true)],hpS b (setCh s e.obj { c with closed:=true }) (a1 + 1) a2 a3,143,4⟩) (r := .bool true) (.inr rfl) Try.results86 (by refine Weak.of' rfl ?_;simp only [wks,reduceIte,Nat.reduceEqDiff,ASt.okB,AV.okB,Nat.reduceLT,implies_true,setCh,hpS,gpC,List.map_cons,List.map_nil]) rfl ?_ ?_;(focus (simp only [ares,aresL,ares1,simprocAttr,implies_true,amz,tys,];done)));exact QS.yes (setCh s e.obj { c with closed:=true }) (a1 + 1) a2 a3 hy (by omega) (by omega) (by omega));done)
        | fail
  by_cases hk20:e.kind=20
  · have hk:=hk20
    have q19:(e.kind == 19)=false:=by simp [hk]
    have q20:(e.kind == 20)=true:=by simp [hk]
    have q15:(e.kind == 15)=false:=by simp [hk]
    have q17:(e.kind == 17)=false:=by simp [hk]
    cases hb:(c.closed && c.sent == c.recv) with
    | true =>
      have hy:operP s e=some s:=by simp [operP,hcc,hce,hk];simpa using hb
      obtain ⟨b1,b2⟩ : c.closed=true∧(c.sent == c.recv)=true:=by simpa using hb
      repeat' (first|refine T.seqK fun K hK=>?_|refine T.block ?_|(refine T.reg (by kernel_rfl) fun K' hK'=>?_;simp only [startSt,frOf,List.map_cons,List.map_nil];(repeat' (first|(with_reducible refine WL.fin ?_;refine hK' _ ?_;clear hK' K')|((with_reducible refine WL.step fun K2 hK2=>?_);simp only [simprocAttr,implies_true,amz,tys,m1,m3,hcap',q19,q20,b1,b2];(repeat' (first|with_reducible (first|(refine hK2 _ ?_;clear hK2 K2)|refine And.intro ?_ ?_|intro hb) ))))))|refine T.skip ?_|refine T.exit ?_|refine T.condT rfl ?_|refine T.condF rfl ?_|refine T.cond rfl (fun hc=>?_) (fun hc=>?_)|refine T.ret ?_|simp only [ThenA,InBlock,reduceIte,Nat.reduceEqDiff]|((repeat ((fail_if_success (refine hK _ ?_));clear hK K));refine hK _ ?_;clear hK K))
      all_goals first
        | (((refine FinM.ret (s':=⟨[(4,.bool true)],hpS b s a1 a2 a3,143,4⟩) (r := .bool true) (.inr rfl) Try.results86 (by refine Weak.of' rfl ?_;simp only [wks,reduceIte,Nat.reduceEqDiff,ASt.okB,AV.okB,Nat.reduceLT,implies_true,hpS,gpC,List.map_cons,List.map_nil]) rfl ?_ ?_;(focus (simp only [ares,aresL,ares1,simprocAttr,implies_true,amz,tys,];done)));exact QS.yes s a1 a2 a3 hy (by omega) (by omega) (by omega));done)
        | (exfalso;simp_all;done)
        | fail
    | false =>
      have hn:operP s e=none:=by simp [operP,hcc,hce,hk];simpa using hb
      cases b1:c.closed with
      | false =>
        repeat' (first|refine T.seqK fun K hK=>?_|refine T.block ?_|(refine T.reg (by kernel_rfl) fun K' hK'=>?_;simp only [startSt,frOf,List.map_cons,List.map_nil];(repeat' (first|(with_reducible refine WL.fin ?_;refine hK' _ ?_;clear hK' K')|((with_reducible refine WL.step fun K2 hK2=>?_);simp only [simprocAttr,implies_true,amz,tys,m1,m3,hcap',q19,q20,b1];(repeat' (first|with_reducible (first|(refine hK2 _ ?_;clear hK2 K2)|refine And.intro ?_ ?_|intro hb) ))))))|refine T.skip ?_|refine T.exit ?_|refine T.condT rfl ?_|refine T.condF rfl ?_|refine T.cond rfl (fun hc=>?_) (fun hc=>?_)|refine T.ret ?_|simp only [ThenA,InBlock,reduceIte,Nat.reduceEqDiff]|((repeat ((fail_if_success (refine hK _ ?_));clear hK K));refine hK _ ?_;clear hK K))
        all_goals first
          | (((refine FinM.ret (s':=⟨[(4,.bool false)],hpS b s a1 a2 a3,143,4⟩) (r := .bool false) (.inr rfl) Try.results86 (by refine Weak.of' rfl ?_;simp only [wks,reduceIte,Nat.reduceEqDiff,ASt.okB,AV.okB,Nat.reduceLT,implies_true,hpS,gpC,List.map_cons,List.map_nil]) rfl ?_ ?_;(focus (simp only [ares,aresL,ares1,simprocAttr,implies_true,amz,tys,];done)));exact QS.no hn);done)
          | fail
      | true =>
        have b2:(c.sent == c.recv)=false:=by rw [b1] at hb;simpa using hb
        repeat' (first|refine T.seqK fun K hK=>?_|refine T.block ?_|(refine T.reg (by kernel_rfl) fun K' hK'=>?_;simp only [startSt,frOf,List.map_cons,List.map_nil];(repeat' (first|(with_reducible refine WL.fin ?_;refine hK' _ ?_;clear hK' K')|((with_reducible refine WL.step fun K2 hK2=>?_);simp only [simprocAttr,implies_true,amz,tys,m1,m3,hcap',q19,q20,b1,b2];(repeat' (first|with_reducible (first|(refine hK2 _ ?_;clear hK2 K2)|refine And.intro ?_ ?_|intro hb) ))))))|refine T.skip ?_|refine T.exit ?_|refine T.condT rfl ?_|refine T.condF rfl ?_|refine T.cond rfl (fun hc=>?_) (fun hc=>?_)|refine T.ret ?_|simp only [ThenA,InBlock,reduceIte,Nat.reduceEqDiff]|((repeat ((fail_if_success (refine hK _ ?_));clear hK K));refine hK _ ?_;clear hK K))
        all_goals first
          | (((refine FinM.ret (s':=⟨[(4,.bool false)],hpS b s a1 a2 a3,143,4⟩) (r := .bool false) (.inr rfl) Try.results86 (by refine Weak.of' rfl ?_;simp only [wks,reduceIte,Nat.reduceEqDiff,ASt.okB,AV.okB,Nat.reduceLT,implies_true,hpS,gpC,List.map_cons,List.map_nil]) rfl ?_ ?_;(focus (simp only [ares,aresL,ares1,simprocAttr,implies_true,amz,tys,];done)));exact QS.no hn);done)
          | fail
  by_cases hk15:e.kind=15
  · have hk:=hk15
    have q19:(e.kind == 19)=false:=by simp [hk]
    have q20:(e.kind == 20)=false:=by simp [hk]
    have q15:(e.kind == 15)=true:=by simp [hk]
    have q17:(e.kind == 17)=false:=by simp [hk]
    cases hcl:c.closed with
    | true =>
      have hn:operP s e=none:=by simp [operP,hcc,hce,hk,hcl]
      repeat' (first|refine T.seqK fun K hK=>?_|refine T.block ?_|(refine T.reg (by kernel_rfl) fun K' hK'=>?_;simp only [startSt,frOf,List.map_cons,List.map_nil];(repeat' (first|(with_reducible refine WL.fin ?_;refine hK' _ ?_;clear hK' K')|((with_reducible refine WL.step fun K2 hK2=>?_);simp only [simprocAttr,implies_true,amz,tys,m1,m3,hcap',q19,q20,q15,hcl];(repeat' (first|with_reducible (first|(refine hK2 _ ?_;clear hK2 K2)|refine And.intro ?_ ?_|intro hb) ))))))|refine T.skip ?_|refine T.exit ?_|refine T.condT rfl ?_|refine T.condF rfl ?_|refine T.cond rfl (fun hc=>?_) (fun hc=>?_)|refine T.ret ?_|simp only [ThenA,InBlock,reduceIte,Nat.reduceEqDiff]|((repeat ((fail_if_success (refine hK _ ?_));clear hK K));refine hK _ ?_;clear hK K))
      all_goals first
        | (((refine FinM.ret (s':=⟨[(4,.bool false)],hpS b s a1 a2 a3,143,4⟩) (r := .bool false) (.inr rfl) Try.results86 (by refine Weak.of' rfl ?_;simp only [wks,reduceIte,Nat.reduceEqDiff,ASt.okB,AV.okB,Nat.reduceLT,implies_true,hpS,gpC,List.map_cons,List.map_nil]) rfl ?_ ?_;(focus (simp only [ares,aresL,ares1,simprocAttr,implies_true,amz,tys,];done)));exact QS.no hn);done)
        | (exfalso;simp_all;done)
        | fail
    | false =>
      cases hkk:(e.k != c.sent) with
      | true =>
        have hn:operP s e=none:=by simp [operP,hcc,hce,hk,hcl,hkk]
        repeat' (first|refine T.seqK fun K hK=>?_|refine T.block ?_|(refine T.reg (by kernel_rfl) fun K' hK'=>?_;simp only [startSt,frOf,List.map_cons,List.map_nil];(repeat' (first|(with_reducible refine WL.fin ?_;refine hK' _ ?_;clear hK' K')|((with_reducible refine WL.step fun K2 hK2=>?_);simp only [simprocAttr,implies_true,amz,tys,m1,m3,hcap',q19,q20,q15,hcl,hkk];(repeat' (first|with_reducible (first|(refine hK2 _ ?_;clear hK2 K2)|refine And.intro ?_ ?_|intro hb) ))))))|refine T.skip ?_|refine T.exit ?_|refine T.condT rfl ?_|refine T.condF rfl ?_|refine T.cond rfl (fun hc=>?_) (fun hc=>?_)|refine T.ret ?_|simp only [ThenA,InBlock,reduceIte,Nat.reduceEqDiff]|((repeat ((fail_if_success (refine hK _ ?_));clear hK K));refine hK _ ?_;clear hK K))
        all_goals first
          | (((refine FinM.ret (s':=⟨[(4,.bool false)],hpS b s a1 a2 a3,143,4⟩) (r := .bool false) (.inr rfl) Try.results86 (by refine Weak.of' rfl ?_;simp only [wks,reduceIte,Nat.reduceEqDiff,ASt.okB,AV.okB,Nat.reduceLT,implies_true,hpS,gpC,List.map_cons,List.map_nil]) rfl ?_ ?_;(focus (simp only [ares,aresL,ares1,simprocAttr,implies_true,amz,tys,];done)));exact QS.no hn);done)
          | (exfalso;simp_all;done)
          | fail
      | false =>
        have hu3:=inM_upd' s.ch e.obj c (v := .agg #[.int .i64 c.cap,.int .i64 c.sent,.int .i64 c.recv,.bool false]) (by rw [chV,hcl])
        have hkk' : e.k=c.sent:=by simpa using hkk
        cases hlt:decide (IntKind.i64.wrap (c.sent - c.recv) < c.cap) with
        | true =>
          have hlt' : IntKind.i64.wrap (c.sent - c.recv) < e.n:=by rw [← hce];simpa using hlt
          obtain ⟨t,ht⟩ : ∃ t,startP s e c [16] e.g (-1)=t:=⟨_,rfl⟩
          have hy:operP s e=some t:=by simp [operP,hcc,hce,hk,hcl,hkk',hlt',← ht]
          have hcn:=count_ok b (setOp (setCh s e.obj c) ⟨[16],e.obj,e.k,e.n,e.g,(-1)⟩) (a1 + 1) a2 a3 e he (by omega)
          rw [show countP (setOp (setCh s e.obj c) ⟨[16],e.obj,e.k,e.n,e.g,(-1)⟩) e=t from ht] at hcn
          simp only [setOp,setCh,hpS,gpC,evA,evC,List.map_cons,List.map_nil,pI] at hcn
          repeat' (first|refine T.seqK fun K hK=>?_|refine T.block ?_|(refine T.reg (by kernel_rfl) fun K' hK'=>?_;simp only [startSt,frOf,List.map_cons,List.map_nil];(repeat' (first|(with_reducible refine WL.fin ?_;refine hK' _ ?_;clear hK' K')|((with_reducible refine WL.step fun K2 hK2=>?_);simp only [simprocAttr,implies_true,amz,tys,m1,m3,hcap',q19,q20,q15,hcl,hkk,hlt];(repeat' (first|with_reducible (first|(refine hK2 _ ?_;clear hK2 K2)|refine And.intro ?_ ?_|intro hb) ))))))|refine T.skip ?_|refine T.exit ?_|refine T.condT rfl ?_|refine T.condF rfl ?_|refine T.cond rfl (fun hc=>?_) (fun hc=>?_)|refine T.ret ?_|simp only [ThenA,InBlock,reduceIte,Nat.reduceEqDiff]|((repeat ((fail_if_success (refine hK _ ?_));clear hK K));refine hK _ ?_;clear hK K))
          all_goals (refine T.drw 7 (by kernel_rfl) (by kernel_rfl) fun K' hK'=>?_;simp only [List.map_cons,List.map_nil];(repeat' (first|(with_reducible refine WL.fin ?_;refine hK' _ ?_;clear hK' K')|(with_reducible refine WD.fin ?_)|((with_reducible first|refine WL.step fun K2 hK2=>?_|refine WD.step fun K2 hK2=>?_);simp only [simprocAttr,implies_true,amz,tys,keyed_3,keyOf_3 he.o,hm,hu,hu3];(repeat' (first|with_reducible (first|(refine hK2 _ ?_;clear hK2 K2)|refine And.intro ?_ ?_|intro hb) )))));all_goals ((try simp only [ThenA,InBlock,reduceIte,Nat.reduceEqDiff]);(try ((repeat ((fail_if_success (refine hK _ ?_));clear hK K));refine hK _ ?_;clear hK K))))
          all_goals (repeat' (first|refine T.seqK fun K hK=>?_|refine T.block ?_|(refine T.reg (by kernel_rfl) fun K' hK'=>?_;simp only [startSt,frOf,List.map_cons,List.map_nil];(repeat' (first|(with_reducible refine WL.fin ?_;refine hK' _ ?_;clear hK' K')|((with_reducible refine WL.step fun K2 hK2=>?_);simp only [simprocAttr,implies_true,amz,tys];(repeat' (first|with_reducible (first|(refine hK2 _ ?_;clear hK2 K2)|refine And.intro ?_ ?_|intro hb)|((with_reducible refine callArmM 4 _ _ [0] (Ent.of Try.func92 (by kernel_rfl) rfl) (hcn) ?_ ?_ ?_);(focus ((refine ⟨Nat.le_of_ble_eq_true rfl,?_,?_⟩ <;> simp only [List.mem_cons,List.not_mem_nil,or_false,forall_eq_or_imp,forall_eq,lk_cons,lk_nil,reduceIte,Nat.reduceEqDiff,AO.okB_box,AO.okB_row,AO.okB_map,AO.okB_raw,AV.okB,AV.okB_agg,AV.okB_fn,AV.okB_tup,List.all_cons,List.all_nil,Bool.and_true,Bool.and_self,Nat.reduceLT,decide_true,true_and,and_true,Option.isSome_some,true_implies,false_implies,implies_true,and_self,Nat.lt_irrefl,Option.some.injEq,]);done));(focus (simp [AV.okB];done));rintro hp' r ⟨rfl,rfl⟩;refine ⟨by simp [Kept,lk_cons,AO.handle],?_⟩;simp only [ASt.callM,AV.keep_own,AV.keep_ptr,AV.keep_rptr,AV.keep_pre,AV.keep_p,AV.keep_elt,AV.keep_junk,AV.keep_cap0,AV.keep_fn,AV.keep_agg,AV.keep_tup,AO.keep,List.map_cons,List.map_nil,List.filter_cons,List.filter_nil,Nat.reduceLeDiff,decide_true,decide_false,reduceIte,Bool.false_eq_true,List.cons_append,List.nil_append,List.mem_cons,List.not_mem_nil,or_false,false_or,or_true,true_or,Nat.reduceEqDiff,put_some,put_none,Nat.le_refl,])))))))|refine T.skip ?_|refine T.exit ?_|refine T.condT rfl ?_|refine T.condF rfl ?_|refine T.cond rfl (fun hc=>?_) (fun hc=>?_)|refine T.ret ?_|simp only [ThenA,InBlock,reduceIte,Nat.reduceEqDiff]|((repeat ((fail_if_success (refine hK _ ?_));clear hK K));refine hK _ ?_;clear hK K)))
          all_goals first
            | (((refine FinM.ret (s':=⟨[(4,.bool true)],hpS b t (a1 + 1 + 1) a2 a3,143,4⟩) (r := .bool true) (.inr rfl) Try.results86 (by refine Weak.of' rfl ?_;simp only [wks,reduceIte,Nat.reduceEqDiff,ASt.okB,AV.okB,Nat.reduceLT,implies_true,hpS,gpC,List.map_cons,List.map_nil]) rfl ?_ ?_;(focus (simp only [ares,aresL,ares1,simprocAttr,implies_true,amz,tys,];done)));exact QS.yes t (a1 + 1 + 1) a2 a3 hy (by omega) (by omega) (by omega));done)
            | (exfalso;simp_all;done)
            | fail
        | false =>
          have hlt' : ¬ IntKind.i64.wrap (c.sent - c.recv) < e.n:=by rw [← hce];simpa using hlt
          cases hz:(c.cap == 0 && !(s.gor == 1)) with
          | true =>
            obtain ⟨z1,z2⟩ : (c.cap == 0)=true∧(s.gor == 1)=false:=by simpa using hz
            have z1' : e.n=0:=by rw [← hce];simpa using z1
            have z2' : ¬ s.gor=1:=by simpa using z2
            obtain ⟨t,ht⟩ : ∃ t,startP s e c [17,18,16] e.g (-1)=t:=⟨_,rfl⟩
            have hy:operP s e=some t:=by simp [operP,hcc,hce,hk,hcl,hkk',z1',z2',← ht];intro h;exfalso;rw [z1'] at hlt';exact hlt' h
            have hcn:=count_ok b (setOp (setCh s e.obj c) ⟨[17,18,16],e.obj,e.k,e.n,e.g,(-1)⟩) (a1 + 1) a2 a3 e he (by omega)
            rw [show countP (setOp (setCh s e.obj c) ⟨[17,18,16],e.obj,e.k,e.n,e.g,(-1)⟩) e=t from ht] at hcn
            simp only [setOp,setCh,hpS,gpC,evA,evC,List.map_cons,List.map_nil,pI] at hcn
            repeat' (first|refine T.seqK fun K hK=>?_|refine T.block ?_|(refine T.reg (by kernel_rfl) fun K' hK'=>?_;simp only [startSt,frOf,List.map_cons,List.map_nil];(repeat' (first|(with_reducible refine WL.fin ?_;refine hK' _ ?_;clear hK' K')|((with_reducible refine WL.step fun K2 hK2=>?_);simp only [simprocAttr,implies_true,amz,tys,m1,m3,hcap',q19,q20,q15,hcl,hkk,hlt,z1,z2];(repeat' (first|with_reducible (first|(refine hK2 _ ?_;clear hK2 K2)|refine And.intro ?_ ?_|intro hb) ))))))|refine T.skip ?_|refine T.exit ?_|refine T.condT rfl ?_|refine T.condF rfl ?_|refine T.cond rfl (fun hc=>?_) (fun hc=>?_)|refine T.ret ?_|simp only [ThenA,InBlock,reduceIte,Nat.reduceEqDiff]|((repeat ((fail_if_success (refine hK _ ?_));clear hK K));refine hK _ ?_;clear hK K))
            all_goals (refine T.drw 7 (by kernel_rfl) (by kernel_rfl) fun K' hK'=>?_;simp only [List.map_cons,List.map_nil];(repeat' (first|(with_reducible refine WL.fin ?_;refine hK' _ ?_;clear hK' K')|(with_reducible refine WD.fin ?_)|((with_reducible first|refine WL.step fun K2 hK2=>?_|refine WD.step fun K2 hK2=>?_);simp only [simprocAttr,implies_true,amz,tys,keyed_3,keyOf_3 he.o,hm,hu,hu3];(repeat' (first|with_reducible (first|(refine hK2 _ ?_;clear hK2 K2)|refine And.intro ?_ ?_|intro hb) )))));all_goals ((try simp only [ThenA,InBlock,reduceIte,Nat.reduceEqDiff]);(try ((repeat ((fail_if_success (refine hK _ ?_));clear hK K));refine hK _ ?_;clear hK K))))
            all_goals (repeat' (first|refine T.seqK fun K hK=>?_|refine T.block ?_|(refine T.reg (by kernel_rfl) fun K' hK'=>?_;simp only [startSt,frOf,List.map_cons,List.map_nil];(repeat' (first|(with_reducible refine WL.fin ?_;refine hK' _ ?_;clear hK' K')|((with_reducible refine WL.step fun K2 hK2=>?_);simp only [simprocAttr,implies_true,amz,tys];(repeat' (first|with_reducible (first|(refine hK2 _ ?_;clear hK2 K2)|refine And.intro ?_ ?_|intro hb)|((with_reducible refine callArmM 4 _ _ [0] (Ent.of Try.func92 (by kernel_rfl) rfl) (hcn) ?_ ?_ ?_);(focus ((refine ⟨Nat.le_of_ble_eq_true rfl,?_,?_⟩ <;> simp only [List.mem_cons,List.not_mem_nil,or_false,forall_eq_or_imp,forall_eq,lk_cons,lk_nil,reduceIte,Nat.reduceEqDiff,AO.okB_box,AO.okB_row,AO.okB_map,AO.okB_raw,AV.okB,AV.okB_agg,AV.okB_fn,AV.okB_tup,List.all_cons,List.all_nil,Bool.and_true,Bool.and_self,Nat.reduceLT,decide_true,true_and,and_true,Option.isSome_some,true_implies,false_implies,implies_true,and_self,Nat.lt_irrefl,Option.some.injEq,]);done));(focus (simp [AV.okB];done));rintro hp' r ⟨rfl,rfl⟩;refine ⟨by simp [Kept,lk_cons,AO.handle],?_⟩;simp only [ASt.callM,AV.keep_own,AV.keep_ptr,AV.keep_rptr,AV.keep_pre,AV.keep_p,AV.keep_elt,AV.keep_junk,AV.keep_cap0,AV.keep_fn,AV.keep_agg,AV.keep_tup,AO.keep,List.map_cons,List.map_nil,List.filter_cons,List.filter_nil,Nat.reduceLeDiff,decide_true,decide_false,reduceIte,Bool.false_eq_true,List.cons_append,List.nil_append,List.mem_cons,List.not_mem_nil,or_false,false_or,or_true,true_or,Nat.reduceEqDiff,put_some,put_none,Nat.le_refl,])))))))|refine T.skip ?_|refine T.exit ?_|refine T.condT rfl ?_|refine T.condF rfl ?_|refine T.cond rfl (fun hc=>?_) (fun hc=>?_)|refine T.ret ?_|simp only [ThenA,InBlock,reduceIte,Nat.reduceEqDiff]|((repeat ((fail_if_success (refine hK _ ?_));clear hK K));refine hK _ ?_;clear hK K)))
            all_goals first
              | (((refine FinM.ret (s':=⟨[(4,.bool true)],hpS b t (a1 + 1 + 1) a2 a3,143,4⟩) (r := .bool true) (.inr rfl) Try.results86 (by refine Weak.of' rfl ?_;simp only [wks,reduceIte,Nat.reduceEqDiff,ASt.okB,AV.okB,Nat.reduceLT,implies_true,hpS,gpC,List.map_cons,List.map_nil]) rfl ?_ ?_;(focus (simp only [ares,aresL,ares1,simprocAttr,implies_true,amz,tys,];done)));exact QS.yes t (a1 + 1 + 1) a2 a3 hy (by omega) (by omega) (by omega));done)
              | (exfalso;simp_all;done)
              | fail
          | false =>
            have hz' : e.n=0→s.gor=1:=by rw [← hce];simpa using hz
            have hn:operP s e=none:=by simp [operP,hcc,hce,hk,hcl,hkk',hlt'];exact hz'
            repeat' (first|refine T.seqK fun K hK=>?_|refine T.block ?_|(refine T.reg (by kernel_rfl) fun K' hK'=>?_;simp only [startSt,frOf,List.map_cons,List.map_nil];(repeat' (first|(with_reducible refine WL.fin ?_;refine hK' _ ?_;clear hK' K')|((with_reducible refine WL.step fun K2 hK2=>?_);simp only [simprocAttr,implies_true,amz,tys,m1,m3,hcap',q19,q20,q15,hcl,hkk,hlt];(repeat' (first|with_reducible (first|(refine hK2 _ ?_;clear hK2 K2)|refine And.intro ?_ ?_|intro hb) ))))))|refine T.skip ?_|refine T.exit ?_|refine T.condT rfl ?_|refine T.condF rfl ?_|refine T.cond rfl (fun hc=>?_) (fun hc=>?_)|refine T.ret ?_|simp only [ThenA,InBlock,reduceIte,Nat.reduceEqDiff]|((repeat ((fail_if_success (refine hK _ ?_));clear hK K));refine hK _ ?_;clear hK K))
            all_goals first
              | (((refine FinM.ret (s':=⟨[(4,.bool false)],hpS b s a1 a2 a3,143,4⟩) (r := .bool false) (.inr rfl) Try.results86 (by refine Weak.of' rfl ?_;simp only [wks,reduceIte,Nat.reduceEqDiff,ASt.okB,AV.okB,Nat.reduceLT,implies_true,hpS,gpC,List.map_cons,List.map_nil]) rfl ?_ ?_;(focus (simp only [ares,aresL,ares1,simprocAttr,implies_true,amz,tys,];done)));exact QS.no hn);done)
              | (exfalso;simp_all;done)
              | fail
  by_cases hk17:e.kind=17
  · have hk:=hk17
    have q19:(e.kind == 19)=false:=by simp [hk]
    have q20:(e.kind == 20)=false:=by simp [hk]
    have q15:(e.kind == 15)=false:=by simp [hk]
    have q17:(e.kind == 17)=true:=by simp [hk]
    cases hkk:(e.k != c.recv) with
    | true =>
      have hn:operP s e=none:=by simp [operP,hcc,hce,hk,hkk]
      repeat' (first|refine T.seqK fun K hK=>?_|refine T.block ?_|(refine T.reg (by kernel_rfl) fun K' hK'=>?_;simp only [startSt,frOf,List.map_cons,List.map_nil];(repeat' (first|(with_reducible refine WL.fin ?_;refine hK' _ ?_;clear hK' K')|((with_reducible refine WL.step fun K2 hK2=>?_);simp only [simprocAttr,implies_true,amz,tys,m1,m3,hcap',q19,q20,q15,q17,hkk];(repeat' (first|with_reducible (first|(refine hK2 _ ?_;clear hK2 K2)|refine And.intro ?_ ?_|intro hb) ))))))|refine T.skip ?_|refine T.exit ?_|refine T.condT rfl ?_|refine T.condF rfl ?_|refine T.cond rfl (fun hc=>?_) (fun hc=>?_)|refine T.ret ?_|simp only [ThenA,InBlock,reduceIte,Nat.reduceEqDiff]|((repeat ((fail_if_success (refine hK _ ?_));clear hK K));refine hK _ ?_;clear hK K))
      all_goals first
        | (((refine FinM.ret (s':=⟨[(4,.bool false)],hpS b s a1 a2 a3,143,4⟩) (r := .bool false) (.inr rfl) Try.results86 (by refine Weak.of' rfl ?_;simp only [wks,reduceIte,Nat.reduceEqDiff,ASt.okB,AV.okB,Nat.reduceLT,implies_true,hpS,gpC,List.map_cons,List.map_nil]) rfl ?_ ?_;(focus (simp only [ares,aresL,ares1,simprocAttr,implies_true,amz,tys,];done)));exact QS.no hn);done)
        | (exfalso;simp_all;done)
        | fail
    | false =>
      have hu3:=hu
      have hkk' : e.k=c.recv:=by simpa using hkk
      cases hlt:decide (c.recv < c.sent) with
      | true =>
        have hlt' : c.recv < c.sent:=by simpa using hlt
        obtain ⟨t,ht⟩ : ∃ t,startP s e c [18] (-1) e.g=t:=⟨_,rfl⟩
        have hy:operP s e=some t:=by simp [operP,hcc,hce,hk,hkk',hlt',← ht]
        have hcn:=count_ok b (setOp (setCh s e.obj c) ⟨[18],e.obj,e.k,e.n,(-1),e.g⟩) (a1 + 1) a2 a3 e he (by omega)
        rw [show countP (setOp (setCh s e.obj c) ⟨[18],e.obj,e.k,e.n,(-1),e.g⟩) e=t from ht] at hcn
        simp only [setOp,setCh,hpS,gpC,evA,evC,List.map_cons,List.map_nil,pI] at hcn
        repeat' (first|refine T.seqK fun K hK=>?_|refine T.block ?_|(refine T.reg (by kernel_rfl) fun K' hK'=>?_;simp only [startSt,frOf,List.map_cons,List.map_nil];(repeat' (first|(with_reducible refine WL.fin ?_;refine hK' _ ?_;clear hK' K')|((with_reducible refine WL.step fun K2 hK2=>?_);simp only [simprocAttr,implies_true,amz,tys,m1,m3,hcap',q19,q20,q15,q17,hkk,hlt];(repeat' (first|with_reducible (first|(refine hK2 _ ?_;clear hK2 K2)|refine And.intro ?_ ?_|intro hb) ))))))|refine T.skip ?_|refine T.exit ?_|refine T.condT rfl ?_|refine T.condF rfl ?_|refine T.cond rfl (fun hc=>?_) (fun hc=>?_)|refine T.ret ?_|simp only [ThenA,InBlock,reduceIte,Nat.reduceEqDiff]|((repeat ((fail_if_success (refine hK _ ?_));clear hK K));refine hK _ ?_;clear hK K))
        all_goals (refine T.drw 7 (by kernel_rfl) (by kernel_rfl) fun K' hK'=>?_;simp only [List.map_cons,List.map_nil];(repeat' (first|(with_reducible refine WL.fin ?_;refine hK' _ ?_;clear hK' K')|(with_reducible refine WD.fin ?_)|((with_reducible first|refine WL.step fun K2 hK2=>?_|refine WD.step fun K2 hK2=>?_);simp only [simprocAttr,implies_true,amz,tys,keyed_3,keyOf_3 he.o,hm,hu,hu3];(repeat' (first|with_reducible (first|(refine hK2 _ ?_;clear hK2 K2)|refine And.intro ?_ ?_|intro hb) )))));all_goals ((try simp only [ThenA,InBlock,reduceIte,Nat.reduceEqDiff]);(try ((repeat ((fail_if_success (refine hK _ ?_));clear hK K));refine hK _ ?_;clear hK K))))
        all_goals (repeat' (first|refine T.seqK fun K hK=>?_|refine T.block ?_|(refine T.reg (by kernel_rfl) fun K' hK'=>?_;simp only [startSt,frOf,List.map_cons,List.map_nil];(repeat' (first|(with_reducible refine WL.fin ?_;refine hK' _ ?_;clear hK' K')|((with_reducible refine WL.step fun K2 hK2=>?_);simp only [simprocAttr,implies_true,amz,tys];(repeat' (first|with_reducible (first|(refine hK2 _ ?_;clear hK2 K2)|refine And.intro ?_ ?_|intro hb)|((with_reducible refine callArmM 4 _ _ [0] (Ent.of Try.func92 (by kernel_rfl) rfl) (hcn) ?_ ?_ ?_);(focus ((refine ⟨Nat.le_of_ble_eq_true rfl,?_,?_⟩ <;> simp only [List.mem_cons,List.not_mem_nil,or_false,forall_eq_or_imp,forall_eq,lk_cons,lk_nil,reduceIte,Nat.reduceEqDiff,AO.okB_box,AO.okB_row,AO.okB_map,AO.okB_raw,AV.okB,AV.okB_agg,AV.okB_fn,AV.okB_tup,List.all_cons,List.all_nil,Bool.and_true,Bool.and_self,Nat.reduceLT,decide_true,true_and,and_true,Option.isSome_some,true_implies,false_implies,implies_true,and_self,Nat.lt_irrefl,Option.some.injEq,]);done));(focus (simp [AV.okB];done));rintro hp' r ⟨rfl,rfl⟩;refine ⟨by simp [Kept,lk_cons,AO.handle],?_⟩;simp only [ASt.callM,AV.keep_own,AV.keep_ptr,AV.keep_rptr,AV.keep_pre,AV.keep_p,AV.keep_elt,AV.keep_junk,AV.keep_cap0,AV.keep_fn,AV.keep_agg,AV.keep_tup,AO.keep,List.map_cons,List.map_nil,List.filter_cons,List.filter_nil,Nat.reduceLeDiff,decide_true,decide_false,reduceIte,Bool.false_eq_true,List.cons_append,List.nil_append,List.mem_cons,List.not_mem_nil,or_false,false_or,or_true,true_or,Nat.reduceEqDiff,put_some,put_none,Nat.le_refl,])))))))|refine T.skip ?_|refine T.exit ?_|refine T.condT rfl ?_|refine T.condF rfl ?_|refine T.cond rfl (fun hc=>?_) (fun hc=>?_)|refine T.ret ?_|simp only [ThenA,InBlock,reduceIte,Nat.reduceEqDiff]|((repeat ((fail_if_success (refine hK _ ?_));clear hK K));refine hK _ ?_;clear hK K)))
        all_goals first
          | (((refine FinM.ret (s':=⟨[(4,.bool true)],hpS b t (a1 + 1 + 1) a2 a3,143,4⟩) (r := .bool true) (.inr rfl) Try.results86 (by refine Weak.of' rfl ?_;simp only [wks,reduceIte,Nat.reduceEqDiff,ASt.okB,AV.okB,Nat.reduceLT,implies_true,hpS,gpC,List.map_cons,List.map_nil]) rfl ?_ ?_;(focus (simp only [ares,aresL,ares1,simprocAttr,implies_true,amz,tys,];done)));exact QS.yes t (a1 + 1 + 1) a2 a3 hy (by omega) (by omega) (by omega));done)
          | (exfalso;simp_all;done)
          | fail
      | false =>
        have hlt' : ¬ c.recv < c.sent:=by simpa using hlt
        cases hcl:c.closed with
        | true =>
          have hn:operP s e=none:=by simp [operP,hcc,hce,hk,hkk',hlt',hcl]
          repeat' (first|refine T.seqK fun K hK=>?_|refine T.block ?_|(refine T.reg (by kernel_rfl) fun K' hK'=>?_;simp only [startSt,frOf,List.map_cons,List.map_nil];(repeat' (first|(with_reducible refine WL.fin ?_;refine hK' _ ?_;clear hK' K')|((with_reducible refine WL.step fun K2 hK2=>?_);simp only [simprocAttr,implies_true,amz,tys,m1,m3,hcap',q19,q20,q15,q17,hkk,hlt,hcl];(repeat' (first|with_reducible (first|(refine hK2 _ ?_;clear hK2 K2)|refine And.intro ?_ ?_|intro hb) ))))))|refine T.skip ?_|refine T.exit ?_|refine T.condT rfl ?_|refine T.condF rfl ?_|refine T.cond rfl (fun hc=>?_) (fun hc=>?_)|refine T.ret ?_|simp only [ThenA,InBlock,reduceIte,Nat.reduceEqDiff]|((repeat ((fail_if_success (refine hK _ ?_));clear hK K));refine hK _ ?_;clear hK K))
          all_goals first
            | (((refine FinM.ret (s':=⟨[(4,.bool false)],hpS b s a1 a2 a3,143,4⟩) (r := .bool false) (.inr rfl) Try.results86 (by refine Weak.of' rfl ?_;simp only [wks,reduceIte,Nat.reduceEqDiff,ASt.okB,AV.okB,Nat.reduceLT,implies_true,hpS,gpC,List.map_cons,List.map_nil]) rfl ?_ ?_;(focus (simp only [ares,aresL,ares1,simprocAttr,implies_true,amz,tys,];done)));exact QS.no hn);done)
            | (exfalso;simp_all;done)
            | fail
        | false =>
          have hu3:=inM_upd' s.ch e.obj c (v := .agg #[.int .i64 c.cap,.int .i64 c.sent,.int .i64 c.recv,.bool false]) (by rw [chV,hcl])
          cases z2:(s.gor == 1) with
          | true =>
            have z2' : s.gor=1:=by simpa using z2
            have hn:operP s e=none:=by simp [operP,hcc,hce,hk,hkk',hlt',hcl,z2']
            repeat' (first|refine T.seqK fun K hK=>?_|refine T.block ?_|(refine T.reg (by kernel_rfl) fun K' hK'=>?_;simp only [startSt,frOf,List.map_cons,List.map_nil];(repeat' (first|(with_reducible refine WL.fin ?_;refine hK' _ ?_;clear hK' K')|((with_reducible refine WL.step fun K2 hK2=>?_);simp only [simprocAttr,implies_true,amz,tys,m1,m3,hcap',q19,q20,q15,q17,hkk,hlt,hcl,z2];(repeat' (first|with_reducible (first|(refine hK2 _ ?_;clear hK2 K2)|refine And.intro ?_ ?_|intro hb) ))))))|refine T.skip ?_|refine T.exit ?_|refine T.condT rfl ?_|refine T.condF rfl ?_|refine T.cond rfl (fun hc=>?_) (fun hc=>?_)|refine T.ret ?_|simp only [ThenA,InBlock,reduceIte,Nat.reduceEqDiff]|((repeat ((fail_if_success (refine hK _ ?_));clear hK K));refine hK _ ?_;clear hK K))
            all_goals first
              | (((refine FinM.ret (s':=⟨[(4,.bool false)],hpS b s a1 a2 a3,143,4⟩) (r := .bool false) (.inr rfl) Try.results86 (by refine Weak.of' rfl ?_;simp only [wks,reduceIte,Nat.reduceEqDiff,ASt.okB,AV.okB,Nat.reduceLT,implies_true,hpS,gpC,List.map_cons,List.map_nil]) rfl ?_ ?_;(focus (simp only [ares,aresL,ares1,simprocAttr,implies_true,amz,tys,];done)));exact QS.no hn);done)
              | (exfalso;simp_all;done)
              | fail
          | false =>
            have z2' : ¬ s.gor=1:=by simpa using z2
            obtain ⟨t,ht⟩ : ∃ t,startP s e c [15,18,16] (-1) e.g=t:=⟨_,rfl⟩
            have hy:operP s e=some t:=by simp [operP,hcc,hce,hk,hkk',hlt',hcl,z2',← ht]
            have hcn:=count_ok b (setOp (setCh s e.obj c) ⟨[15,18,16],e.obj,e.k,e.n,(-1),e.g⟩) (a1 + 1) a2 a3 e he (by omega)
            rw [show countP (setOp (setCh s e.obj c) ⟨[15,18,16],e.obj,e.k,e.n,(-1),e.g⟩) e=t from ht] at hcn
            simp only [setOp,setCh,hpS,gpC,evA,evC,List.map_cons,List.map_nil,pI] at hcn
            repeat' (first|refine T.seqK fun K hK=>?_|refine T.block ?_|(refine T.reg (by kernel_rfl) fun K' hK'=>?_;simp only [startSt,frOf,List.map_cons,List.map_nil];(repeat' (first|(with_reducible refine WL.fin ?_;refine hK' _ ?_;clear hK' K')|((with_reducible refine WL.step fun K2 hK2=>?_);simp only [simprocAttr,implies_true,amz,tys,m1,m3,hcap',q19,q20,q15,q17,hkk,hlt,hcl,z2];(repeat' (first|with_reducible (first|(refine hK2 _ ?_;clear hK2 K2)|refine And.intro ?_ ?_|intro hb) ))))))|refine T.skip ?_|refine T.exit ?_|refine T.condT rfl ?_|refine T.condF rfl ?_|refine T.cond rfl (fun hc=>?_) (fun hc=>?_)|refine T.ret ?_|simp only [ThenA,InBlock,reduceIte,Nat.reduceEqDiff]|((repeat ((fail_if_success (refine hK _ ?_));clear hK K));refine hK _ ?_;clear hK K))
            all_goals (refine T.drw 7 (by kernel_rfl) (by kernel_rfl) fun K' hK'=>?_;simp only [List.map_cons,List.map_nil];(repeat' (first|(with_reducible refine WL.fin ?_;refine hK' _ ?_;clear hK' K')|(with_reducible refine WD.fin ?_)|((with_reducible first|refine WL.step fun K2 hK2=>?_|refine WD.step fun K2 hK2=>?_);simp only [simprocAttr,implies_true,amz,tys,keyed_3,keyOf_3 he.o,hm,hu,hu3];(repeat' (first|with_reducible (first|(refine hK2 _ ?_;clear hK2 K2)|refine And.intro ?_ ?_|intro hb) )))));all_goals ((try simp only [ThenA,InBlock,reduceIte,Nat.reduceEqDiff]);(try ((repeat ((fail_if_success (refine hK _ ?_));clear hK K));refine hK _ ?_;clear hK K))))
            all_goals (repeat' (first|refine T.seqK fun K hK=>?_|refine T.block ?_|(refine T.reg (by kernel_rfl) fun K' hK'=>?_;simp only [startSt,frOf,List.map_cons,List.map_nil];(repeat' (first|(with_reducible refine WL.fin ?_;refine hK' _ ?_;clear hK' K')|((with_reducible refine WL.step fun K2 hK2=>?_);simp only [simprocAttr,implies_true,amz,tys];(repeat' (first|with_reducible (first|(refine hK2 _ ?_;clear hK2 K2)|refine And.intro ?_ ?_|intro hb)|((with_reducible refine callArmM 4 _ _ [0] (Ent.of Try.func92 (by kernel_rfl) rfl) (hcn) ?_ ?_ ?_);(focus ((refine ⟨Nat.le_of_ble_eq_true rfl,?_,?_⟩ <;> simp only [List.mem_cons,List.not_mem_nil,or_false,forall_eq_or_imp,forall_eq,lk_cons,lk_nil,reduceIte,Nat.reduceEqDiff,AO.okB_box,AO.okB_row,AO.okB_map,AO.okB_raw,AV.okB,AV.okB_agg,AV.okB_fn,AV.okB_tup,List.all_cons,List.all_nil,Bool.and_true,Bool.and_self,Nat.reduceLT,decide_true,true_and,and_true,Option.isSome_some,true_implies,false_implies,implies_true,and_self,Nat.lt_irrefl,Option.some.injEq,]);done));(focus (simp [AV.okB];done));rintro hp' r ⟨rfl,rfl⟩;refine ⟨by simp [Kept,lk_cons,AO.handle],?_⟩;simp only [ASt.callM,AV.keep_own,AV.keep_ptr,AV.keep_rptr,AV.keep_pre,AV.keep_p,AV.keep_elt,AV.keep_junk,AV.keep_cap0,AV.keep_fn,AV.keep_agg,AV.keep_tup,AO.keep,List.map_cons,List.map_nil,List.filter_cons,List.filter_nil,Nat.reduceLeDiff,decide_true,decide_false,reduceIte,Bool.false_eq_true,List.cons_append,List.nil_append,List.mem_cons,List.not_mem_nil,or_false,false_or,or_true,true_or,Nat.reduceEqDiff,put_some,put_none,Nat.le_refl,])))))))|refine T.skip ?_|refine T.exit ?_|refine T.condT rfl ?_|refine T.condF rfl ?_|refine T.cond rfl (fun hc=>?_) (fun hc=>?_)|refine T.ret ?_|simp only [ThenA,InBlock,reduceIte,Nat.reduceEqDiff]|((repeat ((fail_if_success (refine hK _ ?_));clear hK K));refine hK _ ?_;clear hK K)))
            all_goals first
              | (((refine FinM.ret (s':=⟨[(4,.bool true)],hpS b t (a1 + 1 + 1) a2 a3,143,4⟩) (r := .bool true) (.inr rfl) Try.results86 (by refine Weak.of' rfl ?_;simp only [wks,reduceIte,Nat.reduceEqDiff,ASt.okB,AV.okB,Nat.reduceLT,implies_true,hpS,gpC,List.map_cons,List.map_nil]) rfl ?_ ?_;(focus (simp only [ares,aresL,ares1,simprocAttr,implies_true,amz,tys,];done)));exact QS.yes t (a1 + 1 + 1) a2 a3 hy (by omega) (by omega) (by omega));done)
              | (exfalso;simp_all;done)
              | fail
  have q19:(e.kind == 19)=false:=by simpa using hk
  have q20:(e.kind == 20)=false:=by simpa using hk20
  have q15:(e.kind == 15)=false:=by simpa using hk15
  have q17:(e.kind == 17)=false:=by simpa using hk17
  have hn:operP s e=none:=by simp [operP,hcc,hce,hk,hk20,hk15,hk17]
  repeat' (first|refine T.seqK fun K hK=>?_|refine T.block ?_|(refine T.reg (by kernel_rfl) fun K' hK'=>?_;simp only [startSt,frOf,List.map_cons,List.map_nil];(repeat' (first|(with_reducible refine WL.fin ?_;refine hK' _ ?_;clear hK' K')|((with_reducible refine WL.step fun K2 hK2=>?_);simp only [simprocAttr,implies_true,amz,tys,m1,m3,hcap',q19,q20,q15,q17];(repeat' (first|with_reducible (first|(refine hK2 _ ?_;clear hK2 K2)|refine And.intro ?_ ?_|intro hb) ))))))|refine T.skip ?_|refine T.exit ?_|refine T.condT rfl ?_|refine T.condF rfl ?_|refine T.cond rfl (fun hc=>?_) (fun hc=>?_)|refine T.ret ?_|simp only [ThenA,InBlock,reduceIte,Nat.reduceEqDiff]|((repeat ((fail_if_success (refine hK _ ?_));clear hK K));refine hK _ ?_;clear hK K))
  all_goals first
    | (((refine FinM.ret (s':=⟨[(4,.bool false)],hpS b s a1 a2 a3,143,4⟩) (r := .bool false) (.inr rfl) Try.results86 (by refine Weak.of' rfl ?_;simp only [wks,reduceIte,Nat.reduceEqDiff,ASt.okB,AV.okB,Nat.reduceLT,implies_true,hpS,gpC,List.map_cons,List.map_nil]) rfl ?_ ?_;(focus (simp only [ares,aresL,ares1,simprocAttr,implies_true,amz,tys,];done)));exact QS.no hn);done)
    | (exfalso;simp_all;done)
    | fail
end Go.Proofs.Ytnckehomadnhoaa
namespace Go.Proofs.Ytnckehomadnhoaa
open Go.RowKit Go.Sort Go.Maps
set_option linter.unusedSimpArgs false
set_option linter.unusedVariables false
set_option maxHeartbeats 16000000 in
set_option maxRecDepth 100000 in
theorem simple_ok (b:Nat) (s:Ps) (a1 a2 a3:Nat) (e:Ev) (he:Oki e) (h2:a2 < 1000000) (h3:a3 < 1000000):MemC Try.prog 87 4 (hpS b s a1 a2 a3) [.ptr 0 0,evA e] (QS b s a1 a2 a3 (simpP s e)):=by
  have hm2:a2 < maxLen:=by unfold maxLen;omega
  have hm3:a3 < maxLen:=by unfold maxLen;omega
  have hpe:hpS b s a1 a2 a3 = [(0,.boxP (some b) 127 [.int s.ev,.int s.gor,.own 1,.own 2,.own 3,.p (.seq 1 (s.op.kinds.map fun x => [pI x])),.int s.op.obj,.int s.op.k,.int s.op.n,.int s.op.snd,.int s.op.rcv]),(1,.map none Try.prog 3 a1 (inM chV s.ch)),(2,.map none Try.prog 120 a2 (plM muV s.mu)),(3,.map none Try.prog 120 a3 (plM Value.bool (dnO s.dn)))]:=rfl
  rw [hpe]
  simp only [evA,evC,List.map_cons,List.map_nil]
  refine MemC.of Try.func87 rfl 96 rfl (by decide) ?_;simp only [startM,frOf]
  repeat' (first|refine T.seqK fun K hK=>?_|refine T.block ?_|(refine T.reg (by kernel_rfl) fun K' hK'=>?_;simp only [startSt,frOf,List.map_cons,List.map_nil];(repeat' (first|(with_reducible refine WL.fin ?_;refine hK' _ ?_;clear hK' K')|((with_reducible refine WL.step fun K2 hK2=>?_);simp only [simprocAttr,implies_true,amz,tys];(repeat' (first|with_reducible (first|(refine hK2 _ ?_;clear hK2 K2)|refine And.intro ?_ ?_|intro hb) ))))))|refine T.skip ?_|refine T.exit ?_|refine T.condT rfl ?_|refine T.condF rfl ?_|refine T.cond rfl (fun hc=>?_) (fun hc=>?_)|refine T.ret ?_|simp only [ThenA,InBlock,reduceIte,Nat.reduceEqDiff]|((repeat ((fail_if_success (refine hK _ ?_));clear hK K));refine hK _ ?_;clear hK K))
  obtain ⟨m,hmm⟩ : ∃ m,(s.mu e.obj e.off).getD mu0=m:=⟨_,rfl⟩
  have hmu:muP s e=m:=hmm
  refine T.comm [some (0,1),some (0,1),some (0,1),some (0,1),some (0,1),some (0,1),none,none] (by kernel_rfl) (by kernel_rfl) fun K' hK'=>?_;simp only [List.map_cons,List.map_nil,List.zip_cons_cons,List.zip_nil_left];(repeat' (first|(with_reducible refine WC.fin ?_;refine hK' _ ?_;clear hK' K')|((first|(with_reducible refine WC.stepV fun K2 hK2=>?_)|(with_reducible refine WC.stepW fun K2 hK2=>?_));simp only [simprocAttr,implies_true,amz,WCg,WCv,WOw,allP,dav,Chk,List.filter_cons,List.filter_nil,bne_self_eq_false,Nat.reduceBneDiff,Bool.false_eq_true,tys,keyed_120,keyOf_120 he.o he.f,plM_at _ _ he.o he.f,mu_z,cv_mu,hmm];(repeat' (first|(with_reducible refine hK2 _ _ ?_;clear hK2 K2)|with_reducible (first|(refine hK2 _ ?_;clear hK2 K2)|refine And.intro ?_ ?_|intro hb)|(with_reducible rfl)|((with_reducible show @Eq ASt _ _);rfl) )))));all_goals ((try simp only [ThenA,InBlock,reduceIte,Nat.reduceEqDiff]);(try ((repeat ((fail_if_success (refine hK _ ?_));clear hK K));refine hK _ ?_;clear hK K)))
  by_cases k6:e.kind=6
  · have hk:=k6
    have q6:(e.kind == 6)=true:=by simp [k6]
    have q7:(e.kind == 7)=false:=by simp [k6]
    have q8:(e.kind == 8)=false:=by simp [k6]
    have q9:(e.kind == 9)=false:=by simp [k6]
    have q12:(e.kind == 12)=false:=by simp [k6]
    have q13:(e.kind == 13)=false:=by simp [k6]
    have q14:(e.kind == 14)=false:=by simp [k6]
    cases hl:m.locked with
    | true =>
      have hn:simpP s e=none:=by simp [simpP,hmu,hk,hl]
      repeat' (first|refine T.seqK fun K hK=>?_|refine T.block ?_|(refine T.reg (by kernel_rfl) fun K' hK'=>?_;simp only [startSt,frOf,List.map_cons,List.map_nil];(repeat' (first|(with_reducible refine WL.fin ?_;refine hK' _ ?_;clear hK' K')|((with_reducible refine WL.step fun K2 hK2=>?_);simp only [simprocAttr,implies_true,amz,tys,q6,hl];(repeat' (first|with_reducible (first|(refine hK2 _ ?_;clear hK2 K2)|refine And.intro ?_ ?_|intro hb) ))))))|refine T.skip ?_|refine T.exit ?_|refine T.condT rfl ?_|refine T.condF rfl ?_|refine T.cond rfl (fun hc=>?_) (fun hc=>?_)|refine T.ret ?_|simp only [ThenA,InBlock,reduceIte,Nat.reduceEqDiff]|((repeat ((fail_if_success (refine hK _ ?_));clear hK K));refine hK _ ?_;clear hK K))
      all_goals first
        | (((refine FinM.ret (s':=⟨[(4,.bool false)],hpS b s a1 a2 a3,96,4⟩) (r := .bool false) (.inr rfl) Try.results87 (by refine Weak.of' rfl ?_;simp only [wks,reduceIte,Nat.reduceEqDiff,ASt.okB,AV.okB,Nat.reduceLT,implies_true,hpS,gpC,List.map_cons,List.map_nil]) rfl ?_ ?_;(focus (simp only [ares,aresL,ares1,simprocAttr,implies_true,amz,tys,];done)));exact QS.no hn);done)
        | (exfalso;simp_all;done)
        | fail
    | false =>
      cases hr:decide (0 < m.readers) with
      | true =>
        have hr' : 0 < m.readers:=by simpa using hr
        have hn:simpP s e=none:=by simp [simpP,hmu,hk,hl,hr']
        repeat' (first|refine T.seqK fun K hK=>?_|refine T.block ?_|(refine T.reg (by kernel_rfl) fun K' hK'=>?_;simp only [startSt,frOf,List.map_cons,List.map_nil];(repeat' (first|(with_reducible refine WL.fin ?_;refine hK' _ ?_;clear hK' K')|((with_reducible refine WL.step fun K2 hK2=>?_);simp only [simprocAttr,implies_true,amz,tys,q6,hl,hr];(repeat' (first|with_reducible (first|(refine hK2 _ ?_;clear hK2 K2)|refine And.intro ?_ ?_|intro hb) ))))))|refine T.skip ?_|refine T.exit ?_|refine T.condT rfl ?_|refine T.condF rfl ?_|refine T.cond rfl (fun hc=>?_) (fun hc=>?_)|refine T.ret ?_|simp only [ThenA,InBlock,reduceIte,Nat.reduceEqDiff]|((repeat ((fail_if_success (refine hK _ ?_));clear hK K));refine hK _ ?_;clear hK K))
        all_goals first
          | (((refine FinM.ret (s':=⟨[(4,.bool false)],hpS b s a1 a2 a3,96,4⟩) (r := .bool false) (.inr rfl) Try.results87 (by refine Weak.of' rfl ?_;simp only [wks,reduceIte,Nat.reduceEqDiff,ASt.okB,AV.okB,Nat.reduceLT,implies_true,hpS,gpC,List.map_cons,List.map_nil]) rfl ?_ ?_;(focus (simp only [ares,aresL,ares1,simprocAttr,implies_true,amz,tys,];done)));exact QS.no hn);done)
          | (exfalso;simp_all;done)
          | fail
      | false =>
        have hr' : ¬ 0 < m.readers:=by simpa using hr
        have hy:simpP s e=some (setMu s e.obj e.off { m with locked:=true }):=by simp [simpP,hmu,hk,hl,hr']
        have hu:=mu_upd' s.mu he.o he.f { m with locked:=true } (v := .agg #[.bool true,.int .i64 m.readers]) (by simp [muV, *])
        repeat' (first|refine T.seqK fun K hK=>?_|refine T.block ?_|(refine T.reg (by kernel_rfl) fun K' hK'=>?_;simp only [startSt,frOf,List.map_cons,List.map_nil];(repeat' (first|(with_reducible refine WL.fin ?_;refine hK' _ ?_;clear hK' K')|((with_reducible refine WL.step fun K2 hK2=>?_);simp only [simprocAttr,implies_true,amz,tys,q6,hl,hr];(repeat' (first|with_reducible (first|(refine hK2 _ ?_;clear hK2 K2)|refine And.intro ?_ ?_|intro hb) ))))))|refine T.skip ?_|refine T.exit ?_|refine T.condT rfl ?_|refine T.condF rfl ?_|refine T.cond rfl (fun hc=>?_) (fun hc=>?_)|refine T.ret ?_|simp only [ThenA,InBlock,reduceIte,Nat.reduceEqDiff]|((repeat ((fail_if_success (refine hK _ ?_));clear hK K));refine hK _ ?_;clear hK K))
        all_goals (refine T.drw 6 (by kernel_rfl) (by kernel_rfl) fun K' hK'=>?_;simp only [List.map_cons,List.map_nil];(repeat' (first|(with_reducible refine WL.fin ?_;refine hK' _ ?_;clear hK' K')|(with_reducible refine WD.fin ?_)|((with_reducible first|refine WL.step fun K2 hK2=>?_|refine WD.step fun K2 hK2=>?_);simp only [simprocAttr,implies_true,amz,tys,keyed_120,keyOf_120 he.o he.f,hm2];(repeat' (first|with_reducible (first|(refine hK2 _ ?_;clear hK2 K2)|refine And.intro ?_ ?_|intro hb) )))));all_goals ((try simp only [ThenA,InBlock,reduceIte,Nat.reduceEqDiff]);(try ((repeat ((fail_if_success (refine hK _ ?_));clear hK K));refine hK _ ?_;clear hK K))))
        all_goals (repeat' (first|refine T.seqK fun K hK=>?_|refine T.block ?_|(refine T.reg (by kernel_rfl) fun K' hK'=>?_;simp only [startSt,frOf,List.map_cons,List.map_nil];(repeat' (first|(with_reducible refine WL.fin ?_;refine hK' _ ?_;clear hK' K')|((with_reducible refine WL.step fun K2 hK2=>?_);simp only [simprocAttr,implies_true,amz,tys];(repeat' (first|with_reducible (first|(refine hK2 _ ?_;clear hK2 K2)|refine And.intro ?_ ?_|intro hb) ))))))|refine T.skip ?_|refine T.exit ?_|refine T.condT rfl ?_|refine T.condF rfl ?_|refine T.cond rfl (fun hc=>?_) (fun hc=>?_)|refine T.ret ?_|simp only [ThenA,InBlock,reduceIte,Nat.reduceEqDiff]|((repeat ((fail_if_success (refine hK _ ?_));clear hK K));refine hK _ ?_;clear hK K)))
        all_goals first
          | (((refine FinM.ret (s':=⟨[(4,.bool true)],hpS b (setMu s e.obj e.off { m with locked:=true }) a1 (a2 + 1) a3,96,4⟩) (r := .bool true) (.inr rfl) Try.results87 (by refine Weak.of' rfl ?_;simp only [wks,reduceIte,Nat.reduceEqDiff,ASt.okB,AV.okB,Nat.reduceLT,implies_true,setMu,hu,hpS,gpC,List.map_cons,List.map_nil]) rfl ?_ ?_;(focus (simp only [ares,aresL,ares1,simprocAttr,implies_true,amz,tys,];done)));exact QS.yes (setMu s e.obj e.off { m with locked:=true }) a1 (a2 + 1) a3 hy (by omega) (by omega) (by omega));done)
          | (exfalso;simp_all;done)
          | fail
  by_cases k7:e.kind=7
  · have hk:=k7
    have q6:(e.kind == 6)=false:=by simp [k7]
    have q7:(e.kind == 7)=true:=by simp [k7]
    have q8:(e.kind == 8)=false:=by simp [k7]
    have q9:(e.kind == 9)=false:=by simp [k7]
    have q12:(e.kind == 12)=false:=by simp [k7]
    have q13:(e.kind == 13)=false:=by simp [k7]
    have q14:(e.kind == 14)=false:=by simp [k7]
    cases hl:m.locked with
    | false =>
      have hn:simpP s e=none:=by simp [simpP,hmu,hk,hl]
      repeat' (first|refine T.seqK fun K hK=>?_|refine T.block ?_|(refine T.reg (by kernel_rfl) fun K' hK'=>?_;simp only [startSt,frOf,List.map_cons,List.map_nil];(repeat' (first|(with_reducible refine WL.fin ?_;refine hK' _ ?_;clear hK' K')|((with_reducible refine WL.step fun K2 hK2=>?_);simp only [simprocAttr,implies_true,amz,tys,q6,q7,hl];(repeat' (first|with_reducible (first|(refine hK2 _ ?_;clear hK2 K2)|refine And.intro ?_ ?_|intro hb) ))))))|refine T.skip ?_|refine T.exit ?_|refine T.condT rfl ?_|refine T.condF rfl ?_|refine T.cond rfl (fun hc=>?_) (fun hc=>?_)|refine T.ret ?_|simp only [ThenA,InBlock,reduceIte,Nat.reduceEqDiff]|((repeat ((fail_if_success (refine hK _ ?_));clear hK K));refine hK _ ?_;clear hK K))
      all_goals first
        | (((refine FinM.ret (s':=⟨[(4,.bool false)],hpS b s a1 a2 a3,96,4⟩) (r := .bool false) (.inr rfl) Try.results87 (by refine Weak.of' rfl ?_;simp only [wks,reduceIte,Nat.reduceEqDiff,ASt.okB,AV.okB,Nat.reduceLT,implies_true,hpS,gpC,List.map_cons,List.map_nil]) rfl ?_ ?_;(focus (simp only [ares,aresL,ares1,simprocAttr,implies_true,amz,tys,];done)));exact QS.no hn);done)
        | (exfalso;simp_all;done)
        | fail
    | true =>
      have hy:simpP s e=some (setMu s e.obj e.off { m with locked:=false }):=by simp [simpP,hmu,hk,hl]
      have hu:=mu_upd' s.mu he.o he.f { m with locked:=false } (v := .agg #[.bool false,.int .i64 m.readers]) (by simp [muV, *])
      repeat' (first|refine T.seqK fun K hK=>?_|refine T.block ?_|(refine T.reg (by kernel_rfl) fun K' hK'=>?_;simp only [startSt,frOf,List.map_cons,List.map_nil];(repeat' (first|(with_reducible refine WL.fin ?_;refine hK' _ ?_;clear hK' K')|((with_reducible refine WL.step fun K2 hK2=>?_);simp only [simprocAttr,implies_true,amz,tys,q6,q7,hl];(repeat' (first|with_reducible (first|(refine hK2 _ ?_;clear hK2 K2)|refine And.intro ?_ ?_|intro hb) ))))))|refine T.skip ?_|refine T.exit ?_|refine T.condT rfl ?_|refine T.condF rfl ?_|refine T.cond rfl (fun hc=>?_) (fun hc=>?_)|refine T.ret ?_|simp only [ThenA,InBlock,reduceIte,Nat.reduceEqDiff]|((repeat ((fail_if_success (refine hK _ ?_));clear hK K));refine hK _ ?_;clear hK K))
      all_goals (refine T.drw 6 (by kernel_rfl) (by kernel_rfl) fun K' hK'=>?_;simp only [List.map_cons,List.map_nil];(repeat' (first|(with_reducible refine WL.fin ?_;refine hK' _ ?_;clear hK' K')|(with_reducible refine WD.fin ?_)|((with_reducible first|refine WL.step fun K2 hK2=>?_|refine WD.step fun K2 hK2=>?_);simp only [simprocAttr,implies_true,amz,tys,keyed_120,keyOf_120 he.o he.f,hm2];(repeat' (first|with_reducible (first|(refine hK2 _ ?_;clear hK2 K2)|refine And.intro ?_ ?_|intro hb) )))));all_goals ((try simp only [ThenA,InBlock,reduceIte,Nat.reduceEqDiff]);(try ((repeat ((fail_if_success (refine hK _ ?_));clear hK K));refine hK _ ?_;clear hK K))))
      all_goals (repeat' (first|refine T.seqK fun K hK=>?_|refine T.block ?_|(refine T.reg (by kernel_rfl) fun K' hK'=>?_;simp only [startSt,frOf,List.map_cons,List.map_nil];(repeat' (first|(with_reducible refine WL.fin ?_;refine hK' _ ?_;clear hK' K')|((with_reducible refine WL.step fun K2 hK2=>?_);simp only [simprocAttr,implies_true,amz,tys];(repeat' (first|with_reducible (first|(refine hK2 _ ?_;clear hK2 K2)|refine And.intro ?_ ?_|intro hb) ))))))|refine T.skip ?_|refine T.exit ?_|refine T.condT rfl ?_|refine T.condF rfl ?_|refine T.cond rfl (fun hc=>?_) (fun hc=>?_)|refine T.ret ?_|simp only [ThenA,InBlock,reduceIte,Nat.reduceEqDiff]|((repeat ((fail_if_success (refine hK _ ?_));clear hK K));refine hK _ ?_;clear hK K)))
      all_goals first
        | (((refine FinM.ret (s':=⟨[(4,.bool true)],hpS b (setMu s e.obj e.off { m with locked:=false }) a1 (a2 + 1) a3,96,4⟩) (r := .bool true) (.inr rfl) Try.results87 (by refine Weak.of' rfl ?_;simp only [wks,reduceIte,Nat.reduceEqDiff,ASt.okB,AV.okB,Nat.reduceLT,implies_true,setMu,hu,hpS,gpC,List.map_cons,List.map_nil]) rfl ?_ ?_;(focus (simp only [ares,aresL,ares1,simprocAttr,implies_true,amz,tys,];done)));exact QS.yes (setMu s e.obj e.off { m with locked:=false }) a1 (a2 + 1) a3 hy (by omega) (by omega) (by omega));done)
        | (exfalso;simp_all;done)
        | fail
  by_cases k8:e.kind=8
  · have hk:=k8
    have q6:(e.kind == 6)=false:=by simp [k8]
    have q7:(e.kind == 7)=false:=by simp [k8]
    have q8:(e.kind == 8)=true:=by simp [k8]
    have q9:(e.kind == 9)=false:=by simp [k8]
    have q12:(e.kind == 12)=false:=by simp [k8]
    have q13:(e.kind == 13)=false:=by simp [k8]
    have q14:(e.kind == 14)=false:=by simp [k8]
    cases hl:m.locked with
    | true =>
      have hn:simpP s e=none:=by simp [simpP,hmu,hk,hl]
      repeat' (first|refine T.seqK fun K hK=>?_|refine T.block ?_|(refine T.reg (by kernel_rfl) fun K' hK'=>?_;simp only [startSt,frOf,List.map_cons,List.map_nil];(repeat' (first|(with_reducible refine WL.fin ?_;refine hK' _ ?_;clear hK' K')|((with_reducible refine WL.step fun K2 hK2=>?_);simp only [simprocAttr,implies_true,amz,tys,q6,q7,q8,hl];(repeat' (first|with_reducible (first|(refine hK2 _ ?_;clear hK2 K2)|refine And.intro ?_ ?_|intro hb) ))))))|refine T.skip ?_|refine T.exit ?_|refine T.condT rfl ?_|refine T.condF rfl ?_|refine T.cond rfl (fun hc=>?_) (fun hc=>?_)|refine T.ret ?_|simp only [ThenA,InBlock,reduceIte,Nat.reduceEqDiff]|((repeat ((fail_if_success (refine hK _ ?_));clear hK K));refine hK _ ?_;clear hK K))
      all_goals first
        | (((refine FinM.ret (s':=⟨[(4,.bool false)],hpS b s a1 a2 a3,96,4⟩) (r := .bool false) (.inr rfl) Try.results87 (by refine Weak.of' rfl ?_;simp only [wks,reduceIte,Nat.reduceEqDiff,ASt.okB,AV.okB,Nat.reduceLT,implies_true,hpS,gpC,List.map_cons,List.map_nil]) rfl ?_ ?_;(focus (simp only [ares,aresL,ares1,simprocAttr,implies_true,amz,tys,];done)));exact QS.no hn);done)
        | (exfalso;simp_all;done)
        | fail
    | false =>
      have hy:simpP s e=some (setMu s e.obj e.off { m with readers:=wI (m.readers + 1) }):=by simp [simpP,hmu,hk,hl]
      have hu:=mu_upd' s.mu he.o he.f { m with readers:=wI (m.readers + 1) } (v := .agg #[.bool false,.int .i64 (IntKind.i64.wrap (m.readers + 1))]) (by simp [muV, *])
      repeat' (first|refine T.seqK fun K hK=>?_|refine T.block ?_|(refine T.reg (by kernel_rfl) fun K' hK'=>?_;simp only [startSt,frOf,List.map_cons,List.map_nil];(repeat' (first|(with_reducible refine WL.fin ?_;refine hK' _ ?_;clear hK' K')|((with_reducible refine WL.step fun K2 hK2=>?_);simp only [simprocAttr,implies_true,amz,tys,q6,q7,q8,hl];(repeat' (first|with_reducible (first|(refine hK2 _ ?_;clear hK2 K2)|refine And.intro ?_ ?_|intro hb) ))))))|refine T.skip ?_|refine T.exit ?_|refine T.condT rfl ?_|refine T.condF rfl ?_|refine T.cond rfl (fun hc=>?_) (fun hc=>?_)|refine T.ret ?_|simp only [ThenA,InBlock,reduceIte,Nat.reduceEqDiff]|((repeat ((fail_if_success (refine hK _ ?_));clear hK K));refine hK _ ?_;clear hK K))
      all_goals (refine T.drw 6 (by kernel_rfl) (by kernel_rfl) fun K' hK'=>?_;simp only [List.map_cons,List.map_nil];(repeat' (first|(with_reducible refine WL.fin ?_;refine hK' _ ?_;clear hK' K')|(with_reducible refine WD.fin ?_)|((with_reducible first|refine WL.step fun K2 hK2=>?_|refine WD.step fun K2 hK2=>?_);simp only [simprocAttr,implies_true,amz,tys,keyed_120,keyOf_120 he.o he.f,hm2];(repeat' (first|with_reducible (first|(refine hK2 _ ?_;clear hK2 K2)|refine And.intro ?_ ?_|intro hb) )))));all_goals ((try simp only [ThenA,InBlock,reduceIte,Nat.reduceEqDiff]);(try ((repeat ((fail_if_success (refine hK _ ?_));clear hK K));refine hK _ ?_;clear hK K))))
      all_goals (repeat' (first|refine T.seqK fun K hK=>?_|refine T.block ?_|(refine T.reg (by kernel_rfl) fun K' hK'=>?_;simp only [startSt,frOf,List.map_cons,List.map_nil];(repeat' (first|(with_reducible refine WL.fin ?_;refine hK' _ ?_;clear hK' K')|((with_reducible refine WL.step fun K2 hK2=>?_);simp only [simprocAttr,implies_true,amz,tys];(repeat' (first|with_reducible (first|(refine hK2 _ ?_;clear hK2 K2)|refine And.intro ?_ ?_|intro hb) ))))))|refine T.skip ?_|refine T.exit ?_|refine T.condT rfl ?_|refine T.condF rfl ?_|refine T.cond rfl (fun hc=>?_) (fun hc=>?_)|refine T.ret ?_|simp only [ThenA,InBlock,reduceIte,Nat.reduceEqDiff]|((repeat ((fail_if_success (refine hK _ ?_));clear hK K));refine hK _ ?_;clear hK K)))
      all_goals first
        | (((refine FinM.ret (s':=⟨[(4,.bool true)],hpS b (setMu s e.obj e.off { m with readers:=wI (m.readers + 1) }) a1 (a2 + 1) a3,96,4⟩) (r := .bool true) (.inr rfl) Try.results87 (by refine Weak.of' rfl ?_;simp only [wks,reduceIte,Nat.reduceEqDiff,ASt.okB,AV.okB,Nat.reduceLT,implies_true,setMu,hu,hpS,gpC,List.map_cons,List.map_nil]) rfl ?_ ?_;(focus (simp only [ares,aresL,ares1,simprocAttr,implies_true,amz,tys,];done)));exact QS.yes (setMu s e.obj e.off { m with readers:=wI (m.readers + 1) }) a1 (a2 + 1) a3 hy (by omega) (by omega) (by omega));done)
        | (exfalso;simp_all;done)
        | fail
  by_cases k9:e.kind=9
  · have hk:=k9
    have q6:(e.kind == 6)=false:=by simp [k9]
    have q7:(e.kind == 7)=false:=by simp [k9]
    have q8:(e.kind == 8)=false:=by simp [k9]
    have q9:(e.kind == 9)=true:=by simp [k9]
    have q12:(e.kind == 12)=false:=by simp [k9]
    have q13:(e.kind == 13)=false:=by simp [k9]
    have q14:(e.kind == 14)=false:=by simp [k9]
    cases hr:(m.readers == 0) with
    | true =>
      have hr' : m.readers=0:=by simpa using hr
      have hn:simpP s e=none:=by simp [simpP,hmu,hk,hr']
      repeat' (first|refine T.seqK fun K hK=>?_|refine T.block ?_|(refine T.reg (by kernel_rfl) fun K' hK'=>?_;simp only [startSt,frOf,List.map_cons,List.map_nil];(repeat' (first|(with_reducible refine WL.fin ?_;refine hK' _ ?_;clear hK' K')|((with_reducible refine WL.step fun K2 hK2=>?_);simp only [simprocAttr,implies_true,amz,tys,q6,q7,q8,q9,hr];(repeat' (first|with_reducible (first|(refine hK2 _ ?_;clear hK2 K2)|refine And.intro ?_ ?_|intro hb) ))))))|refine T.skip ?_|refine T.exit ?_|refine T.condT rfl ?_|refine T.condF rfl ?_|refine T.cond rfl (fun hc=>?_) (fun hc=>?_)|refine T.ret ?_|simp only [ThenA,InBlock,reduceIte,Nat.reduceEqDiff]|((repeat ((fail_if_success (refine hK _ ?_));clear hK K));refine hK _ ?_;clear hK K))
      all_goals first
        | (((refine FinM.ret (s':=⟨[(4,.bool false)],hpS b s a1 a2 a3,96,4⟩) (r := .bool false) (.inr rfl) Try.results87 (by refine Weak.of' rfl ?_;simp only [wks,reduceIte,Nat.reduceEqDiff,ASt.okB,AV.okB,Nat.reduceLT,implies_true,hpS,gpC,List.map_cons,List.map_nil]) rfl ?_ ?_;(focus (simp only [ares,aresL,ares1,simprocAttr,implies_true,amz,tys,];done)));exact QS.no hn);done)
        | (exfalso;simp_all;done)
        | fail
    | false =>
      have hr' : ¬ m.readers=0:=by simpa using hr
      have hy:simpP s e=some (setMu s e.obj e.off { m with readers:=wI (m.readers - 1) }):=by simp [simpP,hmu,hk,hr']
      have hu:=mu_upd' s.mu he.o he.f { m with readers:=wI (m.readers - 1) } (v := .agg #[.bool m.locked,.int .i64 (IntKind.i64.wrap (m.readers - 1))]) (by simp [muV, *])
      repeat' (first|refine T.seqK fun K hK=>?_|refine T.block ?_|(refine T.reg (by kernel_rfl) fun K' hK'=>?_;simp only [startSt,frOf,List.map_cons,List.map_nil];(repeat' (first|(with_reducible refine WL.fin ?_;refine hK' _ ?_;clear hK' K')|((with_reducible refine WL.step fun K2 hK2=>?_);simp only [simprocAttr,implies_true,amz,tys,q6,q7,q8,q9,hr];(repeat' (first|with_reducible (first|(refine hK2 _ ?_;clear hK2 K2)|refine And.intro ?_ ?_|intro hb) ))))))|refine T.skip ?_|refine T.exit ?_|refine T.condT rfl ?_|refine T.condF rfl ?_|refine T.cond rfl (fun hc=>?_) (fun hc=>?_)|refine T.ret ?_|simp only [ThenA,InBlock,reduceIte,Nat.reduceEqDiff]|((repeat ((fail_if_success (refine hK _ ?_));clear hK K));refine hK _ ?_;clear hK K))
      all_goals (refine T.drw 6 (by kernel_rfl) (by kernel_rfl) fun K' hK'=>?_;simp only [List.map_cons,List.map_nil];(repeat' (first|(with_reducible refine WL.fin ?_;refine hK' _ ?_;clear hK' K')|(with_reducible refine WD.fin ?_)|((with_reducible first|refine WL.step fun K2 hK2=>?_|refine WD.step fun K2 hK2=>?_);simp only [simprocAttr,implies_true,amz,tys,keyed_120,keyOf_120 he.o he.f,hm2];(repeat' (first|with_reducible (first|(refine hK2 _ ?_;clear hK2 K2)|refine And.intro ?_ ?_|intro hb) )))));all_goals ((try simp only [ThenA,InBlock,reduceIte,Nat.reduceEqDiff]);(try ((repeat ((fail_if_success (refine hK _ ?_));clear hK K));refine hK _ ?_;clear hK K))))
      all_goals (repeat' (first|refine T.seqK fun K hK=>?_|refine T.block ?_|(refine T.reg (by kernel_rfl) fun K' hK'=>?_;simp only [startSt,frOf,List.map_cons,List.map_nil];(repeat' (first|(with_reducible refine WL.fin ?_;refine hK' _ ?_;clear hK' K')|((with_reducible refine WL.step fun K2 hK2=>?_);simp only [simprocAttr,implies_true,amz,tys];(repeat' (first|with_reducible (first|(refine hK2 _ ?_;clear hK2 K2)|refine And.intro ?_ ?_|intro hb) ))))))|refine T.skip ?_|refine T.exit ?_|refine T.condT rfl ?_|refine T.condF rfl ?_|refine T.cond rfl (fun hc=>?_) (fun hc=>?_)|refine T.ret ?_|simp only [ThenA,InBlock,reduceIte,Nat.reduceEqDiff]|((repeat ((fail_if_success (refine hK _ ?_));clear hK K));refine hK _ ?_;clear hK K)))
      all_goals first
        | (((refine FinM.ret (s':=⟨[(4,.bool true)],hpS b (setMu s e.obj e.off { m with readers:=wI (m.readers - 1) }) a1 (a2 + 1) a3,96,4⟩) (r := .bool true) (.inr rfl) Try.results87 (by refine Weak.of' rfl ?_;simp only [wks,reduceIte,Nat.reduceEqDiff,ASt.okB,AV.okB,Nat.reduceLT,implies_true,setMu,hu,hpS,gpC,List.map_cons,List.map_nil]) rfl ?_ ?_;(focus (simp only [ares,aresL,ares1,simprocAttr,implies_true,amz,tys,];done)));exact QS.yes (setMu s e.obj e.off { m with readers:=wI (m.readers - 1) }) a1 (a2 + 1) a3 hy (by omega) (by omega) (by omega));done)
        | (exfalso;simp_all;done)
        | fail
  by_cases k12:e.kind=12
  · have hk:=k12
    have q6:(e.kind == 6)=false:=by simp [k12]
    have q7:(e.kind == 7)=false:=by simp [k12]
    have q8:(e.kind == 8)=false:=by simp [k12]
    have q9:(e.kind == 9)=false:=by simp [k12]
    have q12:(e.kind == 12)=true:=by simp [k12]
    have q13:(e.kind == 13)=false:=by simp [k12]
    have q14:(e.kind == 14)=false:=by simp [k12]
    cases hd:s.dn e.obj e.off with
    | true =>
      have hn:simpP s e=none:=by simp [simpP,hmu,hk,hd]
      repeat' (first|refine T.seqK fun K hK=>?_|refine T.block ?_|(refine T.reg (by kernel_rfl) fun K' hK'=>?_;simp only [startSt,frOf,List.map_cons,List.map_nil];(repeat' (first|(with_reducible refine WL.fin ?_;refine hK' _ ?_;clear hK' K')|((with_reducible refine WL.step fun K2 hK2=>?_);simp only [simprocAttr,implies_true,amz,tys,q6,q7,q8,q9,q12];(repeat' (first|with_reducible (first|(refine hK2 _ ?_;clear hK2 K2)|refine And.intro ?_ ?_|intro hb) ))))))|refine T.skip ?_|refine T.exit ?_|refine T.condT rfl ?_|refine T.condF rfl ?_|refine T.cond rfl (fun hc=>?_) (fun hc=>?_)|refine T.ret ?_|simp only [ThenA,InBlock,reduceIte,Nat.reduceEqDiff]|((repeat ((fail_if_success (refine hK _ ?_));clear hK K));refine hK _ ?_;clear hK K))
      all_goals (refine T.drw 6 (by kernel_rfl) (by kernel_rfl) fun K' hK'=>?_;simp only [List.map_cons,List.map_nil];(repeat' (first|(with_reducible refine WL.fin ?_;refine hK' _ ?_;clear hK' K')|(with_reducible refine WD.fin ?_)|((with_reducible first|refine WL.step fun K2 hK2=>?_|refine WD.step fun K2 hK2=>?_);simp only [simprocAttr,implies_true,amz,tys,keyed_120,keyOf_120 he.o he.f,plM_at _ _ he.o he.f,dn_z,hd];(repeat' (first|with_reducible (first|(refine hK2 _ ?_;clear hK2 K2)|refine And.intro ?_ ?_|intro hb) )))));all_goals ((try simp only [ThenA,InBlock,reduceIte,Nat.reduceEqDiff]);(try ((repeat ((fail_if_success (refine hK _ ?_));clear hK K));refine hK _ ?_;clear hK K))))
      all_goals (repeat' (first|refine T.seqK fun K hK=>?_|refine T.block ?_|(refine T.reg (by kernel_rfl) fun K' hK'=>?_;simp only [startSt,frOf,List.map_cons,List.map_nil];(repeat' (first|(with_reducible refine WL.fin ?_;refine hK' _ ?_;clear hK' K')|((with_reducible refine WL.step fun K2 hK2=>?_);simp only [simprocAttr,implies_true,amz,tys];(repeat' (first|with_reducible (first|(refine hK2 _ ?_;clear hK2 K2)|refine And.intro ?_ ?_|intro hb) ))))))|refine T.skip ?_|refine T.exit ?_|refine T.condT rfl ?_|refine T.condF rfl ?_|refine T.cond rfl (fun hc=>?_) (fun hc=>?_)|refine T.ret ?_|simp only [ThenA,InBlock,reduceIte,Nat.reduceEqDiff]|((repeat ((fail_if_success (refine hK _ ?_));clear hK K));refine hK _ ?_;clear hK K)))
      all_goals first
        | (((refine FinM.ret (s':=⟨[(4,.bool false)],hpS b s a1 a2 a3,96,4⟩) (r := .bool false) (.inr rfl) Try.results87 (by refine Weak.of' rfl ?_;simp only [wks,reduceIte,Nat.reduceEqDiff,ASt.okB,AV.okB,Nat.reduceLT,implies_true,hpS,gpC,List.map_cons,List.map_nil]) rfl ?_ ?_;(focus (simp only [ares,aresL,ares1,simprocAttr,implies_true,amz,tys,];done)));exact QS.no hn);done)
        | (exfalso;simp_all;done)
        | fail
    | false =>
      have hy:simpP s e=some (setDn s e.obj e.off):=by simp [simpP,hk,hd]
      have hu:=dn_upd s.dn he.o he.f
      repeat' (first|refine T.seqK fun K hK=>?_|refine T.block ?_|(refine T.reg (by kernel_rfl) fun K' hK'=>?_;simp only [startSt,frOf,List.map_cons,List.map_nil];(repeat' (first|(with_reducible refine WL.fin ?_;refine hK' _ ?_;clear hK' K')|((with_reducible refine WL.step fun K2 hK2=>?_);simp only [simprocAttr,implies_true,amz,tys,q6,q7,q8,q9,q12];(repeat' (first|with_reducible (first|(refine hK2 _ ?_;clear hK2 K2)|refine And.intro ?_ ?_|intro hb) ))))))|refine T.skip ?_|refine T.exit ?_|refine T.condT rfl ?_|refine T.condF rfl ?_|refine T.cond rfl (fun hc=>?_) (fun hc=>?_)|refine T.ret ?_|simp only [ThenA,InBlock,reduceIte,Nat.reduceEqDiff]|((repeat ((fail_if_success (refine hK _ ?_));clear hK K));refine hK _ ?_;clear hK K))
      all_goals (refine T.drw 6 (by kernel_rfl) (by kernel_rfl) fun K' hK'=>?_;simp only [List.map_cons,List.map_nil];(repeat' (first|(with_reducible refine WL.fin ?_;refine hK' _ ?_;clear hK' K')|(with_reducible refine WD.fin ?_)|((with_reducible first|refine WL.step fun K2 hK2=>?_|refine WD.step fun K2 hK2=>?_);simp only [simprocAttr,implies_true,amz,tys,keyed_120,keyOf_120 he.o he.f,plM_at _ _ he.o he.f,dn_z,hd];(repeat' (first|with_reducible (first|(refine hK2 _ ?_;clear hK2 K2)|refine And.intro ?_ ?_|intro hb) )))));all_goals ((try simp only [ThenA,InBlock,reduceIte,Nat.reduceEqDiff]);(try ((repeat ((fail_if_success (refine hK _ ?_));clear hK K));refine hK _ ?_;clear hK K))))
      all_goals (repeat' (first|refine T.seqK fun K hK=>?_|refine T.block ?_|(refine T.reg (by kernel_rfl) fun K' hK'=>?_;simp only [startSt,frOf,List.map_cons,List.map_nil];(repeat' (first|(with_reducible refine WL.fin ?_;refine hK' _ ?_;clear hK' K')|((with_reducible refine WL.step fun K2 hK2=>?_);simp only [simprocAttr,implies_true,amz,tys];(repeat' (first|with_reducible (first|(refine hK2 _ ?_;clear hK2 K2)|refine And.intro ?_ ?_|intro hb) ))))))|refine T.skip ?_|refine T.exit ?_|refine T.condT rfl ?_|refine T.condF rfl ?_|refine T.cond rfl (fun hc=>?_) (fun hc=>?_)|refine T.ret ?_|simp only [ThenA,InBlock,reduceIte,Nat.reduceEqDiff]|((repeat ((fail_if_success (refine hK _ ?_));clear hK K));refine hK _ ?_;clear hK K)))
      all_goals (refine T.drw 5 (by kernel_rfl) (by kernel_rfl) fun K' hK'=>?_;simp only [List.map_cons,List.map_nil];(repeat' (first|(with_reducible refine WL.fin ?_;refine hK' _ ?_;clear hK' K')|(with_reducible refine WD.fin ?_)|((with_reducible first|refine WL.step fun K2 hK2=>?_|refine WD.step fun K2 hK2=>?_);simp only [simprocAttr,implies_true,amz,tys,keyed_120,keyOf_120 he.o he.f,hm3];(repeat' (first|with_reducible (first|(refine hK2 _ ?_;clear hK2 K2)|refine And.intro ?_ ?_|intro hb) )))));all_goals ((try simp only [ThenA,InBlock,reduceIte,Nat.reduceEqDiff]);(try ((repeat ((fail_if_success (refine hK _ ?_));clear hK K));refine hK _ ?_;clear hK K))))
      all_goals (repeat' (first|refine T.seqK fun K hK=>?_|refine T.block ?_|(refine T.reg (by kernel_rfl) fun K' hK'=>?_;simp only [startSt,frOf,List.map_cons,List.map_nil];(repeat' (first|(with_reducible refine WL.fin ?_;refine hK' _ ?_;clear hK' K')|((with_reducible refine WL.step fun K2 hK2=>?_);simp only [simprocAttr,implies_true,amz,tys];(repeat' (first|with_reducible (first|(refine hK2 _ ?_;clear hK2 K2)|refine And.intro ?_ ?_|intro hb) ))))))|refine T.skip ?_|refine T.exit ?_|refine T.condT rfl ?_|refine T.condF rfl ?_|refine T.cond rfl (fun hc=>?_) (fun hc=>?_)|refine T.ret ?_|simp only [ThenA,InBlock,reduceIte,Nat.reduceEqDiff]|((repeat ((fail_if_success (refine hK _ ?_));clear hK K));refine hK _ ?_;clear hK K)))
      all_goals first
        | (((refine FinM.ret (s':=⟨[(4,.bool true)],hpS b (setDn s e.obj e.off) a1 a2 (a3 + 1),96,4⟩) (r := .bool true) (.inr rfl) Try.results87 (by refine Weak.of' rfl ?_;simp only [wks,reduceIte,Nat.reduceEqDiff,ASt.okB,AV.okB,Nat.reduceLT,implies_true,setDn,hu,hpS,gpC,List.map_cons,List.map_nil]) rfl ?_ ?_;(focus (simp only [ares,aresL,ares1,simprocAttr,implies_true,amz,tys,];done)));exact QS.yes (setDn s e.obj e.off) a1 a2 (a3 + 1) hy (by omega) (by omega) (by omega));done)
        | (exfalso;simp_all;done)
        | fail
  by_cases k13:e.kind=13
  · have hk:=k13
    have q6:(e.kind == 6)=false:=by simp [k13]
    have q7:(e.kind == 7)=false:=by simp [k13]
    have q8:(e.kind == 8)=false:=by simp [k13]
    have q9:(e.kind == 9)=false:=by simp [k13]
    have q12:(e.kind == 12)=false:=by simp [k13]
    have q13:(e.kind == 13)=true:=by simp [k13]
    have q14:(e.kind == 14)=false:=by simp [k13]
    cases hd:s.dn e.obj e.off with
    | true =>
      have hy:simpP s e=some s:=by simp [simpP,hk,hd]
      repeat' (first|refine T.seqK fun K hK=>?_|refine T.block ?_|(refine T.reg (by kernel_rfl) fun K' hK'=>?_;simp only [startSt,frOf,List.map_cons,List.map_nil];(repeat' (first|(with_reducible refine WL.fin ?_;refine hK' _ ?_;clear hK' K')|((with_reducible refine WL.step fun K2 hK2=>?_);simp only [simprocAttr,implies_true,amz,tys,q6,q7,q8,q9,q12,q13];(repeat' (first|with_reducible (first|(refine hK2 _ ?_;clear hK2 K2)|refine And.intro ?_ ?_|intro hb) ))))))|refine T.skip ?_|refine T.exit ?_|refine T.condT rfl ?_|refine T.condF rfl ?_|refine T.cond rfl (fun hc=>?_) (fun hc=>?_)|refine T.ret ?_|simp only [ThenA,InBlock,reduceIte,Nat.reduceEqDiff]|((repeat ((fail_if_success (refine hK _ ?_));clear hK K));refine hK _ ?_;clear hK K))
      all_goals (refine T.drw 7 (by kernel_rfl) (by kernel_rfl) fun K' hK'=>?_;simp only [List.map_cons,List.map_nil];(repeat' (first|(with_reducible refine WL.fin ?_;refine hK' _ ?_;clear hK' K')|(with_reducible refine WD.fin ?_)|((with_reducible first|refine WL.step fun K2 hK2=>?_|refine WD.step fun K2 hK2=>?_);simp only [simprocAttr,implies_true,amz,tys,keyed_120,keyOf_120 he.o he.f,plM_at _ _ he.o he.f,dn_z,hd];(repeat' (first|with_reducible (first|(refine hK2 _ ?_;clear hK2 K2)|refine And.intro ?_ ?_|intro hb) )))));all_goals ((try simp only [ThenA,InBlock,reduceIte,Nat.reduceEqDiff]);(try ((repeat ((fail_if_success (refine hK _ ?_));clear hK K));refine hK _ ?_;clear hK K))))
      all_goals (repeat' (first|refine T.seqK fun K hK=>?_|refine T.block ?_|(refine T.reg (by kernel_rfl) fun K' hK'=>?_;simp only [startSt,frOf,List.map_cons,List.map_nil];(repeat' (first|(with_reducible refine WL.fin ?_;refine hK' _ ?_;clear hK' K')|((with_reducible refine WL.step fun K2 hK2=>?_);simp only [simprocAttr,implies_true,amz,tys];(repeat' (first|with_reducible (first|(refine hK2 _ ?_;clear hK2 K2)|refine And.intro ?_ ?_|intro hb) ))))))|refine T.skip ?_|refine T.exit ?_|refine T.condT rfl ?_|refine T.condF rfl ?_|refine T.cond rfl (fun hc=>?_) (fun hc=>?_)|refine T.ret ?_|simp only [ThenA,InBlock,reduceIte,Nat.reduceEqDiff]|((repeat ((fail_if_success (refine hK _ ?_));clear hK K));refine hK _ ?_;clear hK K)))
      all_goals first
        | (((refine FinM.ret (s':=⟨[(4,.bool true)],hpS b s a1 a2 a3,96,4⟩) (r := .bool true) (.inr rfl) Try.results87 (by refine Weak.of' rfl ?_;simp only [wks,reduceIte,Nat.reduceEqDiff,ASt.okB,AV.okB,Nat.reduceLT,implies_true,hpS,gpC,List.map_cons,List.map_nil]) rfl ?_ ?_;(focus (simp only [ares,aresL,ares1,simprocAttr,implies_true,amz,tys,];done)));exact QS.yes s a1 a2 a3 hy (by omega) (by omega) (by omega));done)
        | (exfalso;simp_all;done)
        | fail
    | false =>
      have hn:simpP s e=none:=by simp [simpP,hk,hd]
      repeat' (first|refine T.seqK fun K hK=>?_|refine T.block ?_|(refine T.reg (by kernel_rfl) fun K' hK'=>?_;simp only [startSt,frOf,List.map_cons,List.map_nil];(repeat' (first|(with_reducible refine WL.fin ?_;refine hK' _ ?_;clear hK' K')|((with_reducible refine WL.step fun K2 hK2=>?_);simp only [simprocAttr,implies_true,amz,tys,q6,q7,q8,q9,q12,q13];(repeat' (first|with_reducible (first|(refine hK2 _ ?_;clear hK2 K2)|refine And.intro ?_ ?_|intro hb) ))))))|refine T.skip ?_|refine T.exit ?_|refine T.condT rfl ?_|refine T.condF rfl ?_|refine T.cond rfl (fun hc=>?_) (fun hc=>?_)|refine T.ret ?_|simp only [ThenA,InBlock,reduceIte,Nat.reduceEqDiff]|((repeat ((fail_if_success (refine hK _ ?_));clear hK K));refine hK _ ?_;clear hK K))
      all_goals (refine T.drw 7 (by kernel_rfl) (by kernel_rfl) fun K' hK'=>?_;simp only [List.map_cons,List.map_nil];(repeat' (first|(with_reducible refine WL.fin ?_;refine hK' _ ?_;clear hK' K')|(with_reducible refine WD.fin ?_)|((with_reducible first|refine WL.step fun K2 hK2=>?_|refine WD.step fun K2 hK2=>?_);simp only [simprocAttr,implies_true,amz,tys,keyed_120,keyOf_120 he.o he.f,plM_at _ _ he.o he.f,dn_z,hd];(repeat' (first|with_reducible (first|(refine hK2 _ ?_;clear hK2 K2)|refine And.intro ?_ ?_|intro hb) )))));all_goals ((try simp only [ThenA,InBlock,reduceIte,Nat.reduceEqDiff]);(try ((repeat ((fail_if_success (refine hK _ ?_));clear hK K));refine hK _ ?_;clear hK K))))
      all_goals (repeat' (first|refine T.seqK fun K hK=>?_|refine T.block ?_|(refine T.reg (by kernel_rfl) fun K' hK'=>?_;simp only [startSt,frOf,List.map_cons,List.map_nil];(repeat' (first|(with_reducible refine WL.fin ?_;refine hK' _ ?_;clear hK' K')|((with_reducible refine WL.step fun K2 hK2=>?_);simp only [simprocAttr,implies_true,amz,tys];(repeat' (first|with_reducible (first|(refine hK2 _ ?_;clear hK2 K2)|refine And.intro ?_ ?_|intro hb) ))))))|refine T.skip ?_|refine T.exit ?_|refine T.condT rfl ?_|refine T.condF rfl ?_|refine T.cond rfl (fun hc=>?_) (fun hc=>?_)|refine T.ret ?_|simp only [ThenA,InBlock,reduceIte,Nat.reduceEqDiff]|((repeat ((fail_if_success (refine hK _ ?_));clear hK K));refine hK _ ?_;clear hK K)))
      all_goals first
        | (((refine FinM.ret (s':=⟨[(4,.bool false)],hpS b s a1 a2 a3,96,4⟩) (r := .bool false) (.inr rfl) Try.results87 (by refine Weak.of' rfl ?_;simp only [wks,reduceIte,Nat.reduceEqDiff,ASt.okB,AV.okB,Nat.reduceLT,implies_true,hpS,gpC,List.map_cons,List.map_nil]) rfl ?_ ?_;(focus (simp only [ares,aresL,ares1,simprocAttr,implies_true,amz,tys,];done)));exact QS.no hn);done)
        | (exfalso;simp_all;done)
        | fail
  by_cases k14:e.kind=14
  · have hk:=k14
    have q6:(e.kind == 6)=false:=by simp [k14]
    have q7:(e.kind == 7)=false:=by simp [k14]
    have q8:(e.kind == 8)=false:=by simp [k14]
    have q9:(e.kind == 9)=false:=by simp [k14]
    have q12:(e.kind == 12)=false:=by simp [k14]
    have q13:(e.kind == 13)=false:=by simp [k14]
    have q14:(e.kind == 14)=true:=by simp [k14]
    cases hg:(e.k != s.gor) with
    | true =>
      have hg' : ¬ e.k=s.gor:=by simpa using hg
      have hn:simpP s e=none:=by simp [simpP,hmu,hk,hg']
      repeat' (first|refine T.seqK fun K hK=>?_|refine T.block ?_|(refine T.reg (by kernel_rfl) fun K' hK'=>?_;simp only [startSt,frOf,List.map_cons,List.map_nil];(repeat' (first|(with_reducible refine WL.fin ?_;refine hK' _ ?_;clear hK' K')|((with_reducible refine WL.step fun K2 hK2=>?_);simp only [simprocAttr,implies_true,amz,tys,q6,q7,q8,q9,q12,q13,q14];(repeat' (first|with_reducible (first|(refine hK2 _ ?_;clear hK2 K2)|refine And.intro ?_ ?_|intro hb) ))))))|refine T.skip ?_|refine T.exit ?_|refine T.condT rfl ?_|refine T.condF rfl ?_|refine T.cond rfl (fun hc=>?_) (fun hc=>?_)|refine T.ret ?_|simp only [ThenA,InBlock,reduceIte,Nat.reduceEqDiff]|((repeat ((fail_if_success (refine hK _ ?_));clear hK K));refine hK _ ?_;clear hK K))
      all_goals (refine T.drw 7 (by kernel_rfl) (by kernel_rfl) fun K' hK'=>?_;simp only [List.map_cons,List.map_nil];(repeat' (first|(with_reducible refine WL.fin ?_;refine hK' _ ?_;clear hK' K')|(with_reducible refine WD.fin ?_)|((with_reducible first|refine WL.step fun K2 hK2=>?_|refine WD.step fun K2 hK2=>?_);simp only [simprocAttr,implies_true,amz,tys,hg];(repeat' (first|with_reducible (first|(refine hK2 _ ?_;clear hK2 K2)|refine And.intro ?_ ?_|intro hb) )))));all_goals ((try simp only [ThenA,InBlock,reduceIte,Nat.reduceEqDiff]);(try ((repeat ((fail_if_success (refine hK _ ?_));clear hK K));refine hK _ ?_;clear hK K))))
      all_goals (repeat' (first|refine T.seqK fun K hK=>?_|refine T.block ?_|(refine T.reg (by kernel_rfl) fun K' hK'=>?_;simp only [startSt,frOf,List.map_cons,List.map_nil];(repeat' (first|(with_reducible refine WL.fin ?_;refine hK' _ ?_;clear hK' K')|((with_reducible refine WL.step fun K2 hK2=>?_);simp only [simprocAttr,implies_true,amz,tys];(repeat' (first|with_reducible (first|(refine hK2 _ ?_;clear hK2 K2)|refine And.intro ?_ ?_|intro hb) ))))))|refine T.skip ?_|refine T.exit ?_|refine T.condT rfl ?_|refine T.condF rfl ?_|refine T.cond rfl (fun hc=>?_) (fun hc=>?_)|refine T.ret ?_|simp only [ThenA,InBlock,reduceIte,Nat.reduceEqDiff]|((repeat ((fail_if_success (refine hK _ ?_));clear hK K));refine hK _ ?_;clear hK K)))
      all_goals first
        | (((refine FinM.ret (s':=⟨[(4,.bool false)],hpS b s a1 a2 a3,96,4⟩) (r := .bool false) (.inr rfl) Try.results87 (by refine Weak.of' rfl ?_;simp only [wks,reduceIte,Nat.reduceEqDiff,ASt.okB,AV.okB,Nat.reduceLT,implies_true,hpS,gpC,List.map_cons,List.map_nil]) rfl ?_ ?_;(focus (simp only [ares,aresL,ares1,simprocAttr,implies_true,amz,tys,];done)));exact QS.no hn);done)
        | (exfalso;simp_all;done)
        | fail
    | false =>
      have hg' : e.k=s.gor:=by simpa using hg
      have hy:simpP s e=some { s with gor:=wI (s.gor + 1) }:=by simp [simpP,hk,hg']
      repeat' (first|refine T.seqK fun K hK=>?_|refine T.block ?_|(refine T.reg (by kernel_rfl) fun K' hK'=>?_;simp only [startSt,frOf,List.map_cons,List.map_nil];(repeat' (first|(with_reducible refine WL.fin ?_;refine hK' _ ?_;clear hK' K')|((with_reducible refine WL.step fun K2 hK2=>?_);simp only [simprocAttr,implies_true,amz,tys,q6,q7,q8,q9,q12,q13,q14];(repeat' (first|with_reducible (first|(refine hK2 _ ?_;clear hK2 K2)|refine And.intro ?_ ?_|intro hb) ))))))|refine T.skip ?_|refine T.exit ?_|refine T.condT rfl ?_|refine T.condF rfl ?_|refine T.cond rfl (fun hc=>?_) (fun hc=>?_)|refine T.ret ?_|simp only [ThenA,InBlock,reduceIte,Nat.reduceEqDiff]|((repeat ((fail_if_success (refine hK _ ?_));clear hK K));refine hK _ ?_;clear hK K))
      all_goals (refine T.drw 7 (by kernel_rfl) (by kernel_rfl) fun K' hK'=>?_;simp only [List.map_cons,List.map_nil];(repeat' (first|(with_reducible refine WL.fin ?_;refine hK' _ ?_;clear hK' K')|(with_reducible refine WD.fin ?_)|((with_reducible first|refine WL.step fun K2 hK2=>?_|refine WD.step fun K2 hK2=>?_);simp only [simprocAttr,implies_true,amz,tys,hg];(repeat' (first|with_reducible (first|(refine hK2 _ ?_;clear hK2 K2)|refine And.intro ?_ ?_|intro hb) )))));all_goals ((try simp only [ThenA,InBlock,reduceIte,Nat.reduceEqDiff]);(try ((repeat ((fail_if_success (refine hK _ ?_));clear hK K));refine hK _ ?_;clear hK K))))
      all_goals (repeat' (first|refine T.seqK fun K hK=>?_|refine T.block ?_|(refine T.reg (by kernel_rfl) fun K' hK'=>?_;simp only [startSt,frOf,List.map_cons,List.map_nil];(repeat' (first|(with_reducible refine WL.fin ?_;refine hK' _ ?_;clear hK' K')|((with_reducible refine WL.step fun K2 hK2=>?_);simp only [simprocAttr,implies_true,amz,tys];(repeat' (first|with_reducible (first|(refine hK2 _ ?_;clear hK2 K2)|refine And.intro ?_ ?_|intro hb) ))))))|refine T.skip ?_|refine T.exit ?_|refine T.condT rfl ?_|refine T.condF rfl ?_|refine T.cond rfl (fun hc=>?_) (fun hc=>?_)|refine T.ret ?_|simp only [ThenA,InBlock,reduceIte,Nat.reduceEqDiff]|((repeat ((fail_if_success (refine hK _ ?_));clear hK K));refine hK _ ?_;clear hK K)))
      all_goals first
        | (((refine FinM.ret (s':=⟨[(4,.bool true)],hpS b { s with gor:=wI (s.gor + 1) } a1 a2 a3,96,4⟩) (r := .bool true) (.inr rfl) Try.results87 (by refine Weak.of' rfl ?_;simp only [wks,reduceIte,Nat.reduceEqDiff,ASt.okB,AV.okB,Nat.reduceLT,implies_true,hpS,gpC,List.map_cons,List.map_nil]) rfl ?_ ?_;(focus (simp only [ares,aresL,ares1,simprocAttr,implies_true,amz,tys,];done)));exact QS.yes { s with gor:=wI (s.gor + 1) } a1 a2 a3 hy (by omega) (by omega) (by omega));done)
        | (exfalso;simp_all;done)
        | fail
  have q6:(e.kind == 6)=false:=by simpa using k6
  have q7:(e.kind == 7)=false:=by simpa using k7
  have q8:(e.kind == 8)=false:=by simpa using k8
  have q9:(e.kind == 9)=false:=by simpa using k9
  have q12:(e.kind == 12)=false:=by simpa using k12
  have q13:(e.kind == 13)=false:=by simpa using k13
  have q14:(e.kind == 14)=false:=by simpa using k14
  have hy:simpP s e=some s:=by simp [simpP,k6,k7,k8,k9,k12,k13,k14]
  repeat' (first|refine T.seqK fun K hK=>?_|refine T.block ?_|(refine T.reg (by kernel_rfl) fun K' hK'=>?_;simp only [startSt,frOf,List.map_cons,List.map_nil];(repeat' (first|(with_reducible refine WL.fin ?_;refine hK' _ ?_;clear hK' K')|((with_reducible refine WL.step fun K2 hK2=>?_);simp only [simprocAttr,implies_true,amz,tys,q6,q7,q8,q9,q12,q13,q14];(repeat' (first|with_reducible (first|(refine hK2 _ ?_;clear hK2 K2)|refine And.intro ?_ ?_|intro hb) ))))))|refine T.skip ?_|refine T.exit ?_|refine T.condT rfl ?_|refine T.condF rfl ?_|refine T.cond rfl (fun hc=>?_) (fun hc=>?_)|refine T.ret ?_|simp only [ThenA,InBlock,reduceIte,Nat.reduceEqDiff]|((repeat ((fail_if_success (refine hK _ ?_));clear hK K));refine hK _ ?_;clear hK K))
  all_goals first
    | (((refine FinM.ret (s':=⟨[(4,.bool true)],hpS b s a1 a2 a3,96,4⟩) (r := .bool true) (.inr rfl) Try.results87 (by refine Weak.of' rfl ?_;simp only [wks,reduceIte,Nat.reduceEqDiff,ASt.okB,AV.okB,Nat.reduceLT,implies_true,hpS,gpC,List.map_cons,List.map_nil]) rfl ?_ ?_;(focus (simp only [ares,aresL,ares1,simprocAttr,implies_true,amz,tys,];done)));exact QS.yes s a1 a2 a3 hy (by omega) (by omega) (by omega));done)
    | (exfalso;simp_all;done)
    | fail
end Go.Proofs.Ytnckehomadnhoaa
namespace Go.Proofs.Ytnckehomadnhoaa
open Go.RowKit Go.Sort Go.Maps
set_option linter.unusedSimpArgs false
set_option linter.unusedVariables false
theorem QS.no' {b:Nat} {s:Ps} {a1 a2 a3 x1 x2 x3:Nat} {o:Option Ps} (h:o=none) (h1:x1≤a1 + 2) (h2:x2≤a2 + 2) (h3:x3≤a3 + 2):QS b s a1 a2 a3 o (hpS b s x1 x2 x3) (.bool false):=by subst h;exact ⟨rfl,x1,x2,x3,h1,h2,h3,rfl⟩
set_option maxHeartbeats 16000000 in
set_option maxRecDepth 100000 in
theorem addS_ok (b:Nat) (s:Ps) (a1 a2 a3:Nat) (e:Ev) (h1:a1 < 900000) (h2:a2 < 900000) (h3:a3 < 900000):MemC Try.prog 68 4 (hpS b s a1 a2 a3) [.ptr 0 0,evA e] (QS b s a1 a2 a3 (addP s e)):=by
  have hpe:hpS b s a1 a2 a3 = [(0,.boxP (some b) 127 [.int s.ev,.int s.gor,.own 1,.own 2,.own 3,.p (.seq 1 (s.op.kinds.map fun x => [pI x])),.int s.op.obj,.int s.op.k,.int s.op.n,.int s.op.snd,.int s.op.rcv]),(1,.map none Try.prog 3 a1 (inM chV s.ch)),(2,.map none Try.prog 120 a2 (plM muV s.mu)),(3,.map none Try.prog 120 a3 (plM Value.bool (dnO s.dn)))]:=rfl
  by_cases hno:noAddP s e=true
  · have hn:addP s e=none:=by simp [addP,hno]
    rw [hpe]
    have hv:=validE_ok e
    simp only [evA,evC,List.map_cons,List.map_nil] at hv ⊢
    refine MemC.of Try.func68 rfl 54 rfl (by decide) ?_;simp only [startM,frOf]
    repeat' (first|refine T.seqK fun K hK=>?_|refine T.block ?_|(refine T.reg (by kernel_rfl) fun K' hK'=>?_;simp only [startSt,frOf,List.map_cons,List.map_nil];(repeat' (first|(with_reducible refine WL.fin ?_;refine hK' _ ?_;clear hK' K')|((with_reducible refine WL.step fun K2 hK2=>?_);simp only [simprocAttr,implies_true,amz,tys];(repeat' (first|with_reducible (first|(refine hK2 _ ?_;clear hK2 K2)|refine And.intro ?_ ?_|intro hb) ))))))|refine T.skip ?_|refine T.exit ?_|refine T.condT rfl ?_|refine T.condF rfl ?_|refine T.cond rfl (fun hc=>?_) (fun hc=>?_)|refine T.ret ?_|simp only [ThenA,InBlock,reduceIte,Nat.reduceEqDiff]|((repeat ((fail_if_success (refine hK _ ?_));clear hK K));refine hK _ ?_;clear hK K))
    refine T.drw 23 (by kernel_rfl) (by kernel_rfl) fun K' hK'=>?_;simp only [List.map_cons,List.map_nil];(repeat' (first|(with_reducible refine WL.fin ?_;refine hK' _ ?_;clear hK' K')|(with_reducible refine WD.fin ?_)|((with_reducible first|refine WL.step fun K2 hK2=>?_|refine WD.step fun K2 hK2=>?_);simp only [simprocAttr,implies_true,amz,tys];(repeat' (first|with_reducible (first|(refine hK2 _ ?_;clear hK2 K2)|refine And.intro ?_ ?_|intro hb)|((first|(with_reducible apply callArmO)|(with_reducible apply callArm));case h=>exact CallV.plain (Ent.of Try.func83 (by kernel_rfl) rfl) (hv) (by simp [AV.okB])))))));all_goals ((try simp only [ThenA,InBlock,reduceIte,Nat.reduceEqDiff]);(try ((repeat ((fail_if_success (refine hK _ ?_));clear hK K));refine hK _ ?_;clear hK K)))
    all_goals (repeat' (first|refine T.seqK fun K hK=>?_|refine T.block ?_|(refine T.reg (by kernel_rfl) fun K' hK'=>?_;simp only [startSt,frOf,List.map_cons,List.map_nil];(repeat' (first|(with_reducible refine WL.fin ?_;refine hK' _ ?_;clear hK' K')|((with_reducible refine WL.step fun K2 hK2=>?_);simp only [simprocAttr,implies_true,amz,tys];(repeat' (first|with_reducible (first|(refine hK2 _ ?_;clear hK2 K2)|refine And.intro ?_ ?_|intro hb) ))))))|refine T.skip ?_|refine T.exit ?_|refine T.condT rfl ?_|refine T.condF rfl ?_|refine T.cond rfl (fun hc=>?_) (fun hc=>?_)|refine T.ret ?_|simp only [ThenA,InBlock,reduceIte,Nat.reduceEqDiff]|((repeat ((fail_if_success (refine hK _ ?_));clear hK K));refine hK _ ?_;clear hK K)))
    all_goals first
      | (exfalso;simp_all [noAddP];done)
      | ((refine FinM.ret (s':=⟨[(4,.bool false)],hpS b s a1 a2 a3,54,4⟩) (r := .bool false) (.inr rfl) Try.results68 (by refine Weak.of' rfl ?_;simp only [wks,reduceIte,Nat.reduceEqDiff,ASt.okB,AV.okB,Nat.reduceLT,implies_true,hpS,gpC,List.map_cons,List.map_nil]) rfl ?_ ?_;(focus (simp only [ares,aresL,ares1,simprocAttr,implies_true,amz,tys,];done)));exact QS.no hn)
      | fail
  · have hno' : noAddP s e=false:=by simpa using hno
    have hv0:validB e=true∧decide (5000≤s.ev)=false∧decide (s.gor≤e.g)=false:=by
      simp only [noAddP,Bool.or_eq_false_iff,Bool.not_eq_false'] at hno'
      exact ⟨hno'.1.1,hno'.1.2,hno'.2⟩
    obtain ⟨v1,v2,v3⟩:=hv0
    have he:=validB_ok v1
    have hv:=validE_ok e
    rw [v1] at hv
    have hop:=open_ok b s a1 a2 a3
    cases hkk:s.op.kinds with
    | cons kd r =>
      have hst:stepP s e=procP s kd r e:=by simp [stepP,hkk]
      rw [show openP s=true by simp [openP,hkk]] at hop
      have hc:=proceed_ok b s a1 a2 a3 e kd r hkk he (by omega)
      rw [← hst] at hc
      cases ho:stepP s e with
      | none =>
        have hn:addP s e=none:=by simp [addP,hno',ho]
        rw [ho] at hc
        rw [hpe] at hop hc ⊢
        simp only [evA,evC,List.map_cons,List.map_nil] at hv hc ⊢
        refine MemC.of Try.func68 rfl 54 rfl (by decide) ?_;simp only [startM,frOf]
        repeat' (first|refine T.seqK fun K hK=>?_|refine T.block ?_|(refine T.reg (by kernel_rfl) fun K' hK'=>?_;simp only [startSt,frOf,List.map_cons,List.map_nil];(repeat' (first|(with_reducible refine WL.fin ?_;refine hK' _ ?_;clear hK' K')|((with_reducible refine WL.step fun K2 hK2=>?_);simp only [simprocAttr,implies_true,amz,tys];(repeat' (first|with_reducible (first|(refine hK2 _ ?_;clear hK2 K2)|refine And.intro ?_ ?_|intro hb) ))))))|refine T.skip ?_|refine T.exit ?_|refine T.condT rfl ?_|refine T.condF rfl ?_|refine T.cond rfl (fun hc=>?_) (fun hc=>?_)|refine T.ret ?_|simp only [ThenA,InBlock,reduceIte,Nat.reduceEqDiff]|((repeat ((fail_if_success (refine hK _ ?_));clear hK K));refine hK _ ?_;clear hK K))
        refine T.drw 23 (by kernel_rfl) (by kernel_rfl) fun K' hK'=>?_;simp only [List.map_cons,List.map_nil];(repeat' (first|(with_reducible refine WL.fin ?_;refine hK' _ ?_;clear hK' K')|(with_reducible refine WD.fin ?_)|((with_reducible first|refine WL.step fun K2 hK2=>?_|refine WD.step fun K2 hK2=>?_);simp only [simprocAttr,implies_true,amz,tys,v2,v3];(repeat' (first|with_reducible (first|(refine hK2 _ ?_;clear hK2 K2)|refine And.intro ?_ ?_|intro hb)|((first|(with_reducible apply callArmO)|(with_reducible apply callArm));case h=>exact CallV.plain (Ent.of Try.func83 (by kernel_rfl) rfl) (hv) (by simp [AV.okB])))))));all_goals ((try simp only [ThenA,InBlock,reduceIte,Nat.reduceEqDiff]);(try ((repeat ((fail_if_success (refine hK _ ?_));clear hK K));refine hK _ ?_;clear hK K)))
        all_goals (repeat' (first|refine T.seqK fun K hK=>?_|refine T.block ?_|(refine T.reg (by kernel_rfl) fun K' hK'=>?_;simp only [startSt,frOf,List.map_cons,List.map_nil];(repeat' (first|(with_reducible refine WL.fin ?_;refine hK' _ ?_;clear hK' K')|((with_reducible refine WL.step fun K2 hK2=>?_);simp only [simprocAttr,implies_true,amz,tys];(repeat' (first|with_reducible (first|(refine hK2 _ ?_;clear hK2 K2)|refine And.intro ?_ ?_|intro hb)|((with_reducible refine callArmM 4 _ _ [0] (Ent.of Try.func69 (by kernel_rfl) rfl) (hop) ?_ ?_ ?_);(focus ((refine ⟨Nat.le_of_ble_eq_true rfl,?_,?_⟩ <;> simp only [List.mem_cons,List.not_mem_nil,or_false,forall_eq_or_imp,forall_eq,lk_cons,lk_nil,reduceIte,Nat.reduceEqDiff,AO.okB_box,AO.okB_row,AO.okB_map,AO.okB_raw,AV.okB,AV.okB_agg,AV.okB_fn,AV.okB_tup,List.all_cons,List.all_nil,Bool.and_true,Bool.and_self,Nat.reduceLT,decide_true,true_and,and_true,Option.isSome_some,true_implies,false_implies,implies_true,and_self,Nat.lt_irrefl,Option.some.injEq,]);done));(focus (simp [AV.okB];done));rintro hp' r ⟨rfl,rfl⟩;refine ⟨by simp [Kept,lk_cons,AO.handle],?_⟩;simp only [ASt.callM,AV.keep_own,AV.keep_ptr,AV.keep_rptr,AV.keep_pre,AV.keep_p,AV.keep_elt,AV.keep_junk,AV.keep_cap0,AV.keep_fn,AV.keep_agg,AV.keep_tup,AO.keep,List.map_cons,List.map_nil,List.filter_cons,List.filter_nil,Nat.reduceLeDiff,decide_true,decide_false,reduceIte,Bool.false_eq_true,List.cons_append,List.nil_append,List.mem_cons,List.not_mem_nil,or_false,false_or,or_true,true_or,Nat.reduceEqDiff,put_some,put_none,Nat.le_refl,])|((with_reducible refine callArmM 4 _ _ [0] (Ent.of Try.func84 (by kernel_rfl) rfl) (hc) ?_ ?_ ?_);(focus ((refine ⟨Nat.le_of_ble_eq_true rfl,?_,?_⟩ <;> simp only [List.mem_cons,List.not_mem_nil,or_false,forall_eq_or_imp,forall_eq,lk_cons,lk_nil,reduceIte,Nat.reduceEqDiff,AO.okB_box,AO.okB_row,AO.okB_map,AO.okB_raw,AV.okB,AV.okB_agg,AV.okB_fn,AV.okB_tup,List.all_cons,List.all_nil,Bool.and_true,Bool.and_self,Nat.reduceLT,decide_true,true_and,and_true,Option.isSome_some,true_implies,false_implies,implies_true,and_self,Nat.lt_irrefl,Option.some.injEq,]);done));(focus (simp [AV.okB];done));rintro hp' r ⟨rfl,x1,x2,x3,l1,l2,l3,rfl⟩;refine ⟨by simp [Kept,hpS,lk_cons,AO.handle],?_⟩;simp only [Option.getD_none,Option.getD_some,Option.isSome_none,Option.isSome_some,hpS,gpC];simp only [ASt.callM,AV.keep_own,AV.keep_ptr,AV.keep_rptr,AV.keep_pre,AV.keep_p,AV.keep_elt,AV.keep_junk,AV.keep_cap0,AV.keep_fn,AV.keep_agg,AV.keep_tup,AO.keep,List.map_cons,List.map_nil,List.filter_cons,List.filter_nil,Nat.reduceLeDiff,decide_true,decide_false,reduceIte,Bool.false_eq_true,List.cons_append,List.nil_append,List.mem_cons,List.not_mem_nil,or_false,false_or,or_true,true_or,Nat.reduceEqDiff,put_some,put_none,Nat.le_refl,])))))))|refine T.skip ?_|refine T.exit ?_|refine T.condT rfl ?_|refine T.condF rfl ?_|refine T.cond rfl (fun hc=>?_) (fun hc=>?_)|refine T.ret ?_|simp only [ThenA,InBlock,reduceIte,Nat.reduceEqDiff]|((repeat ((fail_if_success (refine hK _ ?_));clear hK K));refine hK _ ?_;clear hK K)))
        all_goals first
          | ((refine FinM.ret (s':=⟨[(4,.bool false)],hpS b s x1 x2 x3,54,4⟩) (r := .bool false) (.inr rfl) Try.results68 (by refine Weak.of' rfl ?_;simp only [wks,reduceIte,Nat.reduceEqDiff,ASt.okB,AV.okB,Nat.reduceLT,implies_true,hpS,gpC,List.map_cons,List.map_nil]) rfl ?_ ?_;(focus (simp only [ares,aresL,ares1,simprocAttr,implies_true,amz,tys,];done)));exact QS.no' hn l1 l2 l3;done)
          | fail
      | some t =>
        have hy:addP s e=some { t with ev:=wI (t.ev + 1) }:=by simp [addP,hno',ho]
        rw [ho] at hc
        rw [hpe] at hop hc ⊢
        simp only [evA,evC,List.map_cons,List.map_nil] at hv hc ⊢
        refine MemC.of Try.func68 rfl 54 rfl (by decide) ?_;simp only [startM,frOf]
        repeat' (first|refine T.seqK fun K hK=>?_|refine T.block ?_|(refine T.reg (by kernel_rfl) fun K' hK'=>?_;simp only [startSt,frOf,List.map_cons,List.map_nil];(repeat' (first|(with_reducible refine WL.fin ?_;refine hK' _ ?_;clear hK' K')|((with_reducible refine WL.step fun K2 hK2=>?_);simp only [simprocAttr,implies_true,amz,tys];(repeat' (first|with_reducible (first|(refine hK2 _ ?_;clear hK2 K2)|refine And.intro ?_ ?_|intro hb) ))))))|refine T.skip ?_|refine T.exit ?_|refine T.condT rfl ?_|refine T.condF rfl ?_|refine T.cond rfl (fun hc=>?_) (fun hc=>?_)|refine T.ret ?_|simp only [ThenA,InBlock,reduceIte,Nat.reduceEqDiff]|((repeat ((fail_if_success (refine hK _ ?_));clear hK K));refine hK _ ?_;clear hK K))
        refine T.drw 23 (by kernel_rfl) (by kernel_rfl) fun K' hK'=>?_;simp only [List.map_cons,List.map_nil];(repeat' (first|(with_reducible refine WL.fin ?_;refine hK' _ ?_;clear hK' K')|(with_reducible refine WD.fin ?_)|((with_reducible first|refine WL.step fun K2 hK2=>?_|refine WD.step fun K2 hK2=>?_);simp only [simprocAttr,implies_true,amz,tys,v2,v3];(repeat' (first|with_reducible (first|(refine hK2 _ ?_;clear hK2 K2)|refine And.intro ?_ ?_|intro hb)|((first|(with_reducible apply callArmO)|(with_reducible apply callArm));case h=>exact CallV.plain (Ent.of Try.func83 (by kernel_rfl) rfl) (hv) (by simp [AV.okB])))))));all_goals ((try simp only [ThenA,InBlock,reduceIte,Nat.reduceEqDiff]);(try ((repeat ((fail_if_success (refine hK _ ?_));clear hK K));refine hK _ ?_;clear hK K)))
        all_goals (repeat' (first|refine T.seqK fun K hK=>?_|refine T.block ?_|(refine T.reg (by kernel_rfl) fun K' hK'=>?_;simp only [startSt,frOf,List.map_cons,List.map_nil];(repeat' (first|(with_reducible refine WL.fin ?_;refine hK' _ ?_;clear hK' K')|((with_reducible refine WL.step fun K2 hK2=>?_);simp only [simprocAttr,implies_true,amz,tys];(repeat' (first|with_reducible (first|(refine hK2 _ ?_;clear hK2 K2)|refine And.intro ?_ ?_|intro hb)|((with_reducible refine callArmM 4 _ _ [0] (Ent.of Try.func69 (by kernel_rfl) rfl) (hop) ?_ ?_ ?_);(focus ((refine ⟨Nat.le_of_ble_eq_true rfl,?_,?_⟩ <;> simp only [List.mem_cons,List.not_mem_nil,or_false,forall_eq_or_imp,forall_eq,lk_cons,lk_nil,reduceIte,Nat.reduceEqDiff,AO.okB_box,AO.okB_row,AO.okB_map,AO.okB_raw,AV.okB,AV.okB_agg,AV.okB_fn,AV.okB_tup,List.all_cons,List.all_nil,Bool.and_true,Bool.and_self,Nat.reduceLT,decide_true,true_and,and_true,Option.isSome_some,true_implies,false_implies,implies_true,and_self,Nat.lt_irrefl,Option.some.injEq,]);done));(focus (simp [AV.okB];done));rintro hp' r ⟨rfl,rfl⟩;refine ⟨by simp [Kept,lk_cons,AO.handle],?_⟩;simp only [ASt.callM,AV.keep_own,AV.keep_ptr,AV.keep_rptr,AV.keep_pre,AV.keep_p,AV.keep_elt,AV.keep_junk,AV.keep_cap0,AV.keep_fn,AV.keep_agg,AV.keep_tup,AO.keep,List.map_cons,List.map_nil,List.filter_cons,List.filter_nil,Nat.reduceLeDiff,decide_true,decide_false,reduceIte,Bool.false_eq_true,List.cons_append,List.nil_append,List.mem_cons,List.not_mem_nil,or_false,false_or,or_true,true_or,Nat.reduceEqDiff,put_some,put_none,Nat.le_refl,])|((with_reducible refine callArmM 4 _ _ [0] (Ent.of Try.func84 (by kernel_rfl) rfl) (hc) ?_ ?_ ?_);(focus ((refine ⟨Nat.le_of_ble_eq_true rfl,?_,?_⟩ <;> simp only [List.mem_cons,List.not_mem_nil,or_false,forall_eq_or_imp,forall_eq,lk_cons,lk_nil,reduceIte,Nat.reduceEqDiff,AO.okB_box,AO.okB_row,AO.okB_map,AO.okB_raw,AV.okB,AV.okB_agg,AV.okB_fn,AV.okB_tup,List.all_cons,List.all_nil,Bool.and_true,Bool.and_self,Nat.reduceLT,decide_true,true_and,and_true,Option.isSome_some,true_implies,false_implies,implies_true,and_self,Nat.lt_irrefl,Option.some.injEq,]);done));(focus (simp [AV.okB];done));rintro hp' r ⟨rfl,x1,x2,x3,l1,l2,l3,rfl⟩;refine ⟨by simp [Kept,hpS,lk_cons,AO.handle],?_⟩;simp only [Option.getD_none,Option.getD_some,Option.isSome_none,Option.isSome_some,hpS,gpC];simp only [ASt.callM,AV.keep_own,AV.keep_ptr,AV.keep_rptr,AV.keep_pre,AV.keep_p,AV.keep_elt,AV.keep_junk,AV.keep_cap0,AV.keep_fn,AV.keep_agg,AV.keep_tup,AO.keep,List.map_cons,List.map_nil,List.filter_cons,List.filter_nil,Nat.reduceLeDiff,decide_true,decide_false,reduceIte,Bool.false_eq_true,List.cons_append,List.nil_append,List.mem_cons,List.not_mem_nil,or_false,false_or,or_true,true_or,Nat.reduceEqDiff,put_some,put_none,Nat.le_refl,])))))))|refine T.skip ?_|refine T.exit ?_|refine T.condT rfl ?_|refine T.condF rfl ?_|refine T.cond rfl (fun hc=>?_) (fun hc=>?_)|refine T.ret ?_|simp only [ThenA,InBlock,reduceIte,Nat.reduceEqDiff]|((repeat ((fail_if_success (refine hK _ ?_));clear hK K));refine hK _ ?_;clear hK K)))
        all_goals first
          | ((refine FinM.ret (s':=⟨[(4,.bool true)],hpS b { t with ev:=wI (t.ev + 1) } x1 x2 x3,54,4⟩) (r := .bool true) (.inr rfl) Try.results68 (by refine Weak.of' rfl ?_;simp only [wks,reduceIte,Nat.reduceEqDiff,ASt.okB,AV.okB,Nat.reduceLT,implies_true,hpS,gpC,List.map_cons,List.map_nil]) rfl ?_ ?_;(focus (simp only [ares,aresL,ares1,simprocAttr,implies_true,amz,tys,];done)));exact QS.yes _ x1 x2 x3 hy l1 l2 l3;done)
          | fail
    | nil =>
      rw [show openP s=false by simp [openP,hkk]] at hop
      have hch:=channel_ok e.kind
      cases hcb:channelB e.kind with
      | true =>
        have hst:stepP s e=operP s e:=by simp [stepP,hkk,hcb]
        rw [hcb] at hch
        have hc:=operate_ok b s a1 a2 a3 e he (by omega)
        rw [← hst] at hc
        cases ho:stepP s e with
        | none =>
          have hn:addP s e=none:=by simp [addP,hno',ho]
          rw [ho] at hc
          rw [hpe] at hop hc ⊢
          simp only [evA,evC,List.map_cons,List.map_nil] at hv hc ⊢
          refine MemC.of Try.func68 rfl 54 rfl (by decide) ?_;simp only [startM,frOf]
          repeat' (first|refine T.seqK fun K hK=>?_|refine T.block ?_|(refine T.reg (by kernel_rfl) fun K' hK'=>?_;simp only [startSt,frOf,List.map_cons,List.map_nil];(repeat' (first|(with_reducible refine WL.fin ?_;refine hK' _ ?_;clear hK' K')|((with_reducible refine WL.step fun K2 hK2=>?_);simp only [simprocAttr,implies_true,amz,tys];(repeat' (first|with_reducible (first|(refine hK2 _ ?_;clear hK2 K2)|refine And.intro ?_ ?_|intro hb) ))))))|refine T.skip ?_|refine T.exit ?_|refine T.condT rfl ?_|refine T.condF rfl ?_|refine T.cond rfl (fun hc=>?_) (fun hc=>?_)|refine T.ret ?_|simp only [ThenA,InBlock,reduceIte,Nat.reduceEqDiff]|((repeat ((fail_if_success (refine hK _ ?_));clear hK K));refine hK _ ?_;clear hK K))
          refine T.drw 23 (by kernel_rfl) (by kernel_rfl) fun K' hK'=>?_;simp only [List.map_cons,List.map_nil];(repeat' (first|(with_reducible refine WL.fin ?_;refine hK' _ ?_;clear hK' K')|(with_reducible refine WD.fin ?_)|((with_reducible first|refine WL.step fun K2 hK2=>?_|refine WD.step fun K2 hK2=>?_);simp only [simprocAttr,implies_true,amz,tys,v2,v3];(repeat' (first|with_reducible (first|(refine hK2 _ ?_;clear hK2 K2)|refine And.intro ?_ ?_|intro hb)|((first|(with_reducible apply callArmO)|(with_reducible apply callArm));case h=>exact CallV.plain (Ent.of Try.func83 (by kernel_rfl) rfl) (hv) (by simp [AV.okB])))))));all_goals ((try simp only [ThenA,InBlock,reduceIte,Nat.reduceEqDiff]);(try ((repeat ((fail_if_success (refine hK _ ?_));clear hK K));refine hK _ ?_;clear hK K)))
          all_goals (repeat' (first|refine T.seqK fun K hK=>?_|refine T.block ?_|(refine T.reg (by kernel_rfl) fun K' hK'=>?_;simp only [startSt,frOf,List.map_cons,List.map_nil];(repeat' (first|(with_reducible refine WL.fin ?_;refine hK' _ ?_;clear hK' K')|((with_reducible refine WL.step fun K2 hK2=>?_);simp only [simprocAttr,implies_true,amz,tys];(repeat' (first|with_reducible (first|(refine hK2 _ ?_;clear hK2 K2)|refine And.intro ?_ ?_|intro hb)|((with_reducible refine callArmM 4 _ _ [0] (Ent.of Try.func69 (by kernel_rfl) rfl) (hop) ?_ ?_ ?_);(focus ((refine ⟨Nat.le_of_ble_eq_true rfl,?_,?_⟩ <;> simp only [List.mem_cons,List.not_mem_nil,or_false,forall_eq_or_imp,forall_eq,lk_cons,lk_nil,reduceIte,Nat.reduceEqDiff,AO.okB_box,AO.okB_row,AO.okB_map,AO.okB_raw,AV.okB,AV.okB_agg,AV.okB_fn,AV.okB_tup,List.all_cons,List.all_nil,Bool.and_true,Bool.and_self,Nat.reduceLT,decide_true,true_and,and_true,Option.isSome_some,true_implies,false_implies,implies_true,and_self,Nat.lt_irrefl,Option.some.injEq,]);done));(focus (simp [AV.okB];done));rintro hp' r ⟨rfl,rfl⟩;refine ⟨by simp [Kept,lk_cons,AO.handle],?_⟩;simp only [ASt.callM,AV.keep_own,AV.keep_ptr,AV.keep_rptr,AV.keep_pre,AV.keep_p,AV.keep_elt,AV.keep_junk,AV.keep_cap0,AV.keep_fn,AV.keep_agg,AV.keep_tup,AO.keep,List.map_cons,List.map_nil,List.filter_cons,List.filter_nil,Nat.reduceLeDiff,decide_true,decide_false,reduceIte,Bool.false_eq_true,List.cons_append,List.nil_append,List.mem_cons,List.not_mem_nil,or_false,false_or,or_true,true_or,Nat.reduceEqDiff,put_some,put_none,Nat.le_refl,])|((first|(with_reducible apply callArmO)|(with_reducible apply callArm));case h=>exact CallV.plain (Ent.of Try.func85 (by kernel_rfl) rfl) (hch) (by simp [AV.okB]))|((with_reducible refine callArmM 4 _ _ [0] (Ent.of Try.func86 (by kernel_rfl) rfl) (hc) ?_ ?_ ?_);(focus ((refine ⟨Nat.le_of_ble_eq_true rfl,?_,?_⟩ <;> simp only [List.mem_cons,List.not_mem_nil,or_false,forall_eq_or_imp,forall_eq,lk_cons,lk_nil,reduceIte,Nat.reduceEqDiff,AO.okB_box,AO.okB_row,AO.okB_map,AO.okB_raw,AV.okB,AV.okB_agg,AV.okB_fn,AV.okB_tup,List.all_cons,List.all_nil,Bool.and_true,Bool.and_self,Nat.reduceLT,decide_true,true_and,and_true,Option.isSome_some,true_implies,false_implies,implies_true,and_self,Nat.lt_irrefl,Option.some.injEq,]);done));(focus (simp [AV.okB];done));rintro hp' r ⟨rfl,x1,x2,x3,l1,l2,l3,rfl⟩;refine ⟨by simp [Kept,hpS,lk_cons,AO.handle],?_⟩;simp only [Option.getD_none,Option.getD_some,Option.isSome_none,Option.isSome_some,hpS,gpC];simp only [ASt.callM,AV.keep_own,AV.keep_ptr,AV.keep_rptr,AV.keep_pre,AV.keep_p,AV.keep_elt,AV.keep_junk,AV.keep_cap0,AV.keep_fn,AV.keep_agg,AV.keep_tup,AO.keep,List.map_cons,List.map_nil,List.filter_cons,List.filter_nil,Nat.reduceLeDiff,decide_true,decide_false,reduceIte,Bool.false_eq_true,List.cons_append,List.nil_append,List.mem_cons,List.not_mem_nil,or_false,false_or,or_true,true_or,Nat.reduceEqDiff,put_some,put_none,Nat.le_refl,])))))))|refine T.skip ?_|refine T.exit ?_|refine T.condT rfl ?_|refine T.condF rfl ?_|refine T.cond rfl (fun hc=>?_) (fun hc=>?_)|refine T.ret ?_|simp only [ThenA,InBlock,reduceIte,Nat.reduceEqDiff]|((repeat ((fail_if_success (refine hK _ ?_));clear hK K));refine hK _ ?_;clear hK K)))
          all_goals first
            | ((refine FinM.ret (s':=⟨[(4,.bool false)],hpS b s x1 x2 x3,54,4⟩) (r := .bool false) (.inr rfl) Try.results68 (by refine Weak.of' rfl ?_;simp only [wks,reduceIte,Nat.reduceEqDiff,ASt.okB,AV.okB,Nat.reduceLT,implies_true,hpS,gpC,List.map_cons,List.map_nil]) rfl ?_ ?_;(focus (simp only [ares,aresL,ares1,simprocAttr,implies_true,amz,tys,];done)));exact QS.no' hn l1 l2 l3;done)
            | fail
        | some t =>
          have hy:addP s e=some { t with ev:=wI (t.ev + 1) }:=by simp [addP,hno',ho]
          rw [ho] at hc
          rw [hpe] at hop hc ⊢
          simp only [evA,evC,List.map_cons,List.map_nil] at hv hc ⊢
          refine MemC.of Try.func68 rfl 54 rfl (by decide) ?_;simp only [startM,frOf]
          repeat' (first|refine T.seqK fun K hK=>?_|refine T.block ?_|(refine T.reg (by kernel_rfl) fun K' hK'=>?_;simp only [startSt,frOf,List.map_cons,List.map_nil];(repeat' (first|(with_reducible refine WL.fin ?_;refine hK' _ ?_;clear hK' K')|((with_reducible refine WL.step fun K2 hK2=>?_);simp only [simprocAttr,implies_true,amz,tys];(repeat' (first|with_reducible (first|(refine hK2 _ ?_;clear hK2 K2)|refine And.intro ?_ ?_|intro hb) ))))))|refine T.skip ?_|refine T.exit ?_|refine T.condT rfl ?_|refine T.condF rfl ?_|refine T.cond rfl (fun hc=>?_) (fun hc=>?_)|refine T.ret ?_|simp only [ThenA,InBlock,reduceIte,Nat.reduceEqDiff]|((repeat ((fail_if_success (refine hK _ ?_));clear hK K));refine hK _ ?_;clear hK K))
          refine T.drw 23 (by kernel_rfl) (by kernel_rfl) fun K' hK'=>?_;simp only [List.map_cons,List.map_nil];(repeat' (first|(with_reducible refine WL.fin ?_;refine hK' _ ?_;clear hK' K')|(with_reducible refine WD.fin ?_)|((with_reducible first|refine WL.step fun K2 hK2=>?_|refine WD.step fun K2 hK2=>?_);simp only [simprocAttr,implies_true,amz,tys,v2,v3];(repeat' (first|with_reducible (first|(refine hK2 _ ?_;clear hK2 K2)|refine And.intro ?_ ?_|intro hb)|((first|(with_reducible apply callArmO)|(with_reducible apply callArm));case h=>exact CallV.plain (Ent.of Try.func83 (by kernel_rfl) rfl) (hv) (by simp [AV.okB])))))));all_goals ((try simp only [ThenA,InBlock,reduceIte,Nat.reduceEqDiff]);(try ((repeat ((fail_if_success (refine hK _ ?_));clear hK K));refine hK _ ?_;clear hK K)))
          all_goals (repeat' (first|refine T.seqK fun K hK=>?_|refine T.block ?_|(refine T.reg (by kernel_rfl) fun K' hK'=>?_;simp only [startSt,frOf,List.map_cons,List.map_nil];(repeat' (first|(with_reducible refine WL.fin ?_;refine hK' _ ?_;clear hK' K')|((with_reducible refine WL.step fun K2 hK2=>?_);simp only [simprocAttr,implies_true,amz,tys];(repeat' (first|with_reducible (first|(refine hK2 _ ?_;clear hK2 K2)|refine And.intro ?_ ?_|intro hb)|((with_reducible refine callArmM 4 _ _ [0] (Ent.of Try.func69 (by kernel_rfl) rfl) (hop) ?_ ?_ ?_);(focus ((refine ⟨Nat.le_of_ble_eq_true rfl,?_,?_⟩ <;> simp only [List.mem_cons,List.not_mem_nil,or_false,forall_eq_or_imp,forall_eq,lk_cons,lk_nil,reduceIte,Nat.reduceEqDiff,AO.okB_box,AO.okB_row,AO.okB_map,AO.okB_raw,AV.okB,AV.okB_agg,AV.okB_fn,AV.okB_tup,List.all_cons,List.all_nil,Bool.and_true,Bool.and_self,Nat.reduceLT,decide_true,true_and,and_true,Option.isSome_some,true_implies,false_implies,implies_true,and_self,Nat.lt_irrefl,Option.some.injEq,]);done));(focus (simp [AV.okB];done));rintro hp' r ⟨rfl,rfl⟩;refine ⟨by simp [Kept,lk_cons,AO.handle],?_⟩;simp only [ASt.callM,AV.keep_own,AV.keep_ptr,AV.keep_rptr,AV.keep_pre,AV.keep_p,AV.keep_elt,AV.keep_junk,AV.keep_cap0,AV.keep_fn,AV.keep_agg,AV.keep_tup,AO.keep,List.map_cons,List.map_nil,List.filter_cons,List.filter_nil,Nat.reduceLeDiff,decide_true,decide_false,reduceIte,Bool.false_eq_true,List.cons_append,List.nil_append,List.mem_cons,List.not_mem_nil,or_false,false_or,or_true,true_or,Nat.reduceEqDiff,put_some,put_none,Nat.le_refl,])|((first|(with_reducible apply callArmO)|(with_reducible apply callArm));case h=>exact CallV.plain (Ent.of Try.func85 (by kernel_rfl) rfl) (hch) (by simp [AV.okB]))|((with_reducible refine callArmM 4 _ _ [0] (Ent.of Try.func86 (by kernel_rfl) rfl) (hc) ?_ ?_ ?_);(focus ((refine ⟨Nat.le_of_ble_eq_true rfl,?_,?_⟩ <;> simp only [List.mem_cons,List.not_mem_nil,or_false,forall_eq_or_imp,forall_eq,lk_cons,lk_nil,reduceIte,Nat.reduceEqDiff,AO.okB_box,AO.okB_row,AO.okB_map,AO.okB_raw,AV.okB,AV.okB_agg,AV.okB_fn,AV.okB_tup,List.all_cons,List.all_nil,Bool.and_true,Bool.and_self,Nat.reduceLT,decide_true,true_and,and_true,Option.isSome_some,true_implies,false_implies,implies_true,and_self,Nat.lt_irrefl,Option.some.injEq,]);done));(focus (simp [AV.okB];done));rintro hp' r ⟨rfl,x1,x2,x3,l1,l2,l3,rfl⟩;refine ⟨by simp [Kept,hpS,lk_cons,AO.handle],?_⟩;simp only [Option.getD_none,Option.getD_some,Option.isSome_none,Option.isSome_some,hpS,gpC];simp only [ASt.callM,AV.keep_own,AV.keep_ptr,AV.keep_rptr,AV.keep_pre,AV.keep_p,AV.keep_elt,AV.keep_junk,AV.keep_cap0,AV.keep_fn,AV.keep_agg,AV.keep_tup,AO.keep,List.map_cons,List.map_nil,List.filter_cons,List.filter_nil,Nat.reduceLeDiff,decide_true,decide_false,reduceIte,Bool.false_eq_true,List.cons_append,List.nil_append,List.mem_cons,List.not_mem_nil,or_false,false_or,or_true,true_or,Nat.reduceEqDiff,put_some,put_none,Nat.le_refl,])))))))|refine T.skip ?_|refine T.exit ?_|refine T.condT rfl ?_|refine T.condF rfl ?_|refine T.cond rfl (fun hc=>?_) (fun hc=>?_)|refine T.ret ?_|simp only [ThenA,InBlock,reduceIte,Nat.reduceEqDiff]|((repeat ((fail_if_success (refine hK _ ?_));clear hK K));refine hK _ ?_;clear hK K)))
          all_goals first
            | ((refine FinM.ret (s':=⟨[(4,.bool true)],hpS b { t with ev:=wI (t.ev + 1) } x1 x2 x3,54,4⟩) (r := .bool true) (.inr rfl) Try.results68 (by refine Weak.of' rfl ?_;simp only [wks,reduceIte,Nat.reduceEqDiff,ASt.okB,AV.okB,Nat.reduceLT,implies_true,hpS,gpC,List.map_cons,List.map_nil]) rfl ?_ ?_;(focus (simp only [ares,aresL,ares1,simprocAttr,implies_true,amz,tys,];done)));exact QS.yes _ x1 x2 x3 hy l1 l2 l3;done)
            | fail
      | false =>
        have hst:stepP s e=simpP s e:=by simp [stepP,hkk,hcb]
        rw [hcb] at hch
        have hc:=simple_ok b s a1 a2 a3 e he (by omega) (by omega)
        rw [← hst] at hc
        cases ho:stepP s e with
        | none =>
          have hn:addP s e=none:=by simp [addP,hno',ho]
          rw [ho] at hc
          rw [hpe] at hop hc ⊢
          simp only [evA,evC,List.map_cons,List.map_nil] at hv hc ⊢
          refine MemC.of Try.func68 rfl 54 rfl (by decide) ?_;simp only [startM,frOf]
          repeat' (first|refine T.seqK fun K hK=>?_|refine T.block ?_|(refine T.reg (by kernel_rfl) fun K' hK'=>?_;simp only [startSt,frOf,List.map_cons,List.map_nil];(repeat' (first|(with_reducible refine WL.fin ?_;refine hK' _ ?_;clear hK' K')|((with_reducible refine WL.step fun K2 hK2=>?_);simp only [simprocAttr,implies_true,amz,tys];(repeat' (first|with_reducible (first|(refine hK2 _ ?_;clear hK2 K2)|refine And.intro ?_ ?_|intro hb) ))))))|refine T.skip ?_|refine T.exit ?_|refine T.condT rfl ?_|refine T.condF rfl ?_|refine T.cond rfl (fun hc=>?_) (fun hc=>?_)|refine T.ret ?_|simp only [ThenA,InBlock,reduceIte,Nat.reduceEqDiff]|((repeat ((fail_if_success (refine hK _ ?_));clear hK K));refine hK _ ?_;clear hK K))
          refine T.drw 23 (by kernel_rfl) (by kernel_rfl) fun K' hK'=>?_;simp only [List.map_cons,List.map_nil];(repeat' (first|(with_reducible refine WL.fin ?_;refine hK' _ ?_;clear hK' K')|(with_reducible refine WD.fin ?_)|((with_reducible first|refine WL.step fun K2 hK2=>?_|refine WD.step fun K2 hK2=>?_);simp only [simprocAttr,implies_true,amz,tys,v2,v3];(repeat' (first|with_reducible (first|(refine hK2 _ ?_;clear hK2 K2)|refine And.intro ?_ ?_|intro hb)|((first|(with_reducible apply callArmO)|(with_reducible apply callArm));case h=>exact CallV.plain (Ent.of Try.func83 (by kernel_rfl) rfl) (hv) (by simp [AV.okB])))))));all_goals ((try simp only [ThenA,InBlock,reduceIte,Nat.reduceEqDiff]);(try ((repeat ((fail_if_success (refine hK _ ?_));clear hK K));refine hK _ ?_;clear hK K)))
          all_goals (repeat' (first|refine T.seqK fun K hK=>?_|refine T.block ?_|(refine T.reg (by kernel_rfl) fun K' hK'=>?_;simp only [startSt,frOf,List.map_cons,List.map_nil];(repeat' (first|(with_reducible refine WL.fin ?_;refine hK' _ ?_;clear hK' K')|((with_reducible refine WL.step fun K2 hK2=>?_);simp only [simprocAttr,implies_true,amz,tys];(repeat' (first|with_reducible (first|(refine hK2 _ ?_;clear hK2 K2)|refine And.intro ?_ ?_|intro hb)|((with_reducible refine callArmM 4 _ _ [0] (Ent.of Try.func69 (by kernel_rfl) rfl) (hop) ?_ ?_ ?_);(focus ((refine ⟨Nat.le_of_ble_eq_true rfl,?_,?_⟩ <;> simp only [List.mem_cons,List.not_mem_nil,or_false,forall_eq_or_imp,forall_eq,lk_cons,lk_nil,reduceIte,Nat.reduceEqDiff,AO.okB_box,AO.okB_row,AO.okB_map,AO.okB_raw,AV.okB,AV.okB_agg,AV.okB_fn,AV.okB_tup,List.all_cons,List.all_nil,Bool.and_true,Bool.and_self,Nat.reduceLT,decide_true,true_and,and_true,Option.isSome_some,true_implies,false_implies,implies_true,and_self,Nat.lt_irrefl,Option.some.injEq,]);done));(focus (simp [AV.okB];done));rintro hp' r ⟨rfl,rfl⟩;refine ⟨by simp [Kept,lk_cons,AO.handle],?_⟩;simp only [ASt.callM,AV.keep_own,AV.keep_ptr,AV.keep_rptr,AV.keep_pre,AV.keep_p,AV.keep_elt,AV.keep_junk,AV.keep_cap0,AV.keep_fn,AV.keep_agg,AV.keep_tup,AO.keep,List.map_cons,List.map_nil,List.filter_cons,List.filter_nil,Nat.reduceLeDiff,decide_true,decide_false,reduceIte,Bool.false_eq_true,List.cons_append,List.nil_append,List.mem_cons,List.not_mem_nil,or_false,false_or,or_true,true_or,Nat.reduceEqDiff,put_some,put_none,Nat.le_refl,])|((first|(with_reducible apply callArmO)|(with_reducible apply callArm));case h=>exact CallV.plain (Ent.of Try.func85 (by kernel_rfl) rfl) (hch) (by simp [AV.okB]))|((with_reducible refine callArmM 4 _ _ [0] (Ent.of Try.func87 (by kernel_rfl) rfl) (hc) ?_ ?_ ?_);(focus ((refine ⟨Nat.le_of_ble_eq_true rfl,?_,?_⟩ <;> simp only [List.mem_cons,List.not_mem_nil,or_false,forall_eq_or_imp,forall_eq,lk_cons,lk_nil,reduceIte,Nat.reduceEqDiff,AO.okB_box,AO.okB_row,AO.okB_map,AO.okB_raw,AV.okB,AV.okB_agg,AV.okB_fn,AV.okB_tup,List.all_cons,List.all_nil,Bool.and_true,Bool.and_self,Nat.reduceLT,decide_true,true_and,and_true,Option.isSome_some,true_implies,false_implies,implies_true,and_self,Nat.lt_irrefl,Option.some.injEq,]);done));(focus (simp [AV.okB];done));rintro hp' r ⟨rfl,x1,x2,x3,l1,l2,l3,rfl⟩;refine ⟨by simp [Kept,hpS,lk_cons,AO.handle],?_⟩;simp only [Option.getD_none,Option.getD_some,Option.isSome_none,Option.isSome_some,hpS,gpC];simp only [ASt.callM,AV.keep_own,AV.keep_ptr,AV.keep_rptr,AV.keep_pre,AV.keep_p,AV.keep_elt,AV.keep_junk,AV.keep_cap0,AV.keep_fn,AV.keep_agg,AV.keep_tup,AO.keep,List.map_cons,List.map_nil,List.filter_cons,List.filter_nil,Nat.reduceLeDiff,decide_true,decide_false,reduceIte,Bool.false_eq_true,List.cons_append,List.nil_append,List.mem_cons,List.not_mem_nil,or_false,false_or,or_true,true_or,Nat.reduceEqDiff,put_some,put_none,Nat.le_refl,])))))))|refine T.skip ?_|refine T.exit ?_|refine T.condT rfl ?_|refine T.condF rfl ?_|refine T.cond rfl (fun hc=>?_) (fun hc=>?_)|refine T.ret ?_|simp only [ThenA,InBlock,reduceIte,Nat.reduceEqDiff]|((repeat ((fail_if_success (refine hK _ ?_));clear hK K));refine hK _ ?_;clear hK K)))
          all_goals first
            | ((refine FinM.ret (s':=⟨[(4,.bool false)],hpS b s x1 x2 x3,54,4⟩) (r := .bool false) (.inr rfl) Try.results68 (by refine Weak.of' rfl ?_;simp only [wks,reduceIte,Nat.reduceEqDiff,ASt.okB,AV.okB,Nat.reduceLT,implies_true,hpS,gpC,List.map_cons,List.map_nil]) rfl ?_ ?_;(focus (simp only [ares,aresL,ares1,simprocAttr,implies_true,amz,tys,];done)));exact QS.no' hn l1 l2 l3;done)
            | fail
        | some t =>
          have hy:addP s e=some { t with ev:=wI (t.ev + 1) }:=by simp [addP,hno',ho]
          rw [ho] at hc
          rw [hpe] at hop hc ⊢
          simp only [evA,evC,List.map_cons,List.map_nil] at hv hc ⊢
          refine MemC.of Try.func68 rfl 54 rfl (by decide) ?_;simp only [startM,frOf]
          repeat' (first|refine T.seqK fun K hK=>?_|refine T.block ?_|(refine T.reg (by kernel_rfl) fun K' hK'=>?_;simp only [startSt,frOf,List.map_cons,List.map_nil];(repeat' (first|(with_reducible refine WL.fin ?_;refine hK' _ ?_;clear hK' K')|((with_reducible refine WL.step fun K2 hK2=>?_);simp only [simprocAttr,implies_true,amz,tys];(repeat' (first|with_reducible (first|(refine hK2 _ ?_;clear hK2 K2)|refine And.intro ?_ ?_|intro hb) ))))))|refine T.skip ?_|refine T.exit ?_|refine T.condT rfl ?_|refine T.condF rfl ?_|refine T.cond rfl (fun hc=>?_) (fun hc=>?_)|refine T.ret ?_|simp only [ThenA,InBlock,reduceIte,Nat.reduceEqDiff]|((repeat ((fail_if_success (refine hK _ ?_));clear hK K));refine hK _ ?_;clear hK K))
          refine T.drw 23 (by kernel_rfl) (by kernel_rfl) fun K' hK'=>?_;simp only [List.map_cons,List.map_nil];(repeat' (first|(with_reducible refine WL.fin ?_;refine hK' _ ?_;clear hK' K')|(with_reducible refine WD.fin ?_)|((with_reducible first|refine WL.step fun K2 hK2=>?_|refine WD.step fun K2 hK2=>?_);simp only [simprocAttr,implies_true,amz,tys,v2,v3];(repeat' (first|with_reducible (first|(refine hK2 _ ?_;clear hK2 K2)|refine And.intro ?_ ?_|intro hb)|((first|(with_reducible apply callArmO)|(with_reducible apply callArm));case h=>exact CallV.plain (Ent.of Try.func83 (by kernel_rfl) rfl) (hv) (by simp [AV.okB])))))));all_goals ((try simp only [ThenA,InBlock,reduceIte,Nat.reduceEqDiff]);(try ((repeat ((fail_if_success (refine hK _ ?_));clear hK K));refine hK _ ?_;clear hK K)))
          all_goals (repeat' (first|refine T.seqK fun K hK=>?_|refine T.block ?_|(refine T.reg (by kernel_rfl) fun K' hK'=>?_;simp only [startSt,frOf,List.map_cons,List.map_nil];(repeat' (first|(with_reducible refine WL.fin ?_;refine hK' _ ?_;clear hK' K')|((with_reducible refine WL.step fun K2 hK2=>?_);simp only [simprocAttr,implies_true,amz,tys];(repeat' (first|with_reducible (first|(refine hK2 _ ?_;clear hK2 K2)|refine And.intro ?_ ?_|intro hb)|((with_reducible refine callArmM 4 _ _ [0] (Ent.of Try.func69 (by kernel_rfl) rfl) (hop) ?_ ?_ ?_);(focus ((refine ⟨Nat.le_of_ble_eq_true rfl,?_,?_⟩ <;> simp only [List.mem_cons,List.not_mem_nil,or_false,forall_eq_or_imp,forall_eq,lk_cons,lk_nil,reduceIte,Nat.reduceEqDiff,AO.okB_box,AO.okB_row,AO.okB_map,AO.okB_raw,AV.okB,AV.okB_agg,AV.okB_fn,AV.okB_tup,List.all_cons,List.all_nil,Bool.and_true,Bool.and_self,Nat.reduceLT,decide_true,true_and,and_true,Option.isSome_some,true_implies,false_implies,implies_true,and_self,Nat.lt_irrefl,Option.some.injEq,]);done));(focus (simp [AV.okB];done));rintro hp' r ⟨rfl,rfl⟩;refine ⟨by simp [Kept,lk_cons,AO.handle],?_⟩;simp only [ASt.callM,AV.keep_own,AV.keep_ptr,AV.keep_rptr,AV.keep_pre,AV.keep_p,AV.keep_elt,AV.keep_junk,AV.keep_cap0,AV.keep_fn,AV.keep_agg,AV.keep_tup,AO.keep,List.map_cons,List.map_nil,List.filter_cons,List.filter_nil,Nat.reduceLeDiff,decide_true,decide_false,reduceIte,Bool.false_eq_true,List.cons_append,List.nil_append,List.mem_cons,List.not_mem_nil,or_false,false_or,or_true,true_or,Nat.reduceEqDiff,put_some,put_none,Nat.le_refl,])|((first|(with_reducible apply callArmO)|(with_reducible apply callArm));case h=>exact CallV.plain (Ent.of Try.func85 (by kernel_rfl) rfl) (hch) (by simp [AV.okB]))|((with_reducible refine callArmM 4 _ _ [0] (Ent.of Try.func87 (by kernel_rfl) rfl) (hc) ?_ ?_ ?_);(focus ((refine ⟨Nat.le_of_ble_eq_true rfl,?_,?_⟩ <;> simp only [List.mem_cons,List.not_mem_nil,or_false,forall_eq_or_imp,forall_eq,lk_cons,lk_nil,reduceIte,Nat.reduceEqDiff,AO.okB_box,AO.okB_row,AO.okB_map,AO.okB_raw,AV.okB,AV.okB_agg,AV.okB_fn,AV.okB_tup,List.all_cons,List.all_nil,Bool.and_true,Bool.and_self,Nat.reduceLT,decide_true,true_and,and_true,Option.isSome_some,true_implies,false_implies,implies_true,and_self,Nat.lt_irrefl,Option.some.injEq,]);done));(focus (simp [AV.okB];done));rintro hp' r ⟨rfl,x1,x2,x3,l1,l2,l3,rfl⟩;refine ⟨by simp [Kept,hpS,lk_cons,AO.handle],?_⟩;simp only [Option.getD_none,Option.getD_some,Option.isSome_none,Option.isSome_some,hpS,gpC];simp only [ASt.callM,AV.keep_own,AV.keep_ptr,AV.keep_rptr,AV.keep_pre,AV.keep_p,AV.keep_elt,AV.keep_junk,AV.keep_cap0,AV.keep_fn,AV.keep_agg,AV.keep_tup,AO.keep,List.map_cons,List.map_nil,List.filter_cons,List.filter_nil,Nat.reduceLeDiff,decide_true,decide_false,reduceIte,Bool.false_eq_true,List.cons_append,List.nil_append,List.mem_cons,List.not_mem_nil,or_false,false_or,or_true,true_or,Nat.reduceEqDiff,put_some,put_none,Nat.le_refl,])))))))|refine T.skip ?_|refine T.exit ?_|refine T.condT rfl ?_|refine T.condF rfl ?_|refine T.cond rfl (fun hc=>?_) (fun hc=>?_)|refine T.ret ?_|simp only [ThenA,InBlock,reduceIte,Nat.reduceEqDiff]|((repeat ((fail_if_success (refine hK _ ?_));clear hK K));refine hK _ ?_;clear hK K)))
          all_goals first
            | ((refine FinM.ret (s':=⟨[(4,.bool true)],hpS b { t with ev:=wI (t.ev + 1) } x1 x2 x3,54,4⟩) (r := .bool true) (.inr rfl) Try.results68 (by refine Weak.of' rfl ?_;simp only [wks,reduceIte,Nat.reduceEqDiff,ASt.okB,AV.okB,Nat.reduceLT,implies_true,hpS,gpC,List.map_cons,List.map_nil]) rfl ?_ ?_;(focus (simp only [ares,aresL,ares1,simprocAttr,implies_true,amz,tys,];done)));exact QS.yes _ x1 x2 x3 hy l1 l2 l3;done)
            | fail
end Go.Proofs.Ytnckehomadnhoaa
namespace Go.Proofs.Ytnckehomadnhoaa
open Go.RowKit Go.Sort Go.Maps
set_option linter.unusedSimpArgs false
set_option linter.unusedVariables false
def goQ (s:Ps) (k:Int):List Ev→Int
  | []=>k
  | e :: r=>match addP s e with
    | some t=>goQ t (k + 1) r
    | none=>k
theorem goQ_le : ∀ (l:List Ev) (s:Ps) (k:Int),goQ s k l≤k + l.length∧(goQ s k l=k + l.length↔goP s l=true)
  | [],s,k=>by simp [goQ,goP]
  | e :: r,s,k=>by
    unfold goQ goP
    cases h:addP s e with
    | none=>simp;omega
    | some t =>
      obtain ⟨h1,h2⟩:=goQ_le r t (k + 1)
      simp only [List.length_cons]
      refine ⟨by omega,?_⟩
      rw [← h2]
      constructor <;> intro h3 <;> omega
set_option maxHeartbeats 8000000 in
set_option maxRecDepth 100000 in
theorem follow_ok (l:List Ev) (hl:l.length ≤ 100000):PureC Try.prog 51 [.p (.seq 9 (l.map evC))] (.tup [.junk,.int (goQ ps0 0 l),.junk]):=by
  refine PureC.of Try.func51 rfl 28 rfl (by decide) (by simp [AV.okB]) ?_
  repeat' (first|refine T.seqK fun K hK=>?_|refine T.block ?_|refine T.skip ?_|refine T.exit ?_|refine T.condT rfl ?_|refine T.condF rfl ?_|refine T.cond rfl (fun hc=>?_) (fun hc=>?_)|refine T.ret ?_|simp only [ThenA,InBlock,reduceIte,Nat.reduceEqDiff]|((repeat ((fail_if_success (refine hK _ ?_));clear hK K));refine hK _ ?_;clear hK K))
  (refine T.reg (by kernel_rfl) fun K' hK'=>?_;simp only [startSt,frOf,List.map_cons,List.map_nil];(repeat' (first|(with_reducible refine WL.fin ?_;refine hK' _ ?_;clear hK' K')|((with_reducible refine WL.step fun K2 hK2=>?_);simp only [simprocAttr,implies_true,amz,tys];(repeat' (first|with_reducible (first|(refine hK2 _ ?_;clear hK2 K2)|refine And.intro ?_ ?_|intro hb) )))));all_goals ((try simp only [ThenA,InBlock,reduceIte,Nat.reduceEqDiff]);(try ((repeat ((fail_if_success (refine hK _ ?_));clear hK K));refine hK _ ?_;clear hK K))))
  refine T.weak (Weak.upN _ 4 (Nat.le_of_ble_eq_true rfl)) ?_
  repeat' (first|refine T.seqK fun K hK=>?_|refine T.block ?_|(refine T.reg (by kernel_rfl) fun K' hK'=>?_;simp only [startSt,frOf,List.map_cons,List.map_nil];(repeat' (first|(with_reducible refine WL.fin ?_;refine hK' _ ?_;clear hK' K')|((with_reducible refine WL.step fun K2 hK2=>?_);simp only [simprocAttr,implies_true,amz,tys];(repeat' (first|with_reducible (first|(refine hK2 _ ?_;clear hK2 K2)|refine And.intro ?_ ?_|intro hb)|((with_reducible refine callArmM 4 [] _ [] (Ent.of Try.func67 (by kernel_rfl) rfl) newS_ok ?_ ?_ ?_);(focus ((refine ⟨Nat.le_of_ble_eq_true rfl,?_,?_⟩ <;> simp only [List.mem_cons,List.not_mem_nil,or_false,forall_eq_or_imp,forall_eq,lk_cons,lk_nil,reduceIte,Nat.reduceEqDiff,AO.okB_box,AO.okB_row,AO.okB_map,AO.okB_raw,AV.okB,AV.okB_agg,AV.okB_fn,AV.okB_tup,List.all_cons,List.all_nil,Bool.and_true,Bool.and_self,Nat.reduceLT,decide_true,true_and,and_true,Option.isSome_some,true_implies,false_implies,implies_true,and_self,Nat.lt_irrefl,Option.some.injEq,]);done));(focus (simp [AV.okB];done));rintro hp' r ⟨b,rfl,rfl⟩;refine ⟨by simp,?_⟩;simp only [ASt.callM,AV.keep_own,AV.keep_ptr,AV.keep_rptr,AV.keep_pre,AV.keep_p,AV.keep_elt,AV.keep_junk,AV.keep_cap0,AV.keep_fn,AV.keep_agg,AV.keep_tup,AO.keep,List.map_cons,List.map_nil,List.filter_cons,List.filter_nil,Nat.reduceLeDiff,decide_true,decide_false,reduceIte,Bool.false_eq_true,List.cons_append,List.nil_append,List.mem_cons,List.not_mem_nil,or_false,false_or,or_true,true_or,Nat.reduceEqDiff,put_some,put_none,Nat.le_refl,hpS,gpC])))))))|refine T.skip ?_|refine T.exit ?_|refine T.condT rfl ?_|refine T.condF rfl ?_|refine T.cond rfl (fun hc=>?_) (fun hc=>?_)|refine T.ret ?_|simp only [ThenA,InBlock,reduceIte,Nat.reduceEqDiff]|((repeat ((fail_if_success (refine hK _ ?_));clear hK K));refine hK _ ?_;clear hK K))
  refine T.loopK (fun p:Nat × Ps × Nat × Nat × Nat × Int=>⟨[(0,.p (.seq 9 (l.map evC))),(2,.ptr 0 0),(3,.int p.1),(4,.int p.2.2.2.2.2)],hpS b p.2.1 p.2.2.1 p.2.2.2.1 p.2.2.2.2.1,28,4⟩) (fun p=>p.1≤l.length∧p.2.2.1 ≤ 2 * p.1∧p.2.2.2.1 ≤ 2 * p.1∧p.2.2.2.2.1 ≤ 2 * p.1∧goQ ps0 0 l=goQ p.2.1 p.1 (l.drop p.1)) (fun p=>l.length - p.1) (0,ps0,0,0,0,0) ⟨Nat.zero_le _,by simp,by simp,by simp,rfl⟩ (by refine Weak.of' rfl ?_;simp only [wks,reduceIte,Nat.reduceEqDiff,ASt.okB,AV.okB,Nat.reduceLT,implies_true,Int.natCast_zero,hpS,gpC,List.map_cons,List.map_nil]) ?_
  rintro ⟨k,s,a1,a2,a3,c⟩ ⟨hk,q1,q2,q3,hn⟩ KL hKL
  simp only at hk q1 q2 q3 hn hKL ⊢
  by_cases hlt:k < l.length
  · obtain ⟨x,hx⟩:=at_lt hlt
    have hd:decide ((k:Int) < (l.length:Int))=true:=by simpa using hlt
    rw [drop_at hx,goQ] at hn
    have hc:=addS_ok b s a1 a2 a3 x (by omega) (by omega) (by omega)
    cases ha:addP s x with
    | none =>
      rw [ha] at hc hn
      simp only [evA,evC,List.map_cons,List.map_nil] at hc
      simp only [hpS,gpC]
      repeat' (first|refine T.seqK fun K hK=>?_|refine T.block ?_|(refine T.reg (by kernel_rfl) fun K' hK'=>?_;simp only [startSt,frOf,List.map_cons,List.map_nil];(repeat' (first|(with_reducible refine WL.fin ?_;refine hK' _ ?_;clear hK' K')|((with_reducible refine WL.step fun K2 hK2=>?_);simp only [simprocAttr,implies_true,amz,tys,hx,hd,evC];(repeat' (first|with_reducible (first|(refine hK2 _ ?_;clear hK2 K2)|refine And.intro ?_ ?_|intro hb)|((with_reducible refine callArmM 4 _ _ [0] (Ent.of Try.func68 (by kernel_rfl) rfl) (hc) ?_ ?_ ?_);(focus ((refine ⟨Nat.le_of_ble_eq_true rfl,?_,?_⟩ <;> simp only [List.mem_cons,List.not_mem_nil,or_false,forall_eq_or_imp,forall_eq,lk_cons,lk_nil,reduceIte,Nat.reduceEqDiff,AO.okB_box,AO.okB_row,AO.okB_map,AO.okB_raw,AV.okB,AV.okB_agg,AV.okB_fn,AV.okB_tup,List.all_cons,List.all_nil,Bool.and_true,Bool.and_self,Nat.reduceLT,decide_true,true_and,and_true,Option.isSome_some,true_implies,false_implies,implies_true,and_self,Nat.lt_irrefl,Option.some.injEq,hpS,gpC]);done));(focus (simp [AV.okB];done));rintro hp' r ⟨rfl,x1,x2,x3,l1,l2,l3,rfl⟩;refine ⟨by simp [Kept,hpS,lk_cons,AO.handle],?_⟩;simp only [Option.getD_none,Option.getD_some,Option.isSome_none,Option.isSome_some,hpS,gpC];simp only [ASt.callM,AV.keep_own,AV.keep_ptr,AV.keep_rptr,AV.keep_pre,AV.keep_p,AV.keep_elt,AV.keep_junk,AV.keep_cap0,AV.keep_fn,AV.keep_agg,AV.keep_tup,AO.keep,List.map_cons,List.map_nil,List.filter_cons,List.filter_nil,Nat.reduceLeDiff,decide_true,decide_false,reduceIte,Bool.false_eq_true,List.cons_append,List.nil_append,List.mem_cons,List.not_mem_nil,or_false,false_or,or_true,true_or,Nat.reduceEqDiff,put_some,put_none,Nat.le_refl,])))))))|refine T.skip ?_|refine T.exit ?_|refine T.condT rfl ?_|refine T.condF rfl ?_|refine T.cond rfl (fun hc=>?_) (fun hc=>?_)|refine T.ret ?_|simp only [ThenA,InBlock,reduceIte,Nat.reduceEqDiff]|((repeat ((fail_if_success (refine hK _ ?_));clear hK K));refine hK _ ?_;clear hK K))
      all_goals (refine FinA.retW (.inr rfl) Try.results51 (s':=⟨[(2,.junk),(3,.int k),(4,.junk)],[],28,4⟩) (by refine Weak.of' rfl ?_;simp only [wks,reduceIte,Nat.reduceEqDiff,ASt.okB,AV.okB,Nat.reduceLT,implies_true,]) ?_;simp only [ares,aresL,ares1,simprocAttr,implies_true,amz,tys];rw [hn])
    | some t =>
      rw [ha] at hc hn
      simp only [evA,evC,List.map_cons,List.map_nil] at hc
      simp only [hpS,gpC]
      repeat' (first|refine T.seqK fun K hK=>?_|refine T.block ?_|(refine T.reg (by kernel_rfl) fun K' hK'=>?_;simp only [startSt,frOf,List.map_cons,List.map_nil];(repeat' (first|(with_reducible refine WL.fin ?_;refine hK' _ ?_;clear hK' K')|((with_reducible refine WL.step fun K2 hK2=>?_);simp only [simprocAttr,implies_true,amz,tys,hx,hd,evC];(repeat' (first|with_reducible (first|(refine hK2 _ ?_;clear hK2 K2)|refine And.intro ?_ ?_|intro hb)|((with_reducible refine callArmM 4 _ _ [0] (Ent.of Try.func68 (by kernel_rfl) rfl) (hc) ?_ ?_ ?_);(focus ((refine ⟨Nat.le_of_ble_eq_true rfl,?_,?_⟩ <;> simp only [List.mem_cons,List.not_mem_nil,or_false,forall_eq_or_imp,forall_eq,lk_cons,lk_nil,reduceIte,Nat.reduceEqDiff,AO.okB_box,AO.okB_row,AO.okB_map,AO.okB_raw,AV.okB,AV.okB_agg,AV.okB_fn,AV.okB_tup,List.all_cons,List.all_nil,Bool.and_true,Bool.and_self,Nat.reduceLT,decide_true,true_and,and_true,Option.isSome_some,true_implies,false_implies,implies_true,and_self,Nat.lt_irrefl,Option.some.injEq,hpS,gpC]);done));(focus (simp [AV.okB];done));rintro hp' r ⟨rfl,x1,x2,x3,l1,l2,l3,rfl⟩;refine ⟨by simp [Kept,hpS,lk_cons,AO.handle],?_⟩;simp only [Option.getD_none,Option.getD_some,Option.isSome_none,Option.isSome_some,hpS,gpC];simp only [ASt.callM,AV.keep_own,AV.keep_ptr,AV.keep_rptr,AV.keep_pre,AV.keep_p,AV.keep_elt,AV.keep_junk,AV.keep_cap0,AV.keep_fn,AV.keep_agg,AV.keep_tup,AO.keep,List.map_cons,List.map_nil,List.filter_cons,List.filter_nil,Nat.reduceLeDiff,decide_true,decide_false,reduceIte,Bool.false_eq_true,List.cons_append,List.nil_append,List.mem_cons,List.not_mem_nil,or_false,false_or,or_true,true_or,Nat.reduceEqDiff,put_some,put_none,Nat.le_refl,])|((with_reducible refine callArmM 4 _ _ [0] (Ent.of Try.func69 (by kernel_rfl) rfl) ((open_ok b t x1 x2 x3)) ?_ ?_ ?_);(focus ((refine ⟨Nat.le_of_ble_eq_true rfl,?_,?_⟩ <;> simp only [List.mem_cons,List.not_mem_nil,or_false,forall_eq_or_imp,forall_eq,lk_cons,lk_nil,reduceIte,Nat.reduceEqDiff,AO.okB_box,AO.okB_row,AO.okB_map,AO.okB_raw,AV.okB,AV.okB_agg,AV.okB_fn,AV.okB_tup,List.all_cons,List.all_nil,Bool.and_true,Bool.and_self,Nat.reduceLT,decide_true,true_and,and_true,Option.isSome_some,true_implies,false_implies,implies_true,and_self,Nat.lt_irrefl,Option.some.injEq,hpS,gpC]);done));(focus (simp [AV.okB];done));rintro hp' r ⟨rfl,rfl⟩;refine ⟨by simp [Kept,hpS,lk_cons,AO.handle],?_⟩;simp only [hpS,gpC];simp only [ASt.callM,AV.keep_own,AV.keep_ptr,AV.keep_rptr,AV.keep_pre,AV.keep_p,AV.keep_elt,AV.keep_junk,AV.keep_cap0,AV.keep_fn,AV.keep_agg,AV.keep_tup,AO.keep,List.map_cons,List.map_nil,List.filter_cons,List.filter_nil,Nat.reduceLeDiff,decide_true,decide_false,reduceIte,Bool.false_eq_true,List.cons_append,List.nil_append,List.mem_cons,List.not_mem_nil,or_false,false_or,or_true,true_or,Nat.reduceEqDiff,put_some,put_none,Nat.le_refl,])))))))|refine T.skip ?_|refine T.exit ?_|refine T.condT rfl ?_|refine T.condF rfl ?_|refine T.cond rfl (fun hc=>?_) (fun hc=>?_)|refine T.ret ?_|simp only [ThenA,InBlock,reduceIte,Nat.reduceEqDiff]|((repeat ((fail_if_success (refine hK _ ?_));clear hK K));refine hK _ ?_;clear hK K))
      · refine hKL _ (k + 1,t,x1,x2,x3,((k + 1:Nat):Int)) (by refine Weak.of' rfl ?_;simp only [wks,reduceIte,Nat.reduceEqDiff,ASt.okB,AV.okB,Nat.reduceLT,implies_true,wrap_succ (show k < 1152921504606846976 by omega),hpS,gpC,List.map_cons,List.map_nil]) ⟨?_,?_,?_,?_,?_⟩ ?_ <;> simp only [] <;> first|omega|(rw [hn];rfl)
      · refine hKL _ (k + 1,t,x1,x2,x3,c) (by refine Weak.of' rfl ?_;simp only [wks,reduceIte,Nat.reduceEqDiff,ASt.okB,AV.okB,Nat.reduceLT,implies_true,wrap_succ (show k < 1152921504606846976 by omega),hpS,gpC,List.map_cons,List.map_nil]) ⟨?_,?_,?_,?_,?_⟩ ?_ <;> simp only [] <;> first|omega|(rw [hn];rfl)
  · have hd:decide ((k:Int) < (l.length:Int))=false:=by simpa using hlt
    simp only [hpS,gpC]
    repeat' (first|refine T.seqK fun K hK=>?_|refine T.block ?_|(refine T.reg (by kernel_rfl) fun K' hK'=>?_;simp only [startSt,frOf,List.map_cons,List.map_nil];(repeat' (first|(with_reducible refine WL.fin ?_;refine hK' _ ?_;clear hK' K')|((with_reducible refine WL.step fun K2 hK2=>?_);simp only [simprocAttr,implies_true,amz,tys,hd];(repeat' (first|with_reducible (first|(refine hK2 _ ?_;clear hK2 K2)|refine And.intro ?_ ?_|intro hb) ))))))|refine T.skip ?_|refine T.exit ?_|refine T.condT rfl ?_|refine T.condF rfl ?_|refine T.cond rfl (fun hc=>?_) (fun hc=>?_)|refine T.ret ?_|simp only [ThenA,InBlock,reduceIte,Nat.reduceEqDiff]|((repeat ((fail_if_success (refine hK _ ?_));clear hK K));refine hK _ ?_;clear hK K))
    rw [drop_end hlt,goQ] at hn
    refine FinA.retW (.inr rfl) Try.results51 (s':=⟨[(2,.junk),(3,.int k),(4,.junk)],[],28,4⟩) (by refine Weak.of' rfl ?_;simp only [wks,reduceIte,Nat.reduceEqDiff,ASt.okB,AV.okB,Nat.reduceLT,implies_true,]) ?_;simp only [ares,aresL,ares1,simprocAttr,implies_true,amz,tys];rw [hn]
set_option maxHeartbeats 8000000 in
set_option maxRecDepth 100000 in
theorem check_t (l:List Ev) (hl:l.length ≤ 100000):PureC Try.prog 40 [.p (.seq 9 (l.map evC))] (.tup [.int (goQ ps0 0 l),.bool (goQ ps0 0 l == (l.length:Int))]):=by
  refine PureC.of Try.func40 rfl 18 rfl (by decide) (by simp [AV.okB]) ?_
  repeat' (first|refine T.seqK fun K hK=>?_|refine T.block ?_|(refine T.reg (by kernel_rfl) fun K' hK'=>?_;simp only [startSt,frOf,List.map_cons,List.map_nil];(repeat' (first|(with_reducible refine WL.fin ?_;refine hK' _ ?_;clear hK' K')|((with_reducible refine WL.step fun K2 hK2=>?_);simp only [simprocAttr,implies_true,amz,tys];(repeat' (first|with_reducible (first|(refine hK2 _ ?_;clear hK2 K2)|refine And.intro ?_ ?_|intro hb)|((first|(with_reducible apply callArmO)|(with_reducible apply callArm));case h=>exact CallV.plain (Ent.of Try.func51 (by kernel_rfl) rfl) (follow_ok l hl) (by simp [AV.okB]))))))))|refine T.skip ?_|refine T.exit ?_|refine T.condT rfl ?_|refine T.condF rfl ?_|refine T.cond rfl (fun hc=>?_) (fun hc=>?_)|refine T.ret ?_|simp only [ThenA,InBlock,reduceIte,Nat.reduceEqDiff]|((repeat ((fail_if_success (refine hK _ ?_));clear hK K));refine hK _ ?_;clear hK K))
  all_goals (refine FinA.ret (.inr rfl) Try.results40 ?_;simp only [ares,aresL,ares1,simprocAttr,implies_true,amz,tys,])
set_option maxHeartbeats 8000000 in
set_option maxRecDepth 100000 in
theorem valid_t (l:List Ev) (hl:l.length ≤ 100000):PureC Try.prog 28 [.p (.seq 9 (l.map evC))] (.bool (checkB l).2):=by
  have he:(goQ ps0 0 l == (l.length:Int))=(checkB l).2:=by
    rw [← trace_eq]
    have h:=(goQ_le l ps0 0).2
    rw [Int.zero_add] at h
    cases hg:goP ps0 l with
    | true=>simpa using h.2 hg
    | false =>
      simp only [beq_eq_false_iff_ne,ne_eq]
      intro e
      rw [h.1 e] at hg
      cases hg
  refine PureC.of Try.func28 rfl 11 rfl (by decide) (by simp [AV.okB]) ?_
  repeat' (first|refine T.seqK fun K hK=>?_|refine T.block ?_|(refine T.reg (by kernel_rfl) fun K' hK'=>?_;simp only [startSt,frOf,List.map_cons,List.map_nil];(repeat' (first|(with_reducible refine WL.fin ?_;refine hK' _ ?_;clear hK' K')|((with_reducible refine WL.step fun K2 hK2=>?_);simp only [simprocAttr,implies_true,amz,tys];(repeat' (first|with_reducible (first|(refine hK2 _ ?_;clear hK2 K2)|refine And.intro ?_ ?_|intro hb)|((first|(with_reducible apply callArmO)|(with_reducible apply callArm));case h=>exact CallV.plain (Ent.of Try.func40 (by kernel_rfl) rfl) (check_t l hl) (by simp [AV.okB]))))))))|refine T.skip ?_|refine T.exit ?_|refine T.condT rfl ?_|refine T.condF rfl ?_|refine T.cond rfl (fun hc=>?_) (fun hc=>?_)|refine T.ret ?_|simp only [ThenA,InBlock,reduceIte,Nat.reduceEqDiff]|((repeat ((fail_if_success (refine hK _ ?_));clear hK K));refine hK _ ?_;clear hK K))
  all_goals (refine FinA.ret (.inr rfl) Try.results28 ?_;simp only [ares,aresL,ares1,simprocAttr,implies_true,amz,tys,];rw [he])
end Go.Proofs.Ytnckehomadnhoaa
namespace Go.Proofs.Ytnckehomadnhoaa
open Go.RowKit Go.Sort Go.Maps
set_option linter.unusedSimpArgs false
set_option linter.unusedVariables false
def EvI (l:List Ev):Prop := ∀ e ∈ l,inI e.g∧inI e.obj∧inI e.off∧(e.kind=14→inI e.k)
theorem goP_valid : ∀ (l:List Ev) (s:Ps),goP s l=true → ∀ e ∈ l,validB e=true
  | [],s,_,e,h=>by cases h
  | x :: r,s,hg,e,h=>by
    rw [goP] at hg
    cases ha:addP s x with
    | none=>rw [ha] at hg;cases hg
    | some t =>
      rw [ha] at hg
      rcases List.mem_cons.1 h with rfl|h
      · unfold addP at ha
        split at ha
        · cases ha
        · rename_i hn
          simp only [noAddP,Bool.or_eq_true,Bool.not_eq_true'] at hn
          cases hv:validB e with
          | true=>rfl
          | false=>exact absurd (.inl (.inl hv)) hn
      · exact goP_valid r t hg e h
theorem validB_I {e:Ev} (h:validB e=true):inI e.g∧inI e.obj∧inI e.off∧inI e.k:=by
  have h1:=validB_ok h
  simp only [validB,fldsB,List.all_cons,okF,begsB,Bool.and_eq_true,Bool.not_eq_true',Bool.or_eq_false_iff,decide_eq_false_iff_not] at h
  obtain ⟨⟨⟨g1,g2⟩,_⟩,⟨_,_,⟨k1,k2⟩,_⟩,_⟩:=h
  exact ⟨⟨by omega,by omega⟩,h1.o,h1.f,by omega,by omega⟩
theorem evI_of {l:List Ev} (h:(checkB l).2=true):EvI l:=fun e he=>by
  rw [← trace_eq] at h
  obtain ⟨h1,h2,h3,h4⟩:=validB_I (goP_valid l ps0 h e he)
  exact ⟨h1,h2,h3,fun _=>h4⟩
def cnM (l:List Ev):Nat→Nat→Bool:=fC (relsU l l.length)
def befO (l:List Ev) (i j:Int):Bool := !(decide (i < 0)) && !(decide (j < 0)) && !(decide (j≤i)) && !(decide ((l.length:Int)≤j)) && (checkB l).2 && cnM l j.toNat i.toNat
set_option maxHeartbeats 16000000 in
set_option maxRecDepth 100000 in
theorem before_ok (l:List Ev) (hl:l.length ≤ 100000) (i j:Int):PureC Try.prog 16 [.p (.seq 9 (l.map evC)),.int i,.int j] (.bool (befO l i j)):=by
  have hv:=valid_t l hl
  cases h1:decide (i < 0) with
  | true =>
    refine PureC.of Try.func16 rfl 37 rfl (by decide) (by simp [AV.okB]) ?_
    repeat' (first|refine T.seqK fun K hK=>?_|refine T.block ?_|(refine T.reg (by kernel_rfl) fun K' hK'=>?_;simp only [startSt,frOf,List.map_cons,List.map_nil];(repeat' (first|(with_reducible refine WL.fin ?_;refine hK' _ ?_;clear hK' K')|((with_reducible refine WL.step fun K2 hK2=>?_);simp only [simprocAttr,implies_true,amz,tys,h1];(repeat' (first|with_reducible (first|(refine hK2 _ ?_;clear hK2 K2)|refine And.intro ?_ ?_|intro hb) ))))))|refine T.skip ?_|refine T.exit ?_|refine T.condT rfl ?_|refine T.condF rfl ?_|refine T.cond rfl (fun hc=>?_) (fun hc=>?_)|refine T.ret ?_|simp only [ThenA,InBlock,reduceIte,Nat.reduceEqDiff]|((repeat ((fail_if_success (refine hK _ ?_));clear hK K));refine hK _ ?_;clear hK K))
    all_goals (refine FinA.ret (.inr rfl) Try.results16 ?_;simp only [ares,aresL,ares1,simprocAttr,implies_true,amz,tys,];simp [befO,h1])
  | false =>
    cases h2:decide (j < 0) with
    | true =>
      refine PureC.of Try.func16 rfl 37 rfl (by decide) (by simp [AV.okB]) ?_
      repeat' (first|refine T.seqK fun K hK=>?_|refine T.block ?_|(refine T.reg (by kernel_rfl) fun K' hK'=>?_;simp only [startSt,frOf,List.map_cons,List.map_nil];(repeat' (first|(with_reducible refine WL.fin ?_;refine hK' _ ?_;clear hK' K')|((with_reducible refine WL.step fun K2 hK2=>?_);simp only [simprocAttr,implies_true,amz,tys,h1,h2];(repeat' (first|with_reducible (first|(refine hK2 _ ?_;clear hK2 K2)|refine And.intro ?_ ?_|intro hb) ))))))|refine T.skip ?_|refine T.exit ?_|refine T.condT rfl ?_|refine T.condF rfl ?_|refine T.cond rfl (fun hc=>?_) (fun hc=>?_)|refine T.ret ?_|simp only [ThenA,InBlock,reduceIte,Nat.reduceEqDiff]|((repeat ((fail_if_success (refine hK _ ?_));clear hK K));refine hK _ ?_;clear hK K))
      all_goals (refine FinA.ret (.inr rfl) Try.results16 ?_;simp only [ares,aresL,ares1,simprocAttr,implies_true,amz,tys,];simp [befO,h1,h2])
    | false =>
      cases h3:decide (j≤i) with
      | true =>
        refine PureC.of Try.func16 rfl 37 rfl (by decide) (by simp [AV.okB]) ?_
        repeat' (first|refine T.seqK fun K hK=>?_|refine T.block ?_|(refine T.reg (by kernel_rfl) fun K' hK'=>?_;simp only [startSt,frOf,List.map_cons,List.map_nil];(repeat' (first|(with_reducible refine WL.fin ?_;refine hK' _ ?_;clear hK' K')|((with_reducible refine WL.step fun K2 hK2=>?_);simp only [simprocAttr,implies_true,amz,tys,h1,h2,h3];(repeat' (first|with_reducible (first|(refine hK2 _ ?_;clear hK2 K2)|refine And.intro ?_ ?_|intro hb) ))))))|refine T.skip ?_|refine T.exit ?_|refine T.condT rfl ?_|refine T.condF rfl ?_|refine T.cond rfl (fun hc=>?_) (fun hc=>?_)|refine T.ret ?_|simp only [ThenA,InBlock,reduceIte,Nat.reduceEqDiff]|((repeat ((fail_if_success (refine hK _ ?_));clear hK K));refine hK _ ?_;clear hK K))
        all_goals (refine FinA.ret (.inr rfl) Try.results16 ?_;simp only [ares,aresL,ares1,simprocAttr,implies_true,amz,tys,];simp [befO,h3])
      | false =>
        cases h4:decide ((l.length:Int)≤j) with
        | true =>
          refine PureC.of Try.func16 rfl 37 rfl (by decide) (by simp [AV.okB]) ?_
          repeat' (first|refine T.seqK fun K hK=>?_|refine T.block ?_|(refine T.reg (by kernel_rfl) fun K' hK'=>?_;simp only [startSt,frOf,List.map_cons,List.map_nil];(repeat' (first|(with_reducible refine WL.fin ?_;refine hK' _ ?_;clear hK' K')|((with_reducible refine WL.step fun K2 hK2=>?_);simp only [simprocAttr,implies_true,amz,tys,h1,h2,h3,h4];(repeat' (first|with_reducible (first|(refine hK2 _ ?_;clear hK2 K2)|refine And.intro ?_ ?_|intro hb) ))))))|refine T.skip ?_|refine T.exit ?_|refine T.condT rfl ?_|refine T.condF rfl ?_|refine T.cond rfl (fun hc=>?_) (fun hc=>?_)|refine T.ret ?_|simp only [ThenA,InBlock,reduceIte,Nat.reduceEqDiff]|((repeat ((fail_if_success (refine hK _ ?_));clear hK K));refine hK _ ?_;clear hK K))
          all_goals (refine FinA.ret (.inr rfl) Try.results16 ?_;simp only [ares,aresL,ares1,simprocAttr,implies_true,amz,tys,];simp [befO,h4])
        | false =>
          cases h5:(checkB l).2 with
          | false =>
            rw [h5] at hv
            refine PureC.of Try.func16 rfl 37 rfl (by decide) (by simp [AV.okB]) ?_
            repeat' (first|refine T.seqK fun K hK=>?_|refine T.block ?_|(refine T.reg (by kernel_rfl) fun K' hK'=>?_;simp only [startSt,frOf,List.map_cons,List.map_nil];(repeat' (first|(with_reducible refine WL.fin ?_;refine hK' _ ?_;clear hK' K')|((with_reducible refine WL.step fun K2 hK2=>?_);simp only [simprocAttr,implies_true,amz,tys,h1,h2,h3,h4];(repeat' (first|with_reducible (first|(refine hK2 _ ?_;clear hK2 K2)|refine And.intro ?_ ?_|intro hb)|((first|(with_reducible apply callArmO)|(with_reducible apply callArm));case h=>exact CallV.plain (Ent.of Try.func28 (by kernel_rfl) rfl) (hv) (by simp [AV.okB]))))))))|refine T.skip ?_|refine T.exit ?_|refine T.condT rfl ?_|refine T.condF rfl ?_|refine T.cond rfl (fun hc=>?_) (fun hc=>?_)|refine T.ret ?_|simp only [ThenA,InBlock,reduceIte,Nat.reduceEqDiff]|((repeat ((fail_if_success (refine hK _ ?_));clear hK K));refine hK _ ?_;clear hK K))
            all_goals (refine FinA.ret (.inr rfl) Try.results16 ?_;simp only [ares,aresL,ares1,simprocAttr,implies_true,amz,tys,];simp [befO,h5])
          | true =>
            rw [h5] at hv
            have hc:=cones_ok l (by omega) (evI_of h5)
            have hres:befO l i j=cnM l j.toNat i.toNat:=by simp only [befO,h1,h2,h3,h4,h5,Bool.not_false,Bool.true_and]
            rw [hres]
            simp only [decide_eq_false_iff_not] at h1 h2 h3 h4
            obtain ⟨a,rfl⟩ : ∃ a:Nat,i=a:=⟨i.toNat,by omega⟩
            obtain ⟨b,rfl⟩ : ∃ b:Nat,j=b:=⟨j.toNat,by omega⟩
            have hb:b < l.length:=by omega
            have ha:a < b + 1:=by omega
            have m1:=triR_at (fC (relsU l l.length)) hb
            have m2:=rowR_at (fC (relsU l l.length) b) ha
            have d1:decide ((a:Int) < 0)=false:=by simp
            have d2:decide ((b:Int) < 0)=false:=by simp
            have d3:decide ((b:Int)≤(a:Int))=false:=by simp;omega
            have d4:decide ((l.length:Int)≤(b:Int))=false:=by simp;omega
            refine PureC.of Try.func16 rfl 37 rfl (by decide) (by simp [AV.okB]) ?_
            repeat' (first|refine T.seqK fun K hK=>?_|refine T.block ?_|(refine T.reg (by kernel_rfl) fun K' hK'=>?_;simp only [startSt,frOf,List.map_cons,List.map_nil];(repeat' (first|(with_reducible refine WL.fin ?_;refine hK' _ ?_;clear hK' K')|((with_reducible refine WL.step fun K2 hK2=>?_);simp only [simprocAttr,implies_true,amz,tys,d1,d2,d3,d4,m1,m2,bvC];(repeat' (first|with_reducible (first|(refine hK2 _ ?_;clear hK2 K2)|refine And.intro ?_ ?_|intro hb)|((first|(with_reducible apply callArmO)|(with_reducible apply callArm));case h=>exact CallV.plain (Ent.of Try.func28 (by kernel_rfl) rfl) (hv) (by simp [AV.okB]))|((first|(with_reducible apply callArmO)|(with_reducible apply callArm));case h=>exact CallV.plain (Ent.of Try.func36 (by kernel_rfl) rfl) (hc) (by simp [AV.okB]))))))))|refine T.skip ?_|refine T.exit ?_|refine T.condT rfl ?_|refine T.condF rfl ?_|refine T.cond rfl (fun hc=>?_) (fun hc=>?_)|refine T.ret ?_|simp only [ThenA,InBlock,reduceIte,Nat.reduceEqDiff]|((repeat ((fail_if_success (refine hK _ ?_));clear hK K));refine hK _ ?_;clear hK K))
            all_goals (refine FinA.ret (.inr rfl) Try.results16 ?_;simp only [ares,aresL,ares1,simprocAttr,implies_true,amz,tys,])
            simp [cnM]
def rgF (p:Nat→Bool) (k:Nat):List Nat:=(List.range k).filter p
theorem rgF_zero (p:Nat→Bool):rgF p 0 = []:=rfl
theorem rgF_succ (p:Nat→Bool) (k:Nat):rgF p (k + 1)=rgF p k ++ if p k then [k] else []:=by
  unfold rgF
  rw [List.range_succ,List.filter_append];simp only [List.filter_cons,List.filter_nil]
theorem rgF_len (p:Nat→Bool) (k:Nat):(rgF p k).length≤k:=by
  have:=List.length_filter_le p (List.range k)
  rwa [List.length_range] at this
def coneB (l:List Ev) (j:Nat):List Nat:=rgF (cnM l j) (j + 1)
def coneO (l:List Ev) (j:Int):List Nat:=if !(decide (j < 0)) && !(decide ((l.length:Int)≤j)) && (checkB l).2 then coneB l j.toNat else []
theorem nilI:rowI [] = []:=rfl
set_option maxHeartbeats 16000000 in
set_option maxRecDepth 100000 in
theorem cone_ok (l:List Ev) (hl:l.length ≤ 100000) (j:Int):PureC Try.prog 21 [.p (.seq 9 (l.map evC)),.int j] (.p (.seq 1 (rowI (coneO l j)))):=by
  have hv:=valid_t l hl
  have hnil : ∀ s:ASt,s.get 4 = .p (.val (.slice none 0 0))→coneO l j = []→s.n=39→FinA Try.prog Try.f21 (.p (.seq 1 (rowI (coneO l j)))) .ret s:=fun s hs hc hn=>by
    refine FinA.retW (.inr rfl) Try.results21 (s':=⟨[(4,.p (.seq 1 []))],[],39,0⟩) (Weak.of' hn.symm ⟨fun p hp=>?_,fun p hp=>(by cases hp),by simp [ASt.okB,AV.okB]⟩) ?_
    · rw [List.mem_singleton.1 hp];simp only [hs];exact AVle.nil 1
    · rw [hc];simp only [ares,aresL,ares1,nilI,simprocAttr,implies_true,amz,tys]
  cases h2:decide (j < 0) with
  | true =>
    refine PureC.of Try.func21 rfl 39 rfl (by decide) (by simp [AV.okB]) ?_
    repeat' (first|refine T.seqK fun K hK=>?_|refine T.block ?_|(refine T.reg (by kernel_rfl) fun K' hK'=>?_;simp only [startSt,frOf,List.map_cons,List.map_nil];(repeat' (first|(with_reducible refine WL.fin ?_;refine hK' _ ?_;clear hK' K')|((with_reducible refine WL.step fun K2 hK2=>?_);simp only [simprocAttr,implies_true,amz,tys,h2];(repeat' (first|with_reducible (first|(refine hK2 _ ?_;clear hK2 K2)|refine And.intro ?_ ?_|intro hb) ))))))|refine T.skip ?_|refine T.exit ?_|refine T.condT rfl ?_|refine T.condF rfl ?_|refine T.cond rfl (fun hc=>?_) (fun hc=>?_)|refine T.ret ?_|simp only [ThenA,InBlock,reduceIte,Nat.reduceEqDiff]|((repeat ((fail_if_success (refine hK _ ?_));clear hK K));refine hK _ ?_;clear hK K))
    all_goals exact hnil _ rfl (by simp [coneO,h2]) rfl
  | false =>
    cases h4:decide ((l.length:Int)≤j) with
    | true =>
      refine PureC.of Try.func21 rfl 39 rfl (by decide) (by simp [AV.okB]) ?_
      repeat' (first|refine T.seqK fun K hK=>?_|refine T.block ?_|(refine T.reg (by kernel_rfl) fun K' hK'=>?_;simp only [startSt,frOf,List.map_cons,List.map_nil];(repeat' (first|(with_reducible refine WL.fin ?_;refine hK' _ ?_;clear hK' K')|((with_reducible refine WL.step fun K2 hK2=>?_);simp only [simprocAttr,implies_true,amz,tys,h2,h4];(repeat' (first|with_reducible (first|(refine hK2 _ ?_;clear hK2 K2)|refine And.intro ?_ ?_|intro hb) ))))))|refine T.skip ?_|refine T.exit ?_|refine T.condT rfl ?_|refine T.condF rfl ?_|refine T.cond rfl (fun hc=>?_) (fun hc=>?_)|refine T.ret ?_|simp only [ThenA,InBlock,reduceIte,Nat.reduceEqDiff]|((repeat ((fail_if_success (refine hK _ ?_));clear hK K));refine hK _ ?_;clear hK K))
      all_goals exact hnil _ rfl (by simp [coneO,h4]) rfl
    | false =>
      cases h5:(checkB l).2 with
      | false =>
        rw [h5] at hv
        refine PureC.of Try.func21 rfl 39 rfl (by decide) (by simp [AV.okB]) ?_
        repeat' (first|refine T.seqK fun K hK=>?_|refine T.block ?_|(refine T.reg (by kernel_rfl) fun K' hK'=>?_;simp only [startSt,frOf,List.map_cons,List.map_nil];(repeat' (first|(with_reducible refine WL.fin ?_;refine hK' _ ?_;clear hK' K')|((with_reducible refine WL.step fun K2 hK2=>?_);simp only [simprocAttr,implies_true,amz,tys,h2,h4];(repeat' (first|with_reducible (first|(refine hK2 _ ?_;clear hK2 K2)|refine And.intro ?_ ?_|intro hb)|((first|(with_reducible apply callArmO)|(with_reducible apply callArm));case h=>exact CallV.plain (Ent.of Try.func28 (by kernel_rfl) rfl) (hv) (by simp [AV.okB]))))))))|refine T.skip ?_|refine T.exit ?_|refine T.condT rfl ?_|refine T.condF rfl ?_|refine T.cond rfl (fun hc=>?_) (fun hc=>?_)|refine T.ret ?_|simp only [ThenA,InBlock,reduceIte,Nat.reduceEqDiff]|((repeat ((fail_if_success (refine hK _ ?_));clear hK K));refine hK _ ?_;clear hK K))
        all_goals exact hnil _ rfl (by simp [coneO,h5]) rfl
      | true =>
        rw [h5] at hv
        have hc:=cones_ok l (by omega) (evI_of h5)
        have hres:coneO l j=coneB l j.toNat:=by simp only [coneO,h2,h4,h5,Bool.not_false,Bool.true_and,if_true]
        rw [hres]
        clear hres hnil
        simp only [decide_eq_false_iff_not] at h2 h4
        obtain ⟨b,rfl⟩ : ∃ b:Nat,j=b:=⟨j.toNat,by omega⟩
        simp only [Int.toNat_natCast]
        have hb:b < l.length:=by omega
        have m1:=triR_at (fC (relsU l l.length)) hb
        have d2:decide ((b:Int) < 0)=false:=by simp
        have d4:decide ((l.length:Int)≤(b:Int))=false:=by simp;omega
        refine PureC.of Try.func21 rfl 39 rfl (by decide) (by simp [AV.okB]) ?_
        repeat' (first|refine T.seqK fun K hK=>?_|refine T.block ?_|(refine T.reg (by kernel_rfl) fun K' hK'=>?_;simp only [startSt,frOf,List.map_cons,List.map_nil];(repeat' (first|(with_reducible refine WL.fin ?_;refine hK' _ ?_;clear hK' K')|((with_reducible refine WL.step fun K2 hK2=>?_);simp only [simprocAttr,implies_true,amz,tys,d2,d4,m1,rowR_len];(repeat' (first|with_reducible (first|(refine hK2 _ ?_;clear hK2 K2)|refine And.intro ?_ ?_|intro hb)|((first|(with_reducible apply callArmO)|(with_reducible apply callArm));case h=>exact CallV.plain (Ent.of Try.func28 (by kernel_rfl) rfl) (hv) (by simp [AV.okB]))|((first|(with_reducible apply callArmO)|(with_reducible apply callArm));case h=>exact CallV.plain (Ent.of Try.func36 (by kernel_rfl) rfl) (hc) (by simp [AV.okB]))))))))|refine T.skip ?_|refine T.exit ?_|refine T.condT rfl ?_|refine T.condF rfl ?_|refine T.cond rfl (fun hc=>?_) (fun hc=>?_)|refine T.ret ?_|simp only [ThenA,InBlock,reduceIte,Nat.reduceEqDiff]|((repeat ((fail_if_success (refine hK _ ?_));clear hK K));refine hK _ ?_;clear hK K))
        refine T.weak (Weak.newrow _ 5 3 1 (show 5 < 39 by decide) rfl) ?_;simp only [ASt.add,put_some,Nat.reduceAdd]
        refine T.loopK (fun k:Nat=>⟨[(5,.own 0),(25,.p (.seq 1 (rowR (b + 1) (cnM l b)))),(26,.int (b + 1:Nat)),(27,.int k)],[(0,.row 3 1 (rowI (rgF (cnM l b) k)))],39,1⟩) (fun k=>k≤b + 1) (fun k=>b + 1 - k) 0 (Nat.zero_le _) (by refine Weak.of' rfl ?_;simp only [wks,reduceIte,Nat.reduceEqDiff,ASt.okB,AV.okB,Nat.reduceLT,implies_true,Int.natCast_zero,rgF_zero,nilI,cnM]) ?_
        intro k hk KL hKL
        have hlen:=rgF_len (cnM l b) k
        have hm0 : 1≤maxLen:=by unfold maxLen;omega
        have hm1:(rgF (cnM l b) k).length + 1≤maxLen:=by unfold maxLen;omega
        have hm2:((rgF (cnM l b) k).length + 1) * 8 ≤ 140737488355328:=by omega
        by_cases hkb:k < b + 1
        · have hd:decide ((k:Int) < ((b + 1:Nat):Int))=true:=by simp;omega
          have m2:=rowR_at (cnM l b) hkb
          cases hv2:cnM l b k with
          | true =>
            rw [hv2] at m2
            repeat' (first|refine T.seqK fun K hK=>?_|refine T.block ?_|(refine T.reg (by kernel_rfl) fun K' hK'=>?_;simp only [startSt,frOf,List.map_cons,List.map_nil];(repeat' (first|(with_reducible refine WL.fin ?_;refine hK' _ ?_;clear hK' K')|((with_reducible refine WL.step fun K2 hK2=>?_);simp only [simprocAttr,implies_true,amz,tys,hd,m2,bvC,rowI_len,hm0,hm1,hm2];(repeat' (first|with_reducible (first|(refine hK2 _ ?_;clear hK2 K2)|refine And.intro ?_ ?_|intro hb) ))))))|refine T.skip ?_|refine T.exit ?_|refine T.condT rfl ?_|refine T.condF rfl ?_|refine T.cond rfl (fun hc=>?_) (fun hc=>?_)|refine T.ret ?_|simp only [ThenA,InBlock,reduceIte,Nat.reduceEqDiff]|((repeat ((fail_if_success (refine hK _ ?_));clear hK K));refine hK _ ?_;clear hK K))
            refine hKL _ (k + 1) ?_ (by omega) (by omega)
            rw [rgF_succ,hv2,if_pos rfl,← rowI_snoc]
            refine Weak.of' rfl ?_;simp only [wks,reduceIte,Nat.reduceEqDiff,ASt.okB,AV.okB,Nat.reduceLT,implies_true,wrap_succ (show k < 1152921504606846976 by omega)]
          | false =>
            rw [hv2] at m2
            repeat' (first|refine T.seqK fun K hK=>?_|refine T.block ?_|(refine T.reg (by kernel_rfl) fun K' hK'=>?_;simp only [startSt,frOf,List.map_cons,List.map_nil];(repeat' (first|(with_reducible refine WL.fin ?_;refine hK' _ ?_;clear hK' K')|((with_reducible refine WL.step fun K2 hK2=>?_);simp only [simprocAttr,implies_true,amz,tys,hd,m2,bvC,rowI_len,hm0,hm1,hm2];(repeat' (first|with_reducible (first|(refine hK2 _ ?_;clear hK2 K2)|refine And.intro ?_ ?_|intro hb) ))))))|refine T.skip ?_|refine T.exit ?_|refine T.condT rfl ?_|refine T.condF rfl ?_|refine T.cond rfl (fun hc=>?_) (fun hc=>?_)|refine T.ret ?_|simp only [ThenA,InBlock,reduceIte,Nat.reduceEqDiff]|((repeat ((fail_if_success (refine hK _ ?_));clear hK K));refine hK _ ?_;clear hK K))
            refine hKL _ (k + 1) ?_ (by omega) (by omega)
            rw [rgF_succ,hv2,if_neg (by simp),List.append_nil]
            refine Weak.of' rfl ?_;simp only [wks,reduceIte,Nat.reduceEqDiff,ASt.okB,AV.okB,Nat.reduceLT,implies_true,wrap_succ (show k < 1152921504606846976 by omega)]
        · have hd:decide ((k:Int) < ((b + 1:Nat):Int))=false:=by simp;omega
          have hke:k=b + 1:=by omega
          subst hke
          repeat' (first|refine T.seqK fun K hK=>?_|refine T.block ?_|(refine T.reg (by kernel_rfl) fun K' hK'=>?_;simp only [startSt,frOf,List.map_cons,List.map_nil];(repeat' (first|(with_reducible refine WL.fin ?_;refine hK' _ ?_;clear hK' K')|((with_reducible refine WL.step fun K2 hK2=>?_);simp only [simprocAttr,implies_true,amz,tys,hd];(repeat' (first|with_reducible (first|(refine hK2 _ ?_;clear hK2 K2)|refine And.intro ?_ ?_|intro hb) ))))))|refine T.skip ?_|refine T.exit ?_|refine T.condT rfl ?_|refine T.condF rfl ?_|refine T.cond rfl (fun hc=>?_) (fun hc=>?_)|refine T.ret ?_|simp only [ThenA,InBlock,reduceIte,Nat.reduceEqDiff]|((repeat ((fail_if_success (refine hK _ ?_));clear hK K));refine hK _ ?_;clear hK K))
          refine FinA.retW (.inr rfl) Try.results21 (Weak.frz _ 0) ?_;simp only [ares,aresL,ares1,ASt.frz,ASt.subst,AO.sub_box,AO.sub_row,AO.sub_map,AO.sub_raw,AO.sub_lrec,AV.sub_p,AV.sub_elt,AV.sub_ptr,AV.sub_rptr,AV.sub_own,AV.sub_junk,AV.sub_cap0,AV.sub_agg,AV.sub_fn,AV.sub_tup,List.filter_cons,List.filter_nil,bne_self_eq_false,Nat.reduceBneDiff,Nat.reduceEqDiff,Bool.false_eq_true,simprocAttr,implies_true,amz,tys,coneB]
end Go.Proofs.Ytnckehomadnhoaa
