/- Texts Pi, Pk, Pl, Pn, Px, Py, Pz, Qa, Qb. -/
import Derived.Test.YtdlgoofjechocaaGreatDoorZ09
set_option maxHeartbeats 32000000
set_option maxRecDepth 100000
set_option linter.unusedSimpArgs false
set_option linter.unusedVariables false
namespace Go.Proofs.YtdlgoofjechocaaGreatDoor
open Go.RowKit Go.Sort Go.Maps
theorem z9N (b:Nat) (s:Ps) (a1 a2 a3:Nat) (e:Ev) (he:Oki e) (h1:a1<999000):MemC Tryz.prog 102 4 (hpS b s a1 a2 a3) [.ptr 0 0,evA e] (QS b s a1 a2 a3 (qO s e)):=by
 have hm:a1<maxLen:=by unfold maxLen;omega
 have hpe:hpS b s a1 a2 a3 = [(0,.boxP (some b) 154 [.int s.ev,.int s.gor,.own 1,.own 2,.own 3,.p (.seq 1 (s.op.kinds.map fun x => [pI x])),.int s.op.obj,.int s.op.k,.int s.op.n,.int s.op.snd,.int s.op.rcv]),(1,.map none Tryz.prog 3 a1 (inM chV s.ch)),(2,.map none Tryz.prog 147 a2 (plM muV s.mu)),(3,.map none Tryz.prog 147 a3 (plM Value.bool (dnO s.dn)))]:=rfl
 rw [hpe]
 simp only [evA,evC,List.map_cons,List.map_nil]
 refine MemC.of Tryz.func102 rfl 143 rfl (by decide) ?_;simp only [qi,frOf]
 repeat' (first|refine T.zh fun K hK=>?_|apply T.block|(refine T.reg (by kernel_rfl) fun K' hK'=>?_;simp only [bz];(with_reducible repeat' (first|(apply WL.fin;apply hK';clear hK' K')|(refine WL.step fun K2 hK2=>?_;simp only [simprocAttr,az];repeat' (first|(apply hK2;clear hK2 K2)|apply And.intro|intro hb)))))|apply T.skip|apply T.exit|refine T.zg rfl ?_|refine T.zf rfl ?_|refine T.cond rfl (fun hc=>?_) (fun hc=>?_)|apply T.ret|simp only [zb,za,reduceIte,Nat.reduceEqDiff]|((repeat ((fail_if_success apply hK);clear hK K));apply hK;clear hK K))
 refine T.comm [some (0,1),some (0,1),some (0,1),some (0,1),some (0,1),some (0,1),some (0,1),some (0,1),some (0,1),some (0,2),none,none,some (2,2)] (by kernel_rfl) (by kernel_rfl) fun K' hK'=>?_;simp only [List.map_cons,List.map_nil,List.zip_cons_cons,List.zip_nil_left];(repeat' (first|(with_reducible refine WC.fin ?_;apply hK';clear hK' K')|((first|(with_reducible refine WC.z0Q fun K2 hK2=>?_)|(with_reducible refine WC.stepW fun K2 hK2=>?_));simp only [simprocAttr,implies_true,amz,WCg,WCv,WOw,allP,dav,Chk,List.filter_cons,List.filter_nil,bne_self_eq_false,Nat.reduceBneDiff,Bool.false_eq_true,tys,qw,qm he.o,z5V,ch_z,cv_ch,Option.isSome_map];(repeat' (first|(with_reducible refine hK2 _ _ ?_;clear hK2 K2)|with_reducible (first|(apply hK2;clear hK2 K2)|apply And.intro|intro hb)|(with_reducible rfl)|((with_reducible show @Eq ASt _ _);rfl) )))));all_goals ((try simp only [zb,za,reduceIte,Nat.reduceEqDiff]);(try ((repeat ((fail_if_success apply hK);clear hK K));apply hK;clear hK K)))
 obtain ⟨c,hcc⟩ : ∃ c,zY s e=c:=⟨_,rfl⟩
 repeat' (first|refine T.zh fun K hK=>?_|apply T.block|apply T.skip|apply T.exit|refine T.zg rfl ?_|refine T.zf rfl ?_|refine T.cond rfl (fun hc=>?_) (fun hc=>?_)|apply T.ret|simp only [zb,za,reduceIte,Nat.reduceEqDiff]|((repeat ((fail_if_success apply hK);clear hK K));apply hK;clear hK K))
 (refine T.reg (by kernel_rfl) fun K' hK'=>?_;simp only [bz];(with_reducible repeat' (first|(apply WL.fin;apply hK';clear hK' K')|(refine WL.step fun K2 hK2=>?_;simp only [simprocAttr,az];repeat' (first|(apply hK2;clear hK2 K2)|apply And.intro|intro hb))));all_goals ((try simp only [zb,za,reduceIte,Nat.reduceEqDiff]);(try ((repeat ((fail_if_success apply hK);clear hK K));apply hK;clear hK K))))
 suffices hmid : ∀ s',zk s' ⟨[(0,.ptr 0 0),(3,.ptr 4 0),(4,.bool false),(5,.ptr 5 0)],[(5,.boxP none 161 [.int c.cap,.int c.sent,.int c.recv,.bool c.closed]),(4,.boxP none 30 ((evC e).map .p)),(0,.boxP (some b) 154 [.int s.ev,.int s.gor,.own 1,.own 2,.own 3,.p (.seq 1 (s.op.kinds.map fun x => [pI x])),.int s.op.obj,.int s.op.k,.int s.op.n,.int s.op.snd,.int s.op.rcv]),(1,.map none Tryz.prog 3 a1 (inM chV s.ch)),(2,.map none Tryz.prog 147 a2 (plM muV s.mu)),(3,.map none Tryz.prog 147 a3 (plM Value.bool (dnO s.dn)))],143,6⟩→K s' by
  clear hK
  have hK:=hmid
  clear hmid
  cases hx:s.ch e.obj with
  | none =>
   have c1:c=⟨e.n,0,0,false⟩:=by rw [← hcc,zY,hx];rfl
   simp only [hx,Option.getD_none,Option.isSome_none,ch0]
   repeat' (first|refine T.zh fun K hK=>?_|apply T.block|(refine T.reg (by kernel_rfl) fun K' hK'=>?_;simp only [bz];(with_reducible repeat' (first|(apply WL.fin;apply hK';clear hK' K')|(refine WL.step fun K2 hK2=>?_;simp only [simprocAttr,az];repeat' (first|(apply hK2;clear hK2 K2)|apply And.intro|intro hb)))))|apply T.skip|apply T.exit|refine T.zg rfl ?_|refine T.zf rfl ?_|refine T.cond rfl (fun hc=>?_) (fun hc=>?_)|apply T.ret|simp only [zb,za,reduceIte,Nat.reduceEqDiff]|((repeat ((fail_if_success apply hK);clear hK K));apply hK;clear hK K))
   all_goals first
    | (exfalso;simp_all;done)
    | (refine zk.of' rfl ?_;simp only [wks,reduceIte,Nat.reduceEqDiff,ASt.okB,AV.okB,Nat.reduceLT,implies_true,evC,List.map_cons,List.map_nil,c1];done)
  | some c0 =>
   have c1:c=c0:=by rw [← hcc,zY,hx];rfl
   simp only [hx,Option.getD_some,Option.isSome_some]
   repeat' (first|refine T.zh fun K hK=>?_|apply T.block|(refine T.reg (by kernel_rfl) fun K' hK'=>?_;simp only [bz];(with_reducible repeat' (first|(apply WL.fin;apply hK';clear hK' K')|(refine WL.step fun K2 hK2=>?_;simp only [simprocAttr,az];repeat' (first|(apply hK2;clear hK2 K2)|apply And.intro|intro hb)))))|apply T.skip|apply T.exit|refine T.zg rfl ?_|refine T.zf rfl ?_|refine T.cond rfl (fun hc=>?_) (fun hc=>?_)|apply T.ret|simp only [zb,za,reduceIte,Nat.reduceEqDiff]|((repeat ((fail_if_success apply hK);clear hK K));apply hK;clear hK K))
   all_goals first
    | (exfalso;simp_all;done)
    | (refine zk.of' rfl ?_;simp only [wks,reduceIte,Nat.reduceEqDiff,ASt.okB,AV.okB,Nat.reduceLT,implies_true,evC,List.map_cons,List.map_nil,c1];done)
 intro s' hw
 refine hK s' (T.weak hw ?_)
 clear hK hw K s'
 simp only [evC,List.map_cons,List.map_nil]
 have m1:(1:Nat)≤maxLen:=by unfold maxLen;omega
 have m3:(3:Nat)≤maxLen:=by unfold maxLen;omega
 have hu:=z2g s.ch e.obj c (v := .agg #[.int .i64 c.cap,.int .i64 c.sent,.int .i64 c.recv,.bool c.closed]) rfl
 by_cases hcap:(c.cap != e.n)=true
 ·have hn:qO s e=none:=by simp [qO,hcc,hcap]
  repeat' (first|refine T.zh fun K hK=>?_|apply T.block|(refine T.reg (by kernel_rfl) fun K' hK'=>?_;simp only [bz];(with_reducible repeat' (first|(apply WL.fin;apply hK';clear hK' K')|(refine WL.step fun K2 hK2=>?_;simp only [simprocAttr,az,m1,m3,hcap];repeat' (first|(apply hK2;clear hK2 K2)|apply And.intro|intro hb)))))|apply T.skip|apply T.exit|refine T.zg rfl ?_|refine T.zf rfl ?_|refine T.cond rfl (fun hc=>?_) (fun hc=>?_)|apply T.ret|simp only [zb,za,reduceIte,Nat.reduceEqDiff]|((repeat ((fail_if_success apply hK);clear hK K));apply hK;clear hK K))
  all_goals first
   | (((refine FinM.ret (s':=⟨[(4,.bool false)],hpS b s a1 a2 a3,143,4⟩) (r := .bool false) (.inr rfl) Tryz.results102 (by refine zk.of' rfl ?_;simp only [wks,reduceIte,Nat.reduceEqDiff,ASt.okB,AV.okB,Nat.reduceLT,implies_true,hpS,gpC,List.map_cons,List.map_nil]) rfl ?_ ?_;(focus (simp only [zw,zt,zq,simprocAttr,az,];done)));exact QS.no hn);done)
   | (exfalso;simp_all;done)
   | fail
 have hcap' : (c.cap != e.n)=false:=by simpa using hcap
 clear hcap
 have hce:c.cap=e.n:=by simpa using hcap'
 by_cases hk:e.kind=19
 ·have q19:(e.kind==19)=true:=by simp [hk]
  have q20:(e.kind==20)=false:=by simp [hk]
  have q15:(e.kind==15)=false:=by simp [hk]
  have q17:(e.kind==17)=false:=by simp [hk]
  cases hcl:c.closed with
  | true =>
   have hn:qO s e=none:=by simp [qO,hcc,hce,hk,hcl]
   repeat' (first|refine T.zh fun K hK=>?_|apply T.block|(refine T.reg (by kernel_rfl) fun K' hK'=>?_;simp only [bz];(with_reducible repeat' (first|(apply WL.fin;apply hK';clear hK' K')|(refine WL.step fun K2 hK2=>?_;simp only [simprocAttr,az,m1,m3,hcap',q19,hcl];repeat' (first|(apply hK2;clear hK2 K2)|apply And.intro|intro hb)))))|apply T.skip|apply T.exit|refine T.zg rfl ?_|refine T.zf rfl ?_|refine T.cond rfl (fun hc=>?_) (fun hc=>?_)|apply T.ret|simp only [zb,za,reduceIte,Nat.reduceEqDiff]|((repeat ((fail_if_success apply hK);clear hK K));apply hK;clear hK K))
   all_goals first
    | (((refine FinM.ret (s':=⟨[(4,.bool false)],hpS b s a1 a2 a3,143,4⟩) (r := .bool false) (.inr rfl) Tryz.results102 (by refine zk.of' rfl ?_;simp only [wks,reduceIte,Nat.reduceEqDiff,ASt.okB,AV.okB,Nat.reduceLT,implies_true,hpS,gpC,List.map_cons,List.map_nil]) rfl ?_ ?_;(focus (simp only [zw,zt,zq,simprocAttr,az,];done)));exact QS.no hn);done)
    | (exfalso;simp_all;done)
    | fail
  | false =>
   have hy:qO s e=some (qF s e.obj { c with closed:=true }):=by simp [qO,hcc,hce,hk,hcl]
   have hu2:=z2g s.ch e.obj { c with closed:=true } (v := .agg #[.int .i64 c.cap,.int .i64 c.sent,.int .i64 c.recv,.bool true]) rfl
   repeat' (first|refine T.zh fun K hK=>?_|apply T.block|(refine T.reg (by kernel_rfl) fun K' hK'=>?_;simp only [bz];(with_reducible repeat' (first|(apply WL.fin;apply hK';clear hK' K')|(refine WL.step fun K2 hK2=>?_;simp only [simprocAttr,az,m1,m3,hcap',q19,hcl];repeat' (first|(apply hK2;clear hK2 K2)|apply And.intro|intro hb)))))|apply T.skip|apply T.exit|refine T.zg rfl ?_|refine T.zf rfl ?_|refine T.cond rfl (fun hc=>?_) (fun hc=>?_)|apply T.ret|simp only [zb,za,reduceIte,Nat.reduceEqDiff]|((repeat ((fail_if_success apply hK);clear hK K));apply hK;clear hK K))
   all_goals (refine T.drw 7 (by kernel_rfl) (by kernel_rfl) fun K' hK'=>?_;simp only [List.map_cons,List.map_nil];(repeat' (first|(with_reducible refine WL.fin ?_;apply hK';clear hK' K')|(with_reducible refine WD.fin ?_)|((with_reducible first|refine WL.step fun K2 hK2=>?_|refine WD.step fun K2 hK2=>?_);simp only [simprocAttr,az,qw,qm he.o,hm,hu2];(repeat' with_reducible (first|(apply hK2;clear hK2 K2)|apply And.intro|intro hb)))));all_goals ((try simp only [zb,za,reduceIte,Nat.reduceEqDiff]);(try ((repeat ((fail_if_success apply hK);clear hK K));apply hK;clear hK K))))
   all_goals (repeat' (first|refine T.zh fun K hK=>?_|apply T.block|(refine T.reg (by kernel_rfl) fun K' hK'=>?_;simp only [bz];(with_reducible repeat' (first|(apply WL.fin;apply hK';clear hK' K')|(refine WL.step fun K2 hK2=>?_;simp only [simprocAttr,az];repeat' (first|(apply hK2;clear hK2 K2)|apply And.intro|intro hb)))))|apply T.skip|apply T.exit|refine T.zg rfl ?_|refine T.zf rfl ?_|refine T.cond rfl (fun hc=>?_) (fun hc=>?_)|apply T.ret|simp only [zb,za,reduceIte,Nat.reduceEqDiff]|((repeat ((fail_if_success apply hK);clear hK K));apply hK;clear hK K)))
   all_goals first
    | (((refine FinM.ret (s':=⟨[(4,.bool true)],hpS b (qF s e.obj { c with closed:=true }) (a1+1) a2 a3,143,4⟩) (r := .bool true) (.inr rfl) Tryz.results102 (by refine zk.of' rfl ?_;simp only [wks,reduceIte,Nat.reduceEqDiff,ASt.okB,AV.okB,Nat.reduceLT,implies_true,qF,hpS,gpC,List.map_cons,List.map_nil]) rfl ?_ ?_;(focus (simp only [zw,zt,zq,simprocAttr,az,];done)));exact QS.yes (qF s e.obj { c with closed:=true }) (a1+1) a2 a3 hy (by omega) (by omega) (by omega));done)
    | fail
 by_cases hk20:e.kind=20
 ·have hk:=hk20
  have q19:(e.kind==19)=false:=by simp [hk]
  have q20:(e.kind==20)=true:=by simp [hk]
  have q15:(e.kind==15)=false:=by simp [hk]
  have q17:(e.kind==17)=false:=by simp [hk]
  cases hb:(c.closed&&c.sent==c.recv) with
  | true =>
   have hy:qO s e=some s:=by simp [qO,hcc,hce,hk];simpa using hb
   obtain ⟨b1,b2⟩ : c.closed=true∧(c.sent==c.recv)=true:=by simpa using hb
   repeat' (first|refine T.zh fun K hK=>?_|apply T.block|(refine T.reg (by kernel_rfl) fun K' hK'=>?_;simp only [bz];(with_reducible repeat' (first|(apply WL.fin;apply hK';clear hK' K')|(refine WL.step fun K2 hK2=>?_;simp only [simprocAttr,az,m1,m3,hcap',q19,q20,b1,b2];repeat' (first|(apply hK2;clear hK2 K2)|apply And.intro|intro hb)))))|apply T.skip|apply T.exit|refine T.zg rfl ?_|refine T.zf rfl ?_|refine T.cond rfl (fun hc=>?_) (fun hc=>?_)|apply T.ret|simp only [zb,za,reduceIte,Nat.reduceEqDiff]|((repeat ((fail_if_success apply hK);clear hK K));apply hK;clear hK K))
   all_goals first
    | (((refine FinM.ret (s':=⟨[(4,.bool true)],hpS b s a1 a2 a3,143,4⟩) (r := .bool true) (.inr rfl) Tryz.results102 (by refine zk.of' rfl ?_;simp only [wks,reduceIte,Nat.reduceEqDiff,ASt.okB,AV.okB,Nat.reduceLT,implies_true,hpS,gpC,List.map_cons,List.map_nil]) rfl ?_ ?_;(focus (simp only [zw,zt,zq,simprocAttr,az,];done)));exact QS.yes s a1 a2 a3 hy (by omega) (by omega) (by omega));done)
    | (exfalso;simp_all;done)
    | fail
  | false =>
   have hn:qO s e=none:=by simp [qO,hcc,hce,hk];simpa using hb
   cases b1:c.closed with
   | false =>
    repeat' (first|refine T.zh fun K hK=>?_|apply T.block|(refine T.reg (by kernel_rfl) fun K' hK'=>?_;simp only [bz];(with_reducible repeat' (first|(apply WL.fin;apply hK';clear hK' K')|(refine WL.step fun K2 hK2=>?_;simp only [simprocAttr,az,m1,m3,hcap',q19,q20,b1];repeat' (first|(apply hK2;clear hK2 K2)|apply And.intro|intro hb)))))|apply T.skip|apply T.exit|refine T.zg rfl ?_|refine T.zf rfl ?_|refine T.cond rfl (fun hc=>?_) (fun hc=>?_)|apply T.ret|simp only [zb,za,reduceIte,Nat.reduceEqDiff]|((repeat ((fail_if_success apply hK);clear hK K));apply hK;clear hK K))
    all_goals first
     | (((refine FinM.ret (s':=⟨[(4,.bool false)],hpS b s a1 a2 a3,143,4⟩) (r := .bool false) (.inr rfl) Tryz.results102 (by refine zk.of' rfl ?_;simp only [wks,reduceIte,Nat.reduceEqDiff,ASt.okB,AV.okB,Nat.reduceLT,implies_true,hpS,gpC,List.map_cons,List.map_nil]) rfl ?_ ?_;(focus (simp only [zw,zt,zq,simprocAttr,az,];done)));exact QS.no hn);done)
     | fail
   | true =>
    have b2:(c.sent==c.recv)=false:=by rw [b1] at hb;simpa using hb
    repeat' (first|refine T.zh fun K hK=>?_|apply T.block|(refine T.reg (by kernel_rfl) fun K' hK'=>?_;simp only [bz];(with_reducible repeat' (first|(apply WL.fin;apply hK';clear hK' K')|(refine WL.step fun K2 hK2=>?_;simp only [simprocAttr,az,m1,m3,hcap',q19,q20,b1,b2];repeat' (first|(apply hK2;clear hK2 K2)|apply And.intro|intro hb)))))|apply T.skip|apply T.exit|refine T.zg rfl ?_|refine T.zf rfl ?_|refine T.cond rfl (fun hc=>?_) (fun hc=>?_)|apply T.ret|simp only [zb,za,reduceIte,Nat.reduceEqDiff]|((repeat ((fail_if_success apply hK);clear hK K));apply hK;clear hK K))
    all_goals first
     | (((refine FinM.ret (s':=⟨[(4,.bool false)],hpS b s a1 a2 a3,143,4⟩) (r := .bool false) (.inr rfl) Tryz.results102 (by refine zk.of' rfl ?_;simp only [wks,reduceIte,Nat.reduceEqDiff,ASt.okB,AV.okB,Nat.reduceLT,implies_true,hpS,gpC,List.map_cons,List.map_nil]) rfl ?_ ?_;(focus (simp only [zw,zt,zq,simprocAttr,az,];done)));exact QS.no hn);done)
     | fail
 by_cases hk15:e.kind=15
 ·have hk:=hk15
  have q19:(e.kind==19)=false:=by simp [hk]
  have q20:(e.kind==20)=false:=by simp [hk]
  have q15:(e.kind==15)=true:=by simp [hk]
  have q17:(e.kind==17)=false:=by simp [hk]
  cases hcl:c.closed with
  | true =>
   have hn:qO s e=none:=by simp [qO,hcc,hce,hk,hcl]
   repeat' (first|refine T.zh fun K hK=>?_|apply T.block|(refine T.reg (by kernel_rfl) fun K' hK'=>?_;simp only [bz];(with_reducible repeat' (first|(apply WL.fin;apply hK';clear hK' K')|(refine WL.step fun K2 hK2=>?_;simp only [simprocAttr,az,m1,m3,hcap',q19,q20,q15,hcl];repeat' (first|(apply hK2;clear hK2 K2)|apply And.intro|intro hb)))))|apply T.skip|apply T.exit|refine T.zg rfl ?_|refine T.zf rfl ?_|refine T.cond rfl (fun hc=>?_) (fun hc=>?_)|apply T.ret|simp only [zb,za,reduceIte,Nat.reduceEqDiff]|((repeat ((fail_if_success apply hK);clear hK K));apply hK;clear hK K))
   all_goals first
    | (((refine FinM.ret (s':=⟨[(4,.bool false)],hpS b s a1 a2 a3,143,4⟩) (r := .bool false) (.inr rfl) Tryz.results102 (by refine zk.of' rfl ?_;simp only [wks,reduceIte,Nat.reduceEqDiff,ASt.okB,AV.okB,Nat.reduceLT,implies_true,hpS,gpC,List.map_cons,List.map_nil]) rfl ?_ ?_;(focus (simp only [zw,zt,zq,simprocAttr,az,];done)));exact QS.no hn);done)
    | (exfalso;simp_all;done)
    | fail
  | false =>
   cases hkk:(e.k != c.sent) with
   | true =>
    have hn:qO s e=none:=by simp [qO,hcc,hce,hk,hcl,hkk]
    repeat' (first|refine T.zh fun K hK=>?_|apply T.block|(refine T.reg (by kernel_rfl) fun K' hK'=>?_;simp only [bz];(with_reducible repeat' (first|(apply WL.fin;apply hK';clear hK' K')|(refine WL.step fun K2 hK2=>?_;simp only [simprocAttr,az,m1,m3,hcap',q19,q20,q15,hcl,hkk];repeat' (first|(apply hK2;clear hK2 K2)|apply And.intro|intro hb)))))|apply T.skip|apply T.exit|refine T.zg rfl ?_|refine T.zf rfl ?_|refine T.cond rfl (fun hc=>?_) (fun hc=>?_)|apply T.ret|simp only [zb,za,reduceIte,Nat.reduceEqDiff]|((repeat ((fail_if_success apply hK);clear hK K));apply hK;clear hK K))
    all_goals first
     | (((refine FinM.ret (s':=⟨[(4,.bool false)],hpS b s a1 a2 a3,143,4⟩) (r := .bool false) (.inr rfl) Tryz.results102 (by refine zk.of' rfl ?_;simp only [wks,reduceIte,Nat.reduceEqDiff,ASt.okB,AV.okB,Nat.reduceLT,implies_true,hpS,gpC,List.map_cons,List.map_nil]) rfl ?_ ?_;(focus (simp only [zw,zt,zq,simprocAttr,az,];done)));exact QS.no hn);done)
     | (exfalso;simp_all;done)
     | fail
   | false =>
    have hu3:=z2g s.ch e.obj c (v := .agg #[.int .i64 c.cap,.int .i64 c.sent,.int .i64 c.recv,.bool false]) (by rw [chV,hcl])
    have hkk' : e.k=c.sent:=by simpa using hkk
    cases hlt:decide (IntKind.i64.wrap (c.sent-c.recv)<c.cap) with
    | true =>
     have hlt' : IntKind.i64.wrap (c.sent-c.recv)<e.n:=by rw [← hce];simpa using hlt
     obtain ⟨t,ht⟩ : ∃ t,z1x s e c [16] e.g (-1)=t:=⟨_,rfl⟩
     have hy:qO s e=some t:=by simp [qO,hcc,hce,hk,hcl,hkk',hlt',← ht]
     have hcn:=z3U b (z0e (qF s e.obj c) ⟨[16],e.obj,e.k,e.n,e.g,(-1)⟩) (a1+1) a2 a3 e he (by omega)
     rw [show countP (z0e (qF s e.obj c) ⟨[16],e.obj,e.k,e.n,e.g,(-1)⟩) e=t from ht] at hcn
     simp only [z0e,qF,hpS,gpC,evA,evC,List.map_cons,List.map_nil,pI] at hcn
     repeat' (first|refine T.zh fun K hK=>?_|apply T.block|(refine T.reg (by kernel_rfl) fun K' hK'=>?_;simp only [bz];(with_reducible repeat' (first|(apply WL.fin;apply hK';clear hK' K')|(refine WL.step fun K2 hK2=>?_;simp only [simprocAttr,az,m1,m3,hcap',q19,q20,q15,hcl,hkk,hlt];repeat' (first|(apply hK2;clear hK2 K2)|apply And.intro|intro hb)))))|apply T.skip|apply T.exit|refine T.zg rfl ?_|refine T.zf rfl ?_|refine T.cond rfl (fun hc=>?_) (fun hc=>?_)|apply T.ret|simp only [zb,za,reduceIte,Nat.reduceEqDiff]|((repeat ((fail_if_success apply hK);clear hK K));apply hK;clear hK K))
     all_goals (refine T.drw 7 (by kernel_rfl) (by kernel_rfl) fun K' hK'=>?_;simp only [List.map_cons,List.map_nil];(repeat' (first|(with_reducible refine WL.fin ?_;apply hK';clear hK' K')|(with_reducible refine WD.fin ?_)|((with_reducible first|refine WL.step fun K2 hK2=>?_|refine WD.step fun K2 hK2=>?_);simp only [simprocAttr,az,qw,qm he.o,hm,hu,hu3];(repeat' with_reducible (first|(apply hK2;clear hK2 K2)|apply And.intro|intro hb)))));all_goals ((try simp only [zb,za,reduceIte,Nat.reduceEqDiff]);(try ((repeat ((fail_if_success apply hK);clear hK K));apply hK;clear hK K))))
     all_goals (repeat' (first|refine T.zh fun K hK=>?_|apply T.block|(refine T.reg (by kernel_rfl) fun K' hK'=>?_;simp only [bz];(repeat' (first|(with_reducible refine WL.fin ?_;apply hK';clear hK' K')|((with_reducible refine WL.step fun K2 hK2=>?_);simp only [simprocAttr,az];(repeat' (first|with_reducible (first|(apply hK2;clear hK2 K2)|apply And.intro|intro hb)|((with_reducible refine zM 4 _ _ [0] (Ent.of Tryz.func106 (by kernel_rfl) rfl) (hcn) ?_ ?_ ?_);(focus ((refine ⟨Nat.le_of_ble_eq_true rfl,?_,?_⟩ <;> simp only [pz,reduceIte,Nat.reduceEqDiff,AV.okB,Nat.reduceLT,]);done));(focus (simp [AV.okB];done));rintro hp' r ⟨rfl,rfl⟩;refine ⟨by simp [Kept,zy,AO.handle],?_⟩;simp only [cz,ASt.zR,AO.keep,Nat.reduceLeDiff,reduceIte,Nat.reduceEqDiff,])))))))|apply T.skip|apply T.exit|refine T.zg rfl ?_|refine T.zf rfl ?_|refine T.cond rfl (fun hc=>?_) (fun hc=>?_)|apply T.ret|simp only [zb,za,reduceIte,Nat.reduceEqDiff]|((repeat ((fail_if_success apply hK);clear hK K));apply hK;clear hK K)))
     all_goals first
      | (((refine FinM.ret (s':=⟨[(4,.bool true)],hpS b t (a1+1+1) a2 a3,143,4⟩) (r := .bool true) (.inr rfl) Tryz.results102 (by refine zk.of' rfl ?_;simp only [wks,reduceIte,Nat.reduceEqDiff,ASt.okB,AV.okB,Nat.reduceLT,implies_true,hpS,gpC,List.map_cons,List.map_nil]) rfl ?_ ?_;(focus (simp only [zw,zt,zq,simprocAttr,az,];done)));exact QS.yes t (a1+1+1) a2 a3 hy (by omega) (by omega) (by omega));done)
      | (exfalso;simp_all;done)
      | fail
    | false =>
     have hlt' : ¬ IntKind.i64.wrap (c.sent-c.recv)<e.n:=by rw [← hce];simpa using hlt
     cases hz:(c.cap==0 && !(s.gor==1)) with
     | true =>
      obtain ⟨z1,z2⟩ : (c.cap==0)=true∧(s.gor==1)=false:=by simpa using hz
      have z1' : e.n=0:=by rw [← hce];simpa using z1
      have z2' : ¬ s.gor=1:=by simpa using z2
      obtain ⟨t,ht⟩ : ∃ t,z1x s e c [17,18,16] e.g (-1)=t:=⟨_,rfl⟩
      have hy:qO s e=some t:=by simp [qO,hcc,hce,hk,hcl,hkk',z1',z2',← ht];intro h;exfalso;rw [z1'] at hlt';exact hlt' h
      have hcn:=z3U b (z0e (qF s e.obj c) ⟨[17,18,16],e.obj,e.k,e.n,e.g,(-1)⟩) (a1+1) a2 a3 e he (by omega)
      rw [show countP (z0e (qF s e.obj c) ⟨[17,18,16],e.obj,e.k,e.n,e.g,(-1)⟩) e=t from ht] at hcn
      simp only [z0e,qF,hpS,gpC,evA,evC,List.map_cons,List.map_nil,pI] at hcn
      repeat' (first|refine T.zh fun K hK=>?_|apply T.block|(refine T.reg (by kernel_rfl) fun K' hK'=>?_;simp only [bz];(with_reducible repeat' (first|(apply WL.fin;apply hK';clear hK' K')|(refine WL.step fun K2 hK2=>?_;simp only [simprocAttr,az,m1,m3,hcap',q19,q20,q15,hcl,hkk,hlt,z1,z2];repeat' (first|(apply hK2;clear hK2 K2)|apply And.intro|intro hb)))))|apply T.skip|apply T.exit|refine T.zg rfl ?_|refine T.zf rfl ?_|refine T.cond rfl (fun hc=>?_) (fun hc=>?_)|apply T.ret|simp only [zb,za,reduceIte,Nat.reduceEqDiff]|((repeat ((fail_if_success apply hK);clear hK K));apply hK;clear hK K))
      all_goals (refine T.drw 7 (by kernel_rfl) (by kernel_rfl) fun K' hK'=>?_;simp only [List.map_cons,List.map_nil];(repeat' (first|(with_reducible refine WL.fin ?_;apply hK';clear hK' K')|(with_reducible refine WD.fin ?_)|((with_reducible first|refine WL.step fun K2 hK2=>?_|refine WD.step fun K2 hK2=>?_);simp only [simprocAttr,az,qw,qm he.o,hm,hu,hu3];(repeat' with_reducible (first|(apply hK2;clear hK2 K2)|apply And.intro|intro hb)))));all_goals ((try simp only [zb,za,reduceIte,Nat.reduceEqDiff]);(try ((repeat ((fail_if_success apply hK);clear hK K));apply hK;clear hK K))))
      all_goals (repeat' (first|refine T.zh fun K hK=>?_|apply T.block|(refine T.reg (by kernel_rfl) fun K' hK'=>?_;simp only [bz];(repeat' (first|(with_reducible refine WL.fin ?_;apply hK';clear hK' K')|((with_reducible refine WL.step fun K2 hK2=>?_);simp only [simprocAttr,az];(repeat' (first|with_reducible (first|(apply hK2;clear hK2 K2)|apply And.intro|intro hb)|((with_reducible refine zM 4 _ _ [0] (Ent.of Tryz.func106 (by kernel_rfl) rfl) (hcn) ?_ ?_ ?_);(focus ((refine ⟨Nat.le_of_ble_eq_true rfl,?_,?_⟩ <;> simp only [pz,reduceIte,Nat.reduceEqDiff,AV.okB,Nat.reduceLT,]);done));(focus (simp [AV.okB];done));rintro hp' r ⟨rfl,rfl⟩;refine ⟨by simp [Kept,zy,AO.handle],?_⟩;simp only [cz,ASt.zR,AO.keep,Nat.reduceLeDiff,reduceIte,Nat.reduceEqDiff,])))))))|apply T.skip|apply T.exit|refine T.zg rfl ?_|refine T.zf rfl ?_|refine T.cond rfl (fun hc=>?_) (fun hc=>?_)|apply T.ret|simp only [zb,za,reduceIte,Nat.reduceEqDiff]|((repeat ((fail_if_success apply hK);clear hK K));apply hK;clear hK K)))
      all_goals first
       | (((refine FinM.ret (s':=⟨[(4,.bool true)],hpS b t (a1+1+1) a2 a3,143,4⟩) (r := .bool true) (.inr rfl) Tryz.results102 (by refine zk.of' rfl ?_;simp only [wks,reduceIte,Nat.reduceEqDiff,ASt.okB,AV.okB,Nat.reduceLT,implies_true,hpS,gpC,List.map_cons,List.map_nil]) rfl ?_ ?_;(focus (simp only [zw,zt,zq,simprocAttr,az,];done)));exact QS.yes t (a1+1+1) a2 a3 hy (by omega) (by omega) (by omega));done)
       | (exfalso;simp_all;done)
       | fail
     | false =>
      have hz' : e.n=0→s.gor=1:=by rw [← hce];simpa using hz
      have hn:qO s e=none:=by simp [qO,hcc,hce,hk,hcl,hkk',hlt'];exact hz'
      repeat' (first|refine T.zh fun K hK=>?_|apply T.block|(refine T.reg (by kernel_rfl) fun K' hK'=>?_;simp only [bz];(with_reducible repeat' (first|(apply WL.fin;apply hK';clear hK' K')|(refine WL.step fun K2 hK2=>?_;simp only [simprocAttr,az,m1,m3,hcap',q19,q20,q15,hcl,hkk,hlt];repeat' (first|(apply hK2;clear hK2 K2)|apply And.intro|intro hb)))))|apply T.skip|apply T.exit|refine T.zg rfl ?_|refine T.zf rfl ?_|refine T.cond rfl (fun hc=>?_) (fun hc=>?_)|apply T.ret|simp only [zb,za,reduceIte,Nat.reduceEqDiff]|((repeat ((fail_if_success apply hK);clear hK K));apply hK;clear hK K))
      all_goals first
       | (((refine FinM.ret (s':=⟨[(4,.bool false)],hpS b s a1 a2 a3,143,4⟩) (r := .bool false) (.inr rfl) Tryz.results102 (by refine zk.of' rfl ?_;simp only [wks,reduceIte,Nat.reduceEqDiff,ASt.okB,AV.okB,Nat.reduceLT,implies_true,hpS,gpC,List.map_cons,List.map_nil]) rfl ?_ ?_;(focus (simp only [zw,zt,zq,simprocAttr,az,];done)));exact QS.no hn);done)
       | (exfalso;simp_all;done)
       | fail
 by_cases hk17:e.kind=17
 ·have hk:=hk17
  have q19:(e.kind==19)=false:=by simp [hk]
  have q20:(e.kind==20)=false:=by simp [hk]
  have q15:(e.kind==15)=false:=by simp [hk]
  have q17:(e.kind==17)=true:=by simp [hk]
  cases hkk:(e.k != c.recv) with
  | true =>
   have hn:qO s e=none:=by simp [qO,hcc,hce,hk,hkk]
   repeat' (first|refine T.zh fun K hK=>?_|apply T.block|(refine T.reg (by kernel_rfl) fun K' hK'=>?_;simp only [bz];(with_reducible repeat' (first|(apply WL.fin;apply hK';clear hK' K')|(refine WL.step fun K2 hK2=>?_;simp only [simprocAttr,az,m1,m3,hcap',q19,q20,q15,q17,hkk];repeat' (first|(apply hK2;clear hK2 K2)|apply And.intro|intro hb)))))|apply T.skip|apply T.exit|refine T.zg rfl ?_|refine T.zf rfl ?_|refine T.cond rfl (fun hc=>?_) (fun hc=>?_)|apply T.ret|simp only [zb,za,reduceIte,Nat.reduceEqDiff]|((repeat ((fail_if_success apply hK);clear hK K));apply hK;clear hK K))
   all_goals first
    | (((refine FinM.ret (s':=⟨[(4,.bool false)],hpS b s a1 a2 a3,143,4⟩) (r := .bool false) (.inr rfl) Tryz.results102 (by refine zk.of' rfl ?_;simp only [wks,reduceIte,Nat.reduceEqDiff,ASt.okB,AV.okB,Nat.reduceLT,implies_true,hpS,gpC,List.map_cons,List.map_nil]) rfl ?_ ?_;(focus (simp only [zw,zt,zq,simprocAttr,az,];done)));exact QS.no hn);done)
    | (exfalso;simp_all;done)
    | fail
  | false =>
   have hu3:=hu
   have hkk' : e.k=c.recv:=by simpa using hkk
   cases hlt:decide (c.recv<c.sent) with
   | true =>
    have hlt' : c.recv<c.sent:=by simpa using hlt
    obtain ⟨t,ht⟩ : ∃ t,z1x s e c [18] (-1) e.g=t:=⟨_,rfl⟩
    have hy:qO s e=some t:=by simp [qO,hcc,hce,hk,hkk',hlt',← ht]
    have hcn:=z3U b (z0e (qF s e.obj c) ⟨[18],e.obj,e.k,e.n,(-1),e.g⟩) (a1+1) a2 a3 e he (by omega)
    rw [show countP (z0e (qF s e.obj c) ⟨[18],e.obj,e.k,e.n,(-1),e.g⟩) e=t from ht] at hcn
    simp only [z0e,qF,hpS,gpC,evA,evC,List.map_cons,List.map_nil,pI] at hcn
    repeat' (first|refine T.zh fun K hK=>?_|apply T.block|(refine T.reg (by kernel_rfl) fun K' hK'=>?_;simp only [bz];(with_reducible repeat' (first|(apply WL.fin;apply hK';clear hK' K')|(refine WL.step fun K2 hK2=>?_;simp only [simprocAttr,az,m1,m3,hcap',q19,q20,q15,q17,hkk,hlt];repeat' (first|(apply hK2;clear hK2 K2)|apply And.intro|intro hb)))))|apply T.skip|apply T.exit|refine T.zg rfl ?_|refine T.zf rfl ?_|refine T.cond rfl (fun hc=>?_) (fun hc=>?_)|apply T.ret|simp only [zb,za,reduceIte,Nat.reduceEqDiff]|((repeat ((fail_if_success apply hK);clear hK K));apply hK;clear hK K))
    all_goals (refine T.drw 7 (by kernel_rfl) (by kernel_rfl) fun K' hK'=>?_;simp only [List.map_cons,List.map_nil];(repeat' (first|(with_reducible refine WL.fin ?_;apply hK';clear hK' K')|(with_reducible refine WD.fin ?_)|((with_reducible first|refine WL.step fun K2 hK2=>?_|refine WD.step fun K2 hK2=>?_);simp only [simprocAttr,az,qw,qm he.o,hm,hu,hu3];(repeat' with_reducible (first|(apply hK2;clear hK2 K2)|apply And.intro|intro hb)))));all_goals ((try simp only [zb,za,reduceIte,Nat.reduceEqDiff]);(try ((repeat ((fail_if_success apply hK);clear hK K));apply hK;clear hK K))))
    all_goals (repeat' (first|refine T.zh fun K hK=>?_|apply T.block|(refine T.reg (by kernel_rfl) fun K' hK'=>?_;simp only [bz];(repeat' (first|(with_reducible refine WL.fin ?_;apply hK';clear hK' K')|((with_reducible refine WL.step fun K2 hK2=>?_);simp only [simprocAttr,az];(repeat' (first|with_reducible (first|(apply hK2;clear hK2 K2)|apply And.intro|intro hb)|((with_reducible refine zM 4 _ _ [0] (Ent.of Tryz.func106 (by kernel_rfl) rfl) (hcn) ?_ ?_ ?_);(focus ((refine ⟨Nat.le_of_ble_eq_true rfl,?_,?_⟩ <;> simp only [pz,reduceIte,Nat.reduceEqDiff,AV.okB,Nat.reduceLT,]);done));(focus (simp [AV.okB];done));rintro hp' r ⟨rfl,rfl⟩;refine ⟨by simp [Kept,zy,AO.handle],?_⟩;simp only [cz,ASt.zR,AO.keep,Nat.reduceLeDiff,reduceIte,Nat.reduceEqDiff,])))))))|apply T.skip|apply T.exit|refine T.zg rfl ?_|refine T.zf rfl ?_|refine T.cond rfl (fun hc=>?_) (fun hc=>?_)|apply T.ret|simp only [zb,za,reduceIte,Nat.reduceEqDiff]|((repeat ((fail_if_success apply hK);clear hK K));apply hK;clear hK K)))
    all_goals first
     | (((refine FinM.ret (s':=⟨[(4,.bool true)],hpS b t (a1+1+1) a2 a3,143,4⟩) (r := .bool true) (.inr rfl) Tryz.results102 (by refine zk.of' rfl ?_;simp only [wks,reduceIte,Nat.reduceEqDiff,ASt.okB,AV.okB,Nat.reduceLT,implies_true,hpS,gpC,List.map_cons,List.map_nil]) rfl ?_ ?_;(focus (simp only [zw,zt,zq,simprocAttr,az,];done)));exact QS.yes t (a1+1+1) a2 a3 hy (by omega) (by omega) (by omega));done)
     | (exfalso;simp_all;done)
     | fail
   | false =>
    have hlt' : ¬ c.recv<c.sent:=by simpa using hlt
    cases hcl:c.closed with
    | true =>
     have hn:qO s e=none:=by simp [qO,hcc,hce,hk,hkk',hlt',hcl]
     repeat' (first|refine T.zh fun K hK=>?_|apply T.block|(refine T.reg (by kernel_rfl) fun K' hK'=>?_;simp only [bz];(with_reducible repeat' (first|(apply WL.fin;apply hK';clear hK' K')|(refine WL.step fun K2 hK2=>?_;simp only [simprocAttr,az,m1,m3,hcap',q19,q20,q15,q17,hkk,hlt,hcl];repeat' (first|(apply hK2;clear hK2 K2)|apply And.intro|intro hb)))))|apply T.skip|apply T.exit|refine T.zg rfl ?_|refine T.zf rfl ?_|refine T.cond rfl (fun hc=>?_) (fun hc=>?_)|apply T.ret|simp only [zb,za,reduceIte,Nat.reduceEqDiff]|((repeat ((fail_if_success apply hK);clear hK K));apply hK;clear hK K))
     all_goals first
      | (((refine FinM.ret (s':=⟨[(4,.bool false)],hpS b s a1 a2 a3,143,4⟩) (r := .bool false) (.inr rfl) Tryz.results102 (by refine zk.of' rfl ?_;simp only [wks,reduceIte,Nat.reduceEqDiff,ASt.okB,AV.okB,Nat.reduceLT,implies_true,hpS,gpC,List.map_cons,List.map_nil]) rfl ?_ ?_;(focus (simp only [zw,zt,zq,simprocAttr,az,];done)));exact QS.no hn);done)
      | (exfalso;simp_all;done)
      | fail
    | false =>
     have hu3:=z2g s.ch e.obj c (v := .agg #[.int .i64 c.cap,.int .i64 c.sent,.int .i64 c.recv,.bool false]) (by rw [chV,hcl])
     cases z2:(s.gor==1) with
     | true =>
      have z2' : s.gor=1:=by simpa using z2
      have hn:qO s e=none:=by simp [qO,hcc,hce,hk,hkk',hlt',hcl,z2']
      repeat' (first|refine T.zh fun K hK=>?_|apply T.block|(refine T.reg (by kernel_rfl) fun K' hK'=>?_;simp only [bz];(with_reducible repeat' (first|(apply WL.fin;apply hK';clear hK' K')|(refine WL.step fun K2 hK2=>?_;simp only [simprocAttr,az,m1,m3,hcap',q19,q20,q15,q17,hkk,hlt,hcl,z2];repeat' (first|(apply hK2;clear hK2 K2)|apply And.intro|intro hb)))))|apply T.skip|apply T.exit|refine T.zg rfl ?_|refine T.zf rfl ?_|refine T.cond rfl (fun hc=>?_) (fun hc=>?_)|apply T.ret|simp only [zb,za,reduceIte,Nat.reduceEqDiff]|((repeat ((fail_if_success apply hK);clear hK K));apply hK;clear hK K))
      all_goals first
       | (((refine FinM.ret (s':=⟨[(4,.bool false)],hpS b s a1 a2 a3,143,4⟩) (r := .bool false) (.inr rfl) Tryz.results102 (by refine zk.of' rfl ?_;simp only [wks,reduceIte,Nat.reduceEqDiff,ASt.okB,AV.okB,Nat.reduceLT,implies_true,hpS,gpC,List.map_cons,List.map_nil]) rfl ?_ ?_;(focus (simp only [zw,zt,zq,simprocAttr,az,];done)));exact QS.no hn);done)
       | (exfalso;simp_all;done)
       | fail
     | false =>
      have z2' : ¬ s.gor=1:=by simpa using z2
      obtain ⟨t,ht⟩ : ∃ t,z1x s e c [15,18,16] (-1) e.g=t:=⟨_,rfl⟩
      have hy:qO s e=some t:=by simp [qO,hcc,hce,hk,hkk',hlt',hcl,z2',← ht]
      have hcn:=z3U b (z0e (qF s e.obj c) ⟨[15,18,16],e.obj,e.k,e.n,(-1),e.g⟩) (a1+1) a2 a3 e he (by omega)
      rw [show countP (z0e (qF s e.obj c) ⟨[15,18,16],e.obj,e.k,e.n,(-1),e.g⟩) e=t from ht] at hcn
      simp only [z0e,qF,hpS,gpC,evA,evC,List.map_cons,List.map_nil,pI] at hcn
      repeat' (first|refine T.zh fun K hK=>?_|apply T.block|(refine T.reg (by kernel_rfl) fun K' hK'=>?_;simp only [bz];(with_reducible repeat' (first|(apply WL.fin;apply hK';clear hK' K')|(refine WL.step fun K2 hK2=>?_;simp only [simprocAttr,az,m1,m3,hcap',q19,q20,q15,q17,hkk,hlt,hcl,z2];repeat' (first|(apply hK2;clear hK2 K2)|apply And.intro|intro hb)))))|apply T.skip|apply T.exit|refine T.zg rfl ?_|refine T.zf rfl ?_|refine T.cond rfl (fun hc=>?_) (fun hc=>?_)|apply T.ret|simp only [zb,za,reduceIte,Nat.reduceEqDiff]|((repeat ((fail_if_success apply hK);clear hK K));apply hK;clear hK K))
      all_goals (refine T.drw 7 (by kernel_rfl) (by kernel_rfl) fun K' hK'=>?_;simp only [List.map_cons,List.map_nil];(repeat' (first|(with_reducible refine WL.fin ?_;apply hK';clear hK' K')|(with_reducible refine WD.fin ?_)|((with_reducible first|refine WL.step fun K2 hK2=>?_|refine WD.step fun K2 hK2=>?_);simp only [simprocAttr,az,qw,qm he.o,hm,hu,hu3];(repeat' with_reducible (first|(apply hK2;clear hK2 K2)|apply And.intro|intro hb)))));all_goals ((try simp only [zb,za,reduceIte,Nat.reduceEqDiff]);(try ((repeat ((fail_if_success apply hK);clear hK K));apply hK;clear hK K))))
      all_goals (repeat' (first|refine T.zh fun K hK=>?_|apply T.block|(refine T.reg (by kernel_rfl) fun K' hK'=>?_;simp only [bz];(repeat' (first|(with_reducible refine WL.fin ?_;apply hK';clear hK' K')|((with_reducible refine WL.step fun K2 hK2=>?_);simp only [simprocAttr,az];(repeat' (first|with_reducible (first|(apply hK2;clear hK2 K2)|apply And.intro|intro hb)|((with_reducible refine zM 4 _ _ [0] (Ent.of Tryz.func106 (by kernel_rfl) rfl) (hcn) ?_ ?_ ?_);(focus ((refine ⟨Nat.le_of_ble_eq_true rfl,?_,?_⟩ <;> simp only [pz,reduceIte,Nat.reduceEqDiff,AV.okB,Nat.reduceLT,]);done));(focus (simp [AV.okB];done));rintro hp' r ⟨rfl,rfl⟩;refine ⟨by simp [Kept,zy,AO.handle],?_⟩;simp only [cz,ASt.zR,AO.keep,Nat.reduceLeDiff,reduceIte,Nat.reduceEqDiff,])))))))|apply T.skip|apply T.exit|refine T.zg rfl ?_|refine T.zf rfl ?_|refine T.cond rfl (fun hc=>?_) (fun hc=>?_)|apply T.ret|simp only [zb,za,reduceIte,Nat.reduceEqDiff]|((repeat ((fail_if_success apply hK);clear hK K));apply hK;clear hK K)))
      all_goals first
       | (((refine FinM.ret (s':=⟨[(4,.bool true)],hpS b t (a1+1+1) a2 a3,143,4⟩) (r := .bool true) (.inr rfl) Tryz.results102 (by refine zk.of' rfl ?_;simp only [wks,reduceIte,Nat.reduceEqDiff,ASt.okB,AV.okB,Nat.reduceLT,implies_true,hpS,gpC,List.map_cons,List.map_nil]) rfl ?_ ?_;(focus (simp only [zw,zt,zq,simprocAttr,az,];done)));exact QS.yes t (a1+1+1) a2 a3 hy (by omega) (by omega) (by omega));done)
       | (exfalso;simp_all;done)
       | fail
 have q19:(e.kind==19)=false:=by simpa using hk
 have q20:(e.kind==20)=false:=by simpa using hk20
 have q15:(e.kind==15)=false:=by simpa using hk15
 have q17:(e.kind==17)=false:=by simpa using hk17
 have hn:qO s e=none:=by simp [qO,hcc,hce,hk,hk20,hk15,hk17]
 repeat' (first|refine T.zh fun K hK=>?_|apply T.block|(refine T.reg (by kernel_rfl) fun K' hK'=>?_;simp only [bz];(with_reducible repeat' (first|(apply WL.fin;apply hK';clear hK' K')|(refine WL.step fun K2 hK2=>?_;simp only [simprocAttr,az,m1,m3,hcap',q19,q20,q15,q17];repeat' (first|(apply hK2;clear hK2 K2)|apply And.intro|intro hb)))))|apply T.skip|apply T.exit|refine T.zg rfl ?_|refine T.zf rfl ?_|refine T.cond rfl (fun hc=>?_) (fun hc=>?_)|apply T.ret|simp only [zb,za,reduceIte,Nat.reduceEqDiff]|((repeat ((fail_if_success apply hK);clear hK K));apply hK;clear hK K))
 all_goals first
  | (((refine FinM.ret (s':=⟨[(4,.bool false)],hpS b s a1 a2 a3,143,4⟩) (r := .bool false) (.inr rfl) Tryz.results102 (by refine zk.of' rfl ?_;simp only [wks,reduceIte,Nat.reduceEqDiff,ASt.okB,AV.okB,Nat.reduceLT,implies_true,hpS,gpC,List.map_cons,List.map_nil]) rfl ?_ ?_;(focus (simp only [zw,zt,zq,simprocAttr,az,];done)));exact QS.no hn);done)
  | (exfalso;simp_all;done)
  | fail
theorem simple_ok (b:Nat) (s:Ps) (a1 a2 a3:Nat) (e:Ev) (he:Oki e) (h2:a2<1000000) (h3:a3<1000000):MemC Tryz.prog 103 4 (hpS b s a1 a2 a3) [.ptr 0 0,evA e] (QS b s a1 a2 a3 (qN s e)):=by
 have hm2:a2<maxLen:=by unfold maxLen;omega
 have hm3:a3<maxLen:=by unfold maxLen;omega
 have hpe:hpS b s a1 a2 a3 = [(0,.boxP (some b) 154 [.int s.ev,.int s.gor,.own 1,.own 2,.own 3,.p (.seq 1 (s.op.kinds.map fun x => [pI x])),.int s.op.obj,.int s.op.k,.int s.op.n,.int s.op.snd,.int s.op.rcv]),(1,.map none Tryz.prog 3 a1 (inM chV s.ch)),(2,.map none Tryz.prog 147 a2 (plM muV s.mu)),(3,.map none Tryz.prog 147 a3 (plM Value.bool (dnO s.dn)))]:=rfl
 rw [hpe]
 simp only [evA,evC,List.map_cons,List.map_nil]
 refine MemC.of Tryz.func103 rfl 96 rfl (by decide) ?_;simp only [qi,frOf]
 repeat' (first|refine T.zh fun K hK=>?_|apply T.block|(refine T.reg (by kernel_rfl) fun K' hK'=>?_;simp only [bz];(with_reducible repeat' (first|(apply WL.fin;apply hK';clear hK' K')|(refine WL.step fun K2 hK2=>?_;simp only [simprocAttr,az];repeat' (first|(apply hK2;clear hK2 K2)|apply And.intro|intro hb)))))|apply T.skip|apply T.exit|refine T.zg rfl ?_|refine T.zf rfl ?_|refine T.cond rfl (fun hc=>?_) (fun hc=>?_)|apply T.ret|simp only [zb,za,reduceIte,Nat.reduceEqDiff]|((repeat ((fail_if_success apply hK);clear hK K));apply hK;clear hK K))
 obtain ⟨m,hmm⟩ : ∃ m,(s.mu e.obj e.off).getD mu0=m:=⟨_,rfl⟩
 have hmu:muP s e=m:=hmm
 refine T.comm [some (0,1),some (0,1),some (0,1),some (0,1),some (0,1),some (0,1),none,none] (by kernel_rfl) (by kernel_rfl) fun K' hK'=>?_;simp only [List.map_cons,List.map_nil,List.zip_cons_cons,List.zip_nil_left];(repeat' (first|(with_reducible refine WC.fin ?_;apply hK';clear hK' K')|((first|(with_reducible refine WC.z0Q fun K2 hK2=>?_)|(with_reducible refine WC.stepW fun K2 hK2=>?_));simp only [simprocAttr,implies_true,amz,WCg,WCv,WOw,allP,dav,Chk,List.filter_cons,List.filter_nil,bne_self_eq_false,Nat.reduceBneDiff,Bool.false_eq_true,tys,z08,qX he.o he.f,z3f _ _ he.o he.f,mu_z,cv_mu,hmm];(repeat' (first|(with_reducible refine hK2 _ _ ?_;clear hK2 K2)|with_reducible (first|(apply hK2;clear hK2 K2)|apply And.intro|intro hb)|(with_reducible rfl)|((with_reducible show @Eq ASt _ _);rfl) )))));all_goals ((try simp only [zb,za,reduceIte,Nat.reduceEqDiff]);(try ((repeat ((fail_if_success apply hK);clear hK K));apply hK;clear hK K)))
 by_cases k6:e.kind=6
 ·have hk:=k6
  have q6:(e.kind==6)=true:=by simp [k6]
  have q7:(e.kind==7)=false:=by simp [k6]
  have q8:(e.kind==8)=false:=by simp [k6]
  have q9:(e.kind==9)=false:=by simp [k6]
  have q12:(e.kind==12)=false:=by simp [k6]
  have q13:(e.kind==13)=false:=by simp [k6]
  have q14:(e.kind==14)=false:=by simp [k6]
  cases hl:m.locked with
  | true =>
   have hn:qN s e=none:=by simp [qN,hmu,hk,hl]
   repeat' (first|refine T.zh fun K hK=>?_|apply T.block|(refine T.reg (by kernel_rfl) fun K' hK'=>?_;simp only [bz];(with_reducible repeat' (first|(apply WL.fin;apply hK';clear hK' K')|(refine WL.step fun K2 hK2=>?_;simp only [simprocAttr,az,q6,hl];repeat' (first|(apply hK2;clear hK2 K2)|apply And.intro|intro hb)))))|apply T.skip|apply T.exit|refine T.zg rfl ?_|refine T.zf rfl ?_|refine T.cond rfl (fun hc=>?_) (fun hc=>?_)|apply T.ret|simp only [zb,za,reduceIte,Nat.reduceEqDiff]|((repeat ((fail_if_success apply hK);clear hK K));apply hK;clear hK K))
   all_goals first
    | (((refine FinM.ret (s':=⟨[(4,.bool false)],hpS b s a1 a2 a3,96,4⟩) (r := .bool false) (.inr rfl) Tryz.results103 (by refine zk.of' rfl ?_;simp only [wks,reduceIte,Nat.reduceEqDiff,ASt.okB,AV.okB,Nat.reduceLT,implies_true,hpS,gpC,List.map_cons,List.map_nil]) rfl ?_ ?_;(focus (simp only [zw,zt,zq,simprocAttr,az,];done)));exact QS.no hn);done)
    | (exfalso;simp_all;done)
    | fail
  | false =>
   cases hr:decide (0<m.readers) with
   | true =>
    have hr' : 0<m.readers:=by simpa using hr
    have hn:qN s e=none:=by simp [qN,hmu,hk,hl,hr']
    repeat' (first|refine T.zh fun K hK=>?_|apply T.block|(refine T.reg (by kernel_rfl) fun K' hK'=>?_;simp only [bz];(with_reducible repeat' (first|(apply WL.fin;apply hK';clear hK' K')|(refine WL.step fun K2 hK2=>?_;simp only [simprocAttr,az,q6,hl,hr];repeat' (first|(apply hK2;clear hK2 K2)|apply And.intro|intro hb)))))|apply T.skip|apply T.exit|refine T.zg rfl ?_|refine T.zf rfl ?_|refine T.cond rfl (fun hc=>?_) (fun hc=>?_)|apply T.ret|simp only [zb,za,reduceIte,Nat.reduceEqDiff]|((repeat ((fail_if_success apply hK);clear hK K));apply hK;clear hK K))
    all_goals first
     | (((refine FinM.ret (s':=⟨[(4,.bool false)],hpS b s a1 a2 a3,96,4⟩) (r := .bool false) (.inr rfl) Tryz.results103 (by refine zk.of' rfl ?_;simp only [wks,reduceIte,Nat.reduceEqDiff,ASt.okB,AV.okB,Nat.reduceLT,implies_true,hpS,gpC,List.map_cons,List.map_nil]) rfl ?_ ?_;(focus (simp only [zw,zt,zq,simprocAttr,az,];done)));exact QS.no hn);done)
     | (exfalso;simp_all;done)
     | fail
   | false =>
    have hr' : ¬ 0<m.readers:=by simpa using hr
    have hy:qN s e=some (setMu s e.obj e.off { m with locked:=true }):=by simp [qN,hmu,hk,hl,hr']
    have hu:=z6j s.mu he.o he.f { m with locked:=true } (v := .agg #[.bool true,.int .i64 m.readers]) (by simp [muV, *])
    repeat' (first|refine T.zh fun K hK=>?_|apply T.block|(refine T.reg (by kernel_rfl) fun K' hK'=>?_;simp only [bz];(with_reducible repeat' (first|(apply WL.fin;apply hK';clear hK' K')|(refine WL.step fun K2 hK2=>?_;simp only [simprocAttr,az,q6,hl,hr];repeat' (first|(apply hK2;clear hK2 K2)|apply And.intro|intro hb)))))|apply T.skip|apply T.exit|refine T.zg rfl ?_|refine T.zf rfl ?_|refine T.cond rfl (fun hc=>?_) (fun hc=>?_)|apply T.ret|simp only [zb,za,reduceIte,Nat.reduceEqDiff]|((repeat ((fail_if_success apply hK);clear hK K));apply hK;clear hK K))
    all_goals (refine T.drw 6 (by kernel_rfl) (by kernel_rfl) fun K' hK'=>?_;simp only [List.map_cons,List.map_nil];(repeat' (first|(with_reducible refine WL.fin ?_;apply hK';clear hK' K')|(with_reducible refine WD.fin ?_)|((with_reducible first|refine WL.step fun K2 hK2=>?_|refine WD.step fun K2 hK2=>?_);simp only [simprocAttr,az,z08,qX he.o he.f,hm2];(repeat' with_reducible (first|(apply hK2;clear hK2 K2)|apply And.intro|intro hb)))));all_goals ((try simp only [zb,za,reduceIte,Nat.reduceEqDiff]);(try ((repeat ((fail_if_success apply hK);clear hK K));apply hK;clear hK K))))
    all_goals (repeat' (first|refine T.zh fun K hK=>?_|apply T.block|(refine T.reg (by kernel_rfl) fun K' hK'=>?_;simp only [bz];(with_reducible repeat' (first|(apply WL.fin;apply hK';clear hK' K')|(refine WL.step fun K2 hK2=>?_;simp only [simprocAttr,az];repeat' (first|(apply hK2;clear hK2 K2)|apply And.intro|intro hb)))))|apply T.skip|apply T.exit|refine T.zg rfl ?_|refine T.zf rfl ?_|refine T.cond rfl (fun hc=>?_) (fun hc=>?_)|apply T.ret|simp only [zb,za,reduceIte,Nat.reduceEqDiff]|((repeat ((fail_if_success apply hK);clear hK K));apply hK;clear hK K)))
    all_goals first
     | (((refine FinM.ret (s':=⟨[(4,.bool true)],hpS b (setMu s e.obj e.off { m with locked:=true }) a1 (a2+1) a3,96,4⟩) (r := .bool true) (.inr rfl) Tryz.results103 (by refine zk.of' rfl ?_;simp only [wks,reduceIte,Nat.reduceEqDiff,ASt.okB,AV.okB,Nat.reduceLT,implies_true,setMu,hu,hpS,gpC,List.map_cons,List.map_nil]) rfl ?_ ?_;(focus (simp only [zw,zt,zq,simprocAttr,az,];done)));exact QS.yes (setMu s e.obj e.off { m with locked:=true }) a1 (a2+1) a3 hy (by omega) (by omega) (by omega));done)
     | (exfalso;simp_all;done)
     | fail
 by_cases k7:e.kind=7
 ·have hk:=k7
  have q6:(e.kind==6)=false:=by simp [k7]
  have q7:(e.kind==7)=true:=by simp [k7]
  have q8:(e.kind==8)=false:=by simp [k7]
  have q9:(e.kind==9)=false:=by simp [k7]
  have q12:(e.kind==12)=false:=by simp [k7]
  have q13:(e.kind==13)=false:=by simp [k7]
  have q14:(e.kind==14)=false:=by simp [k7]
  cases hl:m.locked with
  | false =>
   have hn:qN s e=none:=by simp [qN,hmu,hk,hl]
   repeat' (first|refine T.zh fun K hK=>?_|apply T.block|(refine T.reg (by kernel_rfl) fun K' hK'=>?_;simp only [bz];(with_reducible repeat' (first|(apply WL.fin;apply hK';clear hK' K')|(refine WL.step fun K2 hK2=>?_;simp only [simprocAttr,az,q6,q7,hl];repeat' (first|(apply hK2;clear hK2 K2)|apply And.intro|intro hb)))))|apply T.skip|apply T.exit|refine T.zg rfl ?_|refine T.zf rfl ?_|refine T.cond rfl (fun hc=>?_) (fun hc=>?_)|apply T.ret|simp only [zb,za,reduceIte,Nat.reduceEqDiff]|((repeat ((fail_if_success apply hK);clear hK K));apply hK;clear hK K))
   all_goals first
    | (((refine FinM.ret (s':=⟨[(4,.bool false)],hpS b s a1 a2 a3,96,4⟩) (r := .bool false) (.inr rfl) Tryz.results103 (by refine zk.of' rfl ?_;simp only [wks,reduceIte,Nat.reduceEqDiff,ASt.okB,AV.okB,Nat.reduceLT,implies_true,hpS,gpC,List.map_cons,List.map_nil]) rfl ?_ ?_;(focus (simp only [zw,zt,zq,simprocAttr,az,];done)));exact QS.no hn);done)
    | (exfalso;simp_all;done)
    | fail
  | true =>
   have hy:qN s e=some (setMu s e.obj e.off { m with locked:=false }):=by simp [qN,hmu,hk,hl]
   have hu:=z6j s.mu he.o he.f { m with locked:=false } (v := .agg #[.bool false,.int .i64 m.readers]) (by simp [muV, *])
   repeat' (first|refine T.zh fun K hK=>?_|apply T.block|(refine T.reg (by kernel_rfl) fun K' hK'=>?_;simp only [bz];(with_reducible repeat' (first|(apply WL.fin;apply hK';clear hK' K')|(refine WL.step fun K2 hK2=>?_;simp only [simprocAttr,az,q6,q7,hl];repeat' (first|(apply hK2;clear hK2 K2)|apply And.intro|intro hb)))))|apply T.skip|apply T.exit|refine T.zg rfl ?_|refine T.zf rfl ?_|refine T.cond rfl (fun hc=>?_) (fun hc=>?_)|apply T.ret|simp only [zb,za,reduceIte,Nat.reduceEqDiff]|((repeat ((fail_if_success apply hK);clear hK K));apply hK;clear hK K))
   all_goals (refine T.drw 6 (by kernel_rfl) (by kernel_rfl) fun K' hK'=>?_;simp only [List.map_cons,List.map_nil];(repeat' (first|(with_reducible refine WL.fin ?_;apply hK';clear hK' K')|(with_reducible refine WD.fin ?_)|((with_reducible first|refine WL.step fun K2 hK2=>?_|refine WD.step fun K2 hK2=>?_);simp only [simprocAttr,az,z08,qX he.o he.f,hm2];(repeat' with_reducible (first|(apply hK2;clear hK2 K2)|apply And.intro|intro hb)))));all_goals ((try simp only [zb,za,reduceIte,Nat.reduceEqDiff]);(try ((repeat ((fail_if_success apply hK);clear hK K));apply hK;clear hK K))))
   all_goals (repeat' (first|refine T.zh fun K hK=>?_|apply T.block|(refine T.reg (by kernel_rfl) fun K' hK'=>?_;simp only [bz];(with_reducible repeat' (first|(apply WL.fin;apply hK';clear hK' K')|(refine WL.step fun K2 hK2=>?_;simp only [simprocAttr,az];repeat' (first|(apply hK2;clear hK2 K2)|apply And.intro|intro hb)))))|apply T.skip|apply T.exit|refine T.zg rfl ?_|refine T.zf rfl ?_|refine T.cond rfl (fun hc=>?_) (fun hc=>?_)|apply T.ret|simp only [zb,za,reduceIte,Nat.reduceEqDiff]|((repeat ((fail_if_success apply hK);clear hK K));apply hK;clear hK K)))
   all_goals first
    | (((refine FinM.ret (s':=⟨[(4,.bool true)],hpS b (setMu s e.obj e.off { m with locked:=false }) a1 (a2+1) a3,96,4⟩) (r := .bool true) (.inr rfl) Tryz.results103 (by refine zk.of' rfl ?_;simp only [wks,reduceIte,Nat.reduceEqDiff,ASt.okB,AV.okB,Nat.reduceLT,implies_true,setMu,hu,hpS,gpC,List.map_cons,List.map_nil]) rfl ?_ ?_;(focus (simp only [zw,zt,zq,simprocAttr,az,];done)));exact QS.yes (setMu s e.obj e.off { m with locked:=false }) a1 (a2+1) a3 hy (by omega) (by omega) (by omega));done)
    | (exfalso;simp_all;done)
    | fail
 by_cases k8:e.kind=8
 ·have hk:=k8
  have q6:(e.kind==6)=false:=by simp [k8]
  have q7:(e.kind==7)=false:=by simp [k8]
  have q8:(e.kind==8)=true:=by simp [k8]
  have q9:(e.kind==9)=false:=by simp [k8]
  have q12:(e.kind==12)=false:=by simp [k8]
  have q13:(e.kind==13)=false:=by simp [k8]
  have q14:(e.kind==14)=false:=by simp [k8]
  cases hl:m.locked with
  | true =>
   have hn:qN s e=none:=by simp [qN,hmu,hk,hl]
   repeat' (first|refine T.zh fun K hK=>?_|apply T.block|(refine T.reg (by kernel_rfl) fun K' hK'=>?_;simp only [bz];(with_reducible repeat' (first|(apply WL.fin;apply hK';clear hK' K')|(refine WL.step fun K2 hK2=>?_;simp only [simprocAttr,az,q6,q7,q8,hl];repeat' (first|(apply hK2;clear hK2 K2)|apply And.intro|intro hb)))))|apply T.skip|apply T.exit|refine T.zg rfl ?_|refine T.zf rfl ?_|refine T.cond rfl (fun hc=>?_) (fun hc=>?_)|apply T.ret|simp only [zb,za,reduceIte,Nat.reduceEqDiff]|((repeat ((fail_if_success apply hK);clear hK K));apply hK;clear hK K))
   all_goals first
    | (((refine FinM.ret (s':=⟨[(4,.bool false)],hpS b s a1 a2 a3,96,4⟩) (r := .bool false) (.inr rfl) Tryz.results103 (by refine zk.of' rfl ?_;simp only [wks,reduceIte,Nat.reduceEqDiff,ASt.okB,AV.okB,Nat.reduceLT,implies_true,hpS,gpC,List.map_cons,List.map_nil]) rfl ?_ ?_;(focus (simp only [zw,zt,zq,simprocAttr,az,];done)));exact QS.no hn);done)
    | (exfalso;simp_all;done)
    | fail
  | false =>
   have hy:qN s e=some (setMu s e.obj e.off { m with readers:=wI (m.readers+1) }):=by simp [qN,hmu,hk,hl]
   have hu:=z6j s.mu he.o he.f { m with readers:=wI (m.readers+1) } (v := .agg #[.bool false,.int .i64 (IntKind.i64.wrap (m.readers+1))]) (by simp [muV, *])
   repeat' (first|refine T.zh fun K hK=>?_|apply T.block|(refine T.reg (by kernel_rfl) fun K' hK'=>?_;simp only [bz];(with_reducible repeat' (first|(apply WL.fin;apply hK';clear hK' K')|(refine WL.step fun K2 hK2=>?_;simp only [simprocAttr,az,q6,q7,q8,hl];repeat' (first|(apply hK2;clear hK2 K2)|apply And.intro|intro hb)))))|apply T.skip|apply T.exit|refine T.zg rfl ?_|refine T.zf rfl ?_|refine T.cond rfl (fun hc=>?_) (fun hc=>?_)|apply T.ret|simp only [zb,za,reduceIte,Nat.reduceEqDiff]|((repeat ((fail_if_success apply hK);clear hK K));apply hK;clear hK K))
   all_goals (refine T.drw 6 (by kernel_rfl) (by kernel_rfl) fun K' hK'=>?_;simp only [List.map_cons,List.map_nil];(repeat' (first|(with_reducible refine WL.fin ?_;apply hK';clear hK' K')|(with_reducible refine WD.fin ?_)|((with_reducible first|refine WL.step fun K2 hK2=>?_|refine WD.step fun K2 hK2=>?_);simp only [simprocAttr,az,z08,qX he.o he.f,hm2];(repeat' with_reducible (first|(apply hK2;clear hK2 K2)|apply And.intro|intro hb)))));all_goals ((try simp only [zb,za,reduceIte,Nat.reduceEqDiff]);(try ((repeat ((fail_if_success apply hK);clear hK K));apply hK;clear hK K))))
   all_goals (repeat' (first|refine T.zh fun K hK=>?_|apply T.block|(refine T.reg (by kernel_rfl) fun K' hK'=>?_;simp only [bz];(with_reducible repeat' (first|(apply WL.fin;apply hK';clear hK' K')|(refine WL.step fun K2 hK2=>?_;simp only [simprocAttr,az];repeat' (first|(apply hK2;clear hK2 K2)|apply And.intro|intro hb)))))|apply T.skip|apply T.exit|refine T.zg rfl ?_|refine T.zf rfl ?_|refine T.cond rfl (fun hc=>?_) (fun hc=>?_)|apply T.ret|simp only [zb,za,reduceIte,Nat.reduceEqDiff]|((repeat ((fail_if_success apply hK);clear hK K));apply hK;clear hK K)))
   all_goals first
    | (((refine FinM.ret (s':=⟨[(4,.bool true)],hpS b (setMu s e.obj e.off { m with readers:=wI (m.readers+1) }) a1 (a2+1) a3,96,4⟩) (r := .bool true) (.inr rfl) Tryz.results103 (by refine zk.of' rfl ?_;simp only [wks,reduceIte,Nat.reduceEqDiff,ASt.okB,AV.okB,Nat.reduceLT,implies_true,setMu,hu,hpS,gpC,List.map_cons,List.map_nil]) rfl ?_ ?_;(focus (simp only [zw,zt,zq,simprocAttr,az,];done)));exact QS.yes (setMu s e.obj e.off { m with readers:=wI (m.readers+1) }) a1 (a2+1) a3 hy (by omega) (by omega) (by omega));done)
    | (exfalso;simp_all;done)
    | fail
 by_cases k9:e.kind=9
 ·have hk:=k9
  have q6:(e.kind==6)=false:=by simp [k9]
  have q7:(e.kind==7)=false:=by simp [k9]
  have q8:(e.kind==8)=false:=by simp [k9]
  have q9:(e.kind==9)=true:=by simp [k9]
  have q12:(e.kind==12)=false:=by simp [k9]
  have q13:(e.kind==13)=false:=by simp [k9]
  have q14:(e.kind==14)=false:=by simp [k9]
  cases hr:(m.readers==0) with
  | true =>
   have hr' : m.readers=0:=by simpa using hr
   have hn:qN s e=none:=by simp [qN,hmu,hk,hr']
   repeat' (first|refine T.zh fun K hK=>?_|apply T.block|(refine T.reg (by kernel_rfl) fun K' hK'=>?_;simp only [bz];(with_reducible repeat' (first|(apply WL.fin;apply hK';clear hK' K')|(refine WL.step fun K2 hK2=>?_;simp only [simprocAttr,az,q6,q7,q8,q9,hr];repeat' (first|(apply hK2;clear hK2 K2)|apply And.intro|intro hb)))))|apply T.skip|apply T.exit|refine T.zg rfl ?_|refine T.zf rfl ?_|refine T.cond rfl (fun hc=>?_) (fun hc=>?_)|apply T.ret|simp only [zb,za,reduceIte,Nat.reduceEqDiff]|((repeat ((fail_if_success apply hK);clear hK K));apply hK;clear hK K))
   all_goals first
    | (((refine FinM.ret (s':=⟨[(4,.bool false)],hpS b s a1 a2 a3,96,4⟩) (r := .bool false) (.inr rfl) Tryz.results103 (by refine zk.of' rfl ?_;simp only [wks,reduceIte,Nat.reduceEqDiff,ASt.okB,AV.okB,Nat.reduceLT,implies_true,hpS,gpC,List.map_cons,List.map_nil]) rfl ?_ ?_;(focus (simp only [zw,zt,zq,simprocAttr,az,];done)));exact QS.no hn);done)
    | (exfalso;simp_all;done)
    | fail
  | false =>
   have hr' : ¬ m.readers=0:=by simpa using hr
   have hy:qN s e=some (setMu s e.obj e.off { m with readers:=wI (m.readers-1) }):=by simp [qN,hmu,hk,hr']
   have hu:=z6j s.mu he.o he.f { m with readers:=wI (m.readers-1) } (v := .agg #[.bool m.locked,.int .i64 (IntKind.i64.wrap (m.readers-1))]) (by simp [muV, *])
   repeat' (first|refine T.zh fun K hK=>?_|apply T.block|(refine T.reg (by kernel_rfl) fun K' hK'=>?_;simp only [bz];(with_reducible repeat' (first|(apply WL.fin;apply hK';clear hK' K')|(refine WL.step fun K2 hK2=>?_;simp only [simprocAttr,az,q6,q7,q8,q9,hr];repeat' (first|(apply hK2;clear hK2 K2)|apply And.intro|intro hb)))))|apply T.skip|apply T.exit|refine T.zg rfl ?_|refine T.zf rfl ?_|refine T.cond rfl (fun hc=>?_) (fun hc=>?_)|apply T.ret|simp only [zb,za,reduceIte,Nat.reduceEqDiff]|((repeat ((fail_if_success apply hK);clear hK K));apply hK;clear hK K))
   all_goals (refine T.drw 6 (by kernel_rfl) (by kernel_rfl) fun K' hK'=>?_;simp only [List.map_cons,List.map_nil];(repeat' (first|(with_reducible refine WL.fin ?_;apply hK';clear hK' K')|(with_reducible refine WD.fin ?_)|((with_reducible first|refine WL.step fun K2 hK2=>?_|refine WD.step fun K2 hK2=>?_);simp only [simprocAttr,az,z08,qX he.o he.f,hm2];(repeat' with_reducible (first|(apply hK2;clear hK2 K2)|apply And.intro|intro hb)))));all_goals ((try simp only [zb,za,reduceIte,Nat.reduceEqDiff]);(try ((repeat ((fail_if_success apply hK);clear hK K));apply hK;clear hK K))))
   all_goals (repeat' (first|refine T.zh fun K hK=>?_|apply T.block|(refine T.reg (by kernel_rfl) fun K' hK'=>?_;simp only [bz];(with_reducible repeat' (first|(apply WL.fin;apply hK';clear hK' K')|(refine WL.step fun K2 hK2=>?_;simp only [simprocAttr,az];repeat' (first|(apply hK2;clear hK2 K2)|apply And.intro|intro hb)))))|apply T.skip|apply T.exit|refine T.zg rfl ?_|refine T.zf rfl ?_|refine T.cond rfl (fun hc=>?_) (fun hc=>?_)|apply T.ret|simp only [zb,za,reduceIte,Nat.reduceEqDiff]|((repeat ((fail_if_success apply hK);clear hK K));apply hK;clear hK K)))
   all_goals first
    | (((refine FinM.ret (s':=⟨[(4,.bool true)],hpS b (setMu s e.obj e.off { m with readers:=wI (m.readers-1) }) a1 (a2+1) a3,96,4⟩) (r := .bool true) (.inr rfl) Tryz.results103 (by refine zk.of' rfl ?_;simp only [wks,reduceIte,Nat.reduceEqDiff,ASt.okB,AV.okB,Nat.reduceLT,implies_true,setMu,hu,hpS,gpC,List.map_cons,List.map_nil]) rfl ?_ ?_;(focus (simp only [zw,zt,zq,simprocAttr,az,];done)));exact QS.yes (setMu s e.obj e.off { m with readers:=wI (m.readers-1) }) a1 (a2+1) a3 hy (by omega) (by omega) (by omega));done)
    | (exfalso;simp_all;done)
    | fail
 by_cases k12:e.kind=12
 ·have hk:=k12
  have q6:(e.kind==6)=false:=by simp [k12]
  have q7:(e.kind==7)=false:=by simp [k12]
  have q8:(e.kind==8)=false:=by simp [k12]
  have q9:(e.kind==9)=false:=by simp [k12]
  have q12:(e.kind==12)=true:=by simp [k12]
  have q13:(e.kind==13)=false:=by simp [k12]
  have q14:(e.kind==14)=false:=by simp [k12]
  cases hd:s.dn e.obj e.off with
  | true =>
   have hn:qN s e=none:=by simp [qN,hmu,hk,hd]
   repeat' (first|refine T.zh fun K hK=>?_|apply T.block|(refine T.reg (by kernel_rfl) fun K' hK'=>?_;simp only [bz];(with_reducible repeat' (first|(apply WL.fin;apply hK';clear hK' K')|(refine WL.step fun K2 hK2=>?_;simp only [simprocAttr,az,q6,q7,q8,q9,q12];repeat' (first|(apply hK2;clear hK2 K2)|apply And.intro|intro hb)))))|apply T.skip|apply T.exit|refine T.zg rfl ?_|refine T.zf rfl ?_|refine T.cond rfl (fun hc=>?_) (fun hc=>?_)|apply T.ret|simp only [zb,za,reduceIte,Nat.reduceEqDiff]|((repeat ((fail_if_success apply hK);clear hK K));apply hK;clear hK K))
   all_goals (refine T.drw 6 (by kernel_rfl) (by kernel_rfl) fun K' hK'=>?_;simp only [List.map_cons,List.map_nil];(repeat' (first|(with_reducible refine WL.fin ?_;apply hK';clear hK' K')|(with_reducible refine WD.fin ?_)|((with_reducible first|refine WL.step fun K2 hK2=>?_|refine WD.step fun K2 hK2=>?_);simp only [simprocAttr,az,z08,qX he.o he.f,z3f _ _ he.o he.f,dn_z,hd];(repeat' with_reducible (first|(apply hK2;clear hK2 K2)|apply And.intro|intro hb)))));all_goals ((try simp only [zb,za,reduceIte,Nat.reduceEqDiff]);(try ((repeat ((fail_if_success apply hK);clear hK K));apply hK;clear hK K))))
   all_goals (repeat' (first|refine T.zh fun K hK=>?_|apply T.block|(refine T.reg (by kernel_rfl) fun K' hK'=>?_;simp only [bz];(with_reducible repeat' (first|(apply WL.fin;apply hK';clear hK' K')|(refine WL.step fun K2 hK2=>?_;simp only [simprocAttr,az];repeat' (first|(apply hK2;clear hK2 K2)|apply And.intro|intro hb)))))|apply T.skip|apply T.exit|refine T.zg rfl ?_|refine T.zf rfl ?_|refine T.cond rfl (fun hc=>?_) (fun hc=>?_)|apply T.ret|simp only [zb,za,reduceIte,Nat.reduceEqDiff]|((repeat ((fail_if_success apply hK);clear hK K));apply hK;clear hK K)))
   all_goals first
    | (((refine FinM.ret (s':=⟨[(4,.bool false)],hpS b s a1 a2 a3,96,4⟩) (r := .bool false) (.inr rfl) Tryz.results103 (by refine zk.of' rfl ?_;simp only [wks,reduceIte,Nat.reduceEqDiff,ASt.okB,AV.okB,Nat.reduceLT,implies_true,hpS,gpC,List.map_cons,List.map_nil]) rfl ?_ ?_;(focus (simp only [zw,zt,zq,simprocAttr,az,];done)));exact QS.no hn);done)
    | (exfalso;simp_all;done)
    | fail
  | false =>
   have hy:qN s e=some (za4 s e.obj e.off):=by simp [qN,hk,hd]
   have hu:=dn_upd s.dn he.o he.f
   repeat' (first|refine T.zh fun K hK=>?_|apply T.block|(refine T.reg (by kernel_rfl) fun K' hK'=>?_;simp only [bz];(with_reducible repeat' (first|(apply WL.fin;apply hK';clear hK' K')|(refine WL.step fun K2 hK2=>?_;simp only [simprocAttr,az,q6,q7,q8,q9,q12];repeat' (first|(apply hK2;clear hK2 K2)|apply And.intro|intro hb)))))|apply T.skip|apply T.exit|refine T.zg rfl ?_|refine T.zf rfl ?_|refine T.cond rfl (fun hc=>?_) (fun hc=>?_)|apply T.ret|simp only [zb,za,reduceIte,Nat.reduceEqDiff]|((repeat ((fail_if_success apply hK);clear hK K));apply hK;clear hK K))
   all_goals (refine T.drw 6 (by kernel_rfl) (by kernel_rfl) fun K' hK'=>?_;simp only [List.map_cons,List.map_nil];(repeat' (first|(with_reducible refine WL.fin ?_;apply hK';clear hK' K')|(with_reducible refine WD.fin ?_)|((with_reducible first|refine WL.step fun K2 hK2=>?_|refine WD.step fun K2 hK2=>?_);simp only [simprocAttr,az,z08,qX he.o he.f,z3f _ _ he.o he.f,dn_z,hd];(repeat' with_reducible (first|(apply hK2;clear hK2 K2)|apply And.intro|intro hb)))));all_goals ((try simp only [zb,za,reduceIte,Nat.reduceEqDiff]);(try ((repeat ((fail_if_success apply hK);clear hK K));apply hK;clear hK K))))
   all_goals (repeat' (first|refine T.zh fun K hK=>?_|apply T.block|(refine T.reg (by kernel_rfl) fun K' hK'=>?_;simp only [bz];(with_reducible repeat' (first|(apply WL.fin;apply hK';clear hK' K')|(refine WL.step fun K2 hK2=>?_;simp only [simprocAttr,az];repeat' (first|(apply hK2;clear hK2 K2)|apply And.intro|intro hb)))))|apply T.skip|apply T.exit|refine T.zg rfl ?_|refine T.zf rfl ?_|refine T.cond rfl (fun hc=>?_) (fun hc=>?_)|apply T.ret|simp only [zb,za,reduceIte,Nat.reduceEqDiff]|((repeat ((fail_if_success apply hK);clear hK K));apply hK;clear hK K)))
   all_goals (refine T.drw 5 (by kernel_rfl) (by kernel_rfl) fun K' hK'=>?_;simp only [List.map_cons,List.map_nil];(repeat' (first|(with_reducible refine WL.fin ?_;apply hK';clear hK' K')|(with_reducible refine WD.fin ?_)|((with_reducible first|refine WL.step fun K2 hK2=>?_|refine WD.step fun K2 hK2=>?_);simp only [simprocAttr,az,z08,qX he.o he.f,hm3];(repeat' with_reducible (first|(apply hK2;clear hK2 K2)|apply And.intro|intro hb)))));all_goals ((try simp only [zb,za,reduceIte,Nat.reduceEqDiff]);(try ((repeat ((fail_if_success apply hK);clear hK K));apply hK;clear hK K))))
   all_goals (repeat' (first|refine T.zh fun K hK=>?_|apply T.block|(refine T.reg (by kernel_rfl) fun K' hK'=>?_;simp only [bz];(with_reducible repeat' (first|(apply WL.fin;apply hK';clear hK' K')|(refine WL.step fun K2 hK2=>?_;simp only [simprocAttr,az];repeat' (first|(apply hK2;clear hK2 K2)|apply And.intro|intro hb)))))|apply T.skip|apply T.exit|refine T.zg rfl ?_|refine T.zf rfl ?_|refine T.cond rfl (fun hc=>?_) (fun hc=>?_)|apply T.ret|simp only [zb,za,reduceIte,Nat.reduceEqDiff]|((repeat ((fail_if_success apply hK);clear hK K));apply hK;clear hK K)))
   all_goals first
    | (((refine FinM.ret (s':=⟨[(4,.bool true)],hpS b (za4 s e.obj e.off) a1 a2 (a3+1),96,4⟩) (r := .bool true) (.inr rfl) Tryz.results103 (by refine zk.of' rfl ?_;simp only [wks,reduceIte,Nat.reduceEqDiff,ASt.okB,AV.okB,Nat.reduceLT,implies_true,za4,hu,hpS,gpC,List.map_cons,List.map_nil]) rfl ?_ ?_;(focus (simp only [zw,zt,zq,simprocAttr,az,];done)));exact QS.yes (za4 s e.obj e.off) a1 a2 (a3+1) hy (by omega) (by omega) (by omega));done)
    | (exfalso;simp_all;done)
    | fail
 by_cases k13:e.kind=13
 ·have hk:=k13
  have q6:(e.kind==6)=false:=by simp [k13]
  have q7:(e.kind==7)=false:=by simp [k13]
  have q8:(e.kind==8)=false:=by simp [k13]
  have q9:(e.kind==9)=false:=by simp [k13]
  have q12:(e.kind==12)=false:=by simp [k13]
  have q13:(e.kind==13)=true:=by simp [k13]
  have q14:(e.kind==14)=false:=by simp [k13]
  cases hd:s.dn e.obj e.off with
  | true =>
   have hy:qN s e=some s:=by simp [qN,hk,hd]
   repeat' (first|refine T.zh fun K hK=>?_|apply T.block|(refine T.reg (by kernel_rfl) fun K' hK'=>?_;simp only [bz];(with_reducible repeat' (first|(apply WL.fin;apply hK';clear hK' K')|(refine WL.step fun K2 hK2=>?_;simp only [simprocAttr,az,q6,q7,q8,q9,q12,q13];repeat' (first|(apply hK2;clear hK2 K2)|apply And.intro|intro hb)))))|apply T.skip|apply T.exit|refine T.zg rfl ?_|refine T.zf rfl ?_|refine T.cond rfl (fun hc=>?_) (fun hc=>?_)|apply T.ret|simp only [zb,za,reduceIte,Nat.reduceEqDiff]|((repeat ((fail_if_success apply hK);clear hK K));apply hK;clear hK K))
   all_goals (refine T.drw 7 (by kernel_rfl) (by kernel_rfl) fun K' hK'=>?_;simp only [List.map_cons,List.map_nil];(repeat' (first|(with_reducible refine WL.fin ?_;apply hK';clear hK' K')|(with_reducible refine WD.fin ?_)|((with_reducible first|refine WL.step fun K2 hK2=>?_|refine WD.step fun K2 hK2=>?_);simp only [simprocAttr,az,z08,qX he.o he.f,z3f _ _ he.o he.f,dn_z,hd];(repeat' with_reducible (first|(apply hK2;clear hK2 K2)|apply And.intro|intro hb)))));all_goals ((try simp only [zb,za,reduceIte,Nat.reduceEqDiff]);(try ((repeat ((fail_if_success apply hK);clear hK K));apply hK;clear hK K))))
   all_goals (repeat' (first|refine T.zh fun K hK=>?_|apply T.block|(refine T.reg (by kernel_rfl) fun K' hK'=>?_;simp only [bz];(with_reducible repeat' (first|(apply WL.fin;apply hK';clear hK' K')|(refine WL.step fun K2 hK2=>?_;simp only [simprocAttr,az];repeat' (first|(apply hK2;clear hK2 K2)|apply And.intro|intro hb)))))|apply T.skip|apply T.exit|refine T.zg rfl ?_|refine T.zf rfl ?_|refine T.cond rfl (fun hc=>?_) (fun hc=>?_)|apply T.ret|simp only [zb,za,reduceIte,Nat.reduceEqDiff]|((repeat ((fail_if_success apply hK);clear hK K));apply hK;clear hK K)))
   all_goals first
    | (((refine FinM.ret (s':=⟨[(4,.bool true)],hpS b s a1 a2 a3,96,4⟩) (r := .bool true) (.inr rfl) Tryz.results103 (by refine zk.of' rfl ?_;simp only [wks,reduceIte,Nat.reduceEqDiff,ASt.okB,AV.okB,Nat.reduceLT,implies_true,hpS,gpC,List.map_cons,List.map_nil]) rfl ?_ ?_;(focus (simp only [zw,zt,zq,simprocAttr,az,];done)));exact QS.yes s a1 a2 a3 hy (by omega) (by omega) (by omega));done)
    | (exfalso;simp_all;done)
    | fail
  | false =>
   have hn:qN s e=none:=by simp [qN,hk,hd]
   repeat' (first|refine T.zh fun K hK=>?_|apply T.block|(refine T.reg (by kernel_rfl) fun K' hK'=>?_;simp only [bz];(with_reducible repeat' (first|(apply WL.fin;apply hK';clear hK' K')|(refine WL.step fun K2 hK2=>?_;simp only [simprocAttr,az,q6,q7,q8,q9,q12,q13];repeat' (first|(apply hK2;clear hK2 K2)|apply And.intro|intro hb)))))|apply T.skip|apply T.exit|refine T.zg rfl ?_|refine T.zf rfl ?_|refine T.cond rfl (fun hc=>?_) (fun hc=>?_)|apply T.ret|simp only [zb,za,reduceIte,Nat.reduceEqDiff]|((repeat ((fail_if_success apply hK);clear hK K));apply hK;clear hK K))
   all_goals (refine T.drw 7 (by kernel_rfl) (by kernel_rfl) fun K' hK'=>?_;simp only [List.map_cons,List.map_nil];(repeat' (first|(with_reducible refine WL.fin ?_;apply hK';clear hK' K')|(with_reducible refine WD.fin ?_)|((with_reducible first|refine WL.step fun K2 hK2=>?_|refine WD.step fun K2 hK2=>?_);simp only [simprocAttr,az,z08,qX he.o he.f,z3f _ _ he.o he.f,dn_z,hd];(repeat' with_reducible (first|(apply hK2;clear hK2 K2)|apply And.intro|intro hb)))));all_goals ((try simp only [zb,za,reduceIte,Nat.reduceEqDiff]);(try ((repeat ((fail_if_success apply hK);clear hK K));apply hK;clear hK K))))
   all_goals (repeat' (first|refine T.zh fun K hK=>?_|apply T.block|(refine T.reg (by kernel_rfl) fun K' hK'=>?_;simp only [bz];(with_reducible repeat' (first|(apply WL.fin;apply hK';clear hK' K')|(refine WL.step fun K2 hK2=>?_;simp only [simprocAttr,az];repeat' (first|(apply hK2;clear hK2 K2)|apply And.intro|intro hb)))))|apply T.skip|apply T.exit|refine T.zg rfl ?_|refine T.zf rfl ?_|refine T.cond rfl (fun hc=>?_) (fun hc=>?_)|apply T.ret|simp only [zb,za,reduceIte,Nat.reduceEqDiff]|((repeat ((fail_if_success apply hK);clear hK K));apply hK;clear hK K)))
   all_goals first
    | (((refine FinM.ret (s':=⟨[(4,.bool false)],hpS b s a1 a2 a3,96,4⟩) (r := .bool false) (.inr rfl) Tryz.results103 (by refine zk.of' rfl ?_;simp only [wks,reduceIte,Nat.reduceEqDiff,ASt.okB,AV.okB,Nat.reduceLT,implies_true,hpS,gpC,List.map_cons,List.map_nil]) rfl ?_ ?_;(focus (simp only [zw,zt,zq,simprocAttr,az,];done)));exact QS.no hn);done)
    | (exfalso;simp_all;done)
    | fail
 by_cases k14:e.kind=14
 ·have hk:=k14
  have q6:(e.kind==6)=false:=by simp [k14]
  have q7:(e.kind==7)=false:=by simp [k14]
  have q8:(e.kind==8)=false:=by simp [k14]
  have q9:(e.kind==9)=false:=by simp [k14]
  have q12:(e.kind==12)=false:=by simp [k14]
  have q13:(e.kind==13)=false:=by simp [k14]
  have q14:(e.kind==14)=true:=by simp [k14]
  cases hg:(e.k != s.gor) with
  | true =>
   have hg' : ¬ e.k=s.gor:=by simpa using hg
   have hn:qN s e=none:=by simp [qN,hmu,hk,hg']
   repeat' (first|refine T.zh fun K hK=>?_|apply T.block|(refine T.reg (by kernel_rfl) fun K' hK'=>?_;simp only [bz];(with_reducible repeat' (first|(apply WL.fin;apply hK';clear hK' K')|(refine WL.step fun K2 hK2=>?_;simp only [simprocAttr,az,q6,q7,q8,q9,q12,q13,q14];repeat' (first|(apply hK2;clear hK2 K2)|apply And.intro|intro hb)))))|apply T.skip|apply T.exit|refine T.zg rfl ?_|refine T.zf rfl ?_|refine T.cond rfl (fun hc=>?_) (fun hc=>?_)|apply T.ret|simp only [zb,za,reduceIte,Nat.reduceEqDiff]|((repeat ((fail_if_success apply hK);clear hK K));apply hK;clear hK K))
   all_goals (refine T.drw 7 (by kernel_rfl) (by kernel_rfl) fun K' hK'=>?_;simp only [List.map_cons,List.map_nil];(repeat' (first|(with_reducible refine WL.fin ?_;apply hK';clear hK' K')|(with_reducible refine WD.fin ?_)|((with_reducible first|refine WL.step fun K2 hK2=>?_|refine WD.step fun K2 hK2=>?_);simp only [simprocAttr,az,hg];(repeat' with_reducible (first|(apply hK2;clear hK2 K2)|apply And.intro|intro hb)))));all_goals ((try simp only [zb,za,reduceIte,Nat.reduceEqDiff]);(try ((repeat ((fail_if_success apply hK);clear hK K));apply hK;clear hK K))))
   all_goals (repeat' (first|refine T.zh fun K hK=>?_|apply T.block|(refine T.reg (by kernel_rfl) fun K' hK'=>?_;simp only [bz];(with_reducible repeat' (first|(apply WL.fin;apply hK';clear hK' K')|(refine WL.step fun K2 hK2=>?_;simp only [simprocAttr,az];repeat' (first|(apply hK2;clear hK2 K2)|apply And.intro|intro hb)))))|apply T.skip|apply T.exit|refine T.zg rfl ?_|refine T.zf rfl ?_|refine T.cond rfl (fun hc=>?_) (fun hc=>?_)|apply T.ret|simp only [zb,za,reduceIte,Nat.reduceEqDiff]|((repeat ((fail_if_success apply hK);clear hK K));apply hK;clear hK K)))
   all_goals first
    | (((refine FinM.ret (s':=⟨[(4,.bool false)],hpS b s a1 a2 a3,96,4⟩) (r := .bool false) (.inr rfl) Tryz.results103 (by refine zk.of' rfl ?_;simp only [wks,reduceIte,Nat.reduceEqDiff,ASt.okB,AV.okB,Nat.reduceLT,implies_true,hpS,gpC,List.map_cons,List.map_nil]) rfl ?_ ?_;(focus (simp only [zw,zt,zq,simprocAttr,az,];done)));exact QS.no hn);done)
    | (exfalso;simp_all;done)
    | fail
  | false =>
   have hg' : e.k=s.gor:=by simpa using hg
   have hy:qN s e=some { s with gor:=wI (s.gor+1) }:=by simp [qN,hk,hg']
   repeat' (first|refine T.zh fun K hK=>?_|apply T.block|(refine T.reg (by kernel_rfl) fun K' hK'=>?_;simp only [bz];(with_reducible repeat' (first|(apply WL.fin;apply hK';clear hK' K')|(refine WL.step fun K2 hK2=>?_;simp only [simprocAttr,az,q6,q7,q8,q9,q12,q13,q14];repeat' (first|(apply hK2;clear hK2 K2)|apply And.intro|intro hb)))))|apply T.skip|apply T.exit|refine T.zg rfl ?_|refine T.zf rfl ?_|refine T.cond rfl (fun hc=>?_) (fun hc=>?_)|apply T.ret|simp only [zb,za,reduceIte,Nat.reduceEqDiff]|((repeat ((fail_if_success apply hK);clear hK K));apply hK;clear hK K))
   all_goals (refine T.drw 7 (by kernel_rfl) (by kernel_rfl) fun K' hK'=>?_;simp only [List.map_cons,List.map_nil];(repeat' (first|(with_reducible refine WL.fin ?_;apply hK';clear hK' K')|(with_reducible refine WD.fin ?_)|((with_reducible first|refine WL.step fun K2 hK2=>?_|refine WD.step fun K2 hK2=>?_);simp only [simprocAttr,az,hg];(repeat' with_reducible (first|(apply hK2;clear hK2 K2)|apply And.intro|intro hb)))));all_goals ((try simp only [zb,za,reduceIte,Nat.reduceEqDiff]);(try ((repeat ((fail_if_success apply hK);clear hK K));apply hK;clear hK K))))
   all_goals (repeat' (first|refine T.zh fun K hK=>?_|apply T.block|(refine T.reg (by kernel_rfl) fun K' hK'=>?_;simp only [bz];(with_reducible repeat' (first|(apply WL.fin;apply hK';clear hK' K')|(refine WL.step fun K2 hK2=>?_;simp only [simprocAttr,az];repeat' (first|(apply hK2;clear hK2 K2)|apply And.intro|intro hb)))))|apply T.skip|apply T.exit|refine T.zg rfl ?_|refine T.zf rfl ?_|refine T.cond rfl (fun hc=>?_) (fun hc=>?_)|apply T.ret|simp only [zb,za,reduceIte,Nat.reduceEqDiff]|((repeat ((fail_if_success apply hK);clear hK K));apply hK;clear hK K)))
   all_goals first
    | (((refine FinM.ret (s':=⟨[(4,.bool true)],hpS b { s with gor:=wI (s.gor+1) } a1 a2 a3,96,4⟩) (r := .bool true) (.inr rfl) Tryz.results103 (by refine zk.of' rfl ?_;simp only [wks,reduceIte,Nat.reduceEqDiff,ASt.okB,AV.okB,Nat.reduceLT,implies_true,hpS,gpC,List.map_cons,List.map_nil]) rfl ?_ ?_;(focus (simp only [zw,zt,zq,simprocAttr,az,];done)));exact QS.yes { s with gor:=wI (s.gor+1) } a1 a2 a3 hy (by omega) (by omega) (by omega));done)
    | (exfalso;simp_all;done)
    | fail
 have q6:(e.kind==6)=false:=by simpa using k6
 have q7:(e.kind==7)=false:=by simpa using k7
 have q8:(e.kind==8)=false:=by simpa using k8
 have q9:(e.kind==9)=false:=by simpa using k9
 have q12:(e.kind==12)=false:=by simpa using k12
 have q13:(e.kind==13)=false:=by simpa using k13
 have q14:(e.kind==14)=false:=by simpa using k14
 have hy:qN s e=some s:=by simp [qN,k6,k7,k8,k9,k12,k13,k14]
 repeat' (first|refine T.zh fun K hK=>?_|apply T.block|(refine T.reg (by kernel_rfl) fun K' hK'=>?_;simp only [bz];(with_reducible repeat' (first|(apply WL.fin;apply hK';clear hK' K')|(refine WL.step fun K2 hK2=>?_;simp only [simprocAttr,az,q6,q7,q8,q9,q12,q13,q14];repeat' (first|(apply hK2;clear hK2 K2)|apply And.intro|intro hb)))))|apply T.skip|apply T.exit|refine T.zg rfl ?_|refine T.zf rfl ?_|refine T.cond rfl (fun hc=>?_) (fun hc=>?_)|apply T.ret|simp only [zb,za,reduceIte,Nat.reduceEqDiff]|((repeat ((fail_if_success apply hK);clear hK K));apply hK;clear hK K))
 all_goals first
  | (((refine FinM.ret (s':=⟨[(4,.bool true)],hpS b s a1 a2 a3,96,4⟩) (r := .bool true) (.inr rfl) Tryz.results103 (by refine zk.of' rfl ?_;simp only [wks,reduceIte,Nat.reduceEqDiff,ASt.okB,AV.okB,Nat.reduceLT,implies_true,hpS,gpC,List.map_cons,List.map_nil]) rfl ?_ ?_;(focus (simp only [zw,zt,zq,simprocAttr,az,];done)));exact QS.yes s a1 a2 a3 hy (by omega) (by omega) (by omega));done)
  | (exfalso;simp_all;done)
  | fail
theorem QS.no' {b:Nat} {s:Ps} {a1 a2 a3 x1 x2 x3:Nat} {o:Option Ps} (h:o=none) (h1:x1≤a1+2) (h2:x2≤a2+2) (h3:x3≤a3+2):QS b s a1 a2 a3 o (hpS b s x1 x2 x3) (.bool false):=by subst h;exact ⟨rfl,x1,x2,x3,h1,h2,h3,rfl⟩
theorem addS_ok (b:Nat) (s:Ps) (a1 a2 a3:Nat) (e:Ev) (h1:a1<900000) (h2:a2<900000) (h3:a3<900000):MemC Tryz.prog 87 4 (hpS b s a1 a2 a3) [.ptr 0 0,evA e] (QS b s a1 a2 a3 (addP s e)):=by
 have hpe:hpS b s a1 a2 a3 = [(0,.boxP (some b) 154 [.int s.ev,.int s.gor,.own 1,.own 2,.own 3,.p (.seq 1 (s.op.kinds.map fun x => [pI x])),.int s.op.obj,.int s.op.k,.int s.op.n,.int s.op.snd,.int s.op.rcv]),(1,.map none Tryz.prog 3 a1 (inM chV s.ch)),(2,.map none Tryz.prog 147 a2 (plM muV s.mu)),(3,.map none Tryz.prog 147 a3 (plM Value.bool (dnO s.dn)))]:=rfl
 by_cases hno:z3A s e=true
 ·have hn:addP s e=none:=by simp [addP,hno]
  rw [hpe]
  have hv:=z5d e
  simp only [evA,evC,List.map_cons,List.map_nil] at hv ⊢
  refine MemC.of Tryz.func87 rfl 54 rfl (by decide) ?_;simp only [qi,frOf]
  repeat' (first|refine T.zh fun K hK=>?_|apply T.block|(refine T.reg (by kernel_rfl) fun K' hK'=>?_;simp only [bz];(with_reducible repeat' (first|(apply WL.fin;apply hK';clear hK' K')|(refine WL.step fun K2 hK2=>?_;simp only [simprocAttr,az];repeat' (first|(apply hK2;clear hK2 K2)|apply And.intro|intro hb)))))|apply T.skip|apply T.exit|refine T.zg rfl ?_|refine T.zf rfl ?_|refine T.cond rfl (fun hc=>?_) (fun hc=>?_)|apply T.ret|simp only [zb,za,reduceIte,Nat.reduceEqDiff]|((repeat ((fail_if_success apply hK);clear hK K));apply hK;clear hK K))
  refine T.drw 23 (by kernel_rfl) (by kernel_rfl) fun K' hK'=>?_;simp only [List.map_cons,List.map_nil];(repeat' (first|(with_reducible refine WL.fin ?_;apply hK';clear hK' K')|(with_reducible refine WD.fin ?_)|((with_reducible first|refine WL.step fun K2 hK2=>?_|refine WD.step fun K2 hK2=>?_);simp only [simprocAttr,az];(repeat' (first|with_reducible (first|(apply hK2;clear hK2 K2)|apply And.intro|intro hb)|((with_reducible first|apply zl|apply zm);case h=>exact CallV.plain (Ent.of Tryz.func25 (by kernel_rfl) rfl) (hv) (by simp [AV.okB])))))));all_goals ((try simp only [zb,za,reduceIte,Nat.reduceEqDiff]);(try ((repeat ((fail_if_success apply hK);clear hK K));apply hK;clear hK K)))
  all_goals (repeat' (first|refine T.zh fun K hK=>?_|apply T.block|(refine T.reg (by kernel_rfl) fun K' hK'=>?_;simp only [bz];(with_reducible repeat' (first|(apply WL.fin;apply hK';clear hK' K')|(refine WL.step fun K2 hK2=>?_;simp only [simprocAttr,az];repeat' (first|(apply hK2;clear hK2 K2)|apply And.intro|intro hb)))))|apply T.skip|apply T.exit|refine T.zg rfl ?_|refine T.zf rfl ?_|refine T.cond rfl (fun hc=>?_) (fun hc=>?_)|apply T.ret|simp only [zb,za,reduceIte,Nat.reduceEqDiff]|((repeat ((fail_if_success apply hK);clear hK K));apply hK;clear hK K)))
  all_goals first
   | (exfalso;simp_all [z3A];done)
   | ((refine FinM.ret (s':=⟨[(4,.bool false)],hpS b s a1 a2 a3,54,4⟩) (r := .bool false) (.inr rfl) Tryz.results87 (by refine zk.of' rfl ?_;simp only [wks,reduceIte,Nat.reduceEqDiff,ASt.okB,AV.okB,Nat.reduceLT,implies_true,hpS,gpC,List.map_cons,List.map_nil]) rfl ?_ ?_;(focus (simp only [zw,zt,zq,simprocAttr,az,];done)));exact QS.no hn)
   | fail
 ·have hno' : z3A s e=false:=by simpa using hno
  have hv0:qd e=true∧decide (5000≤s.ev)=false∧decide (s.gor≤e.g)=false:=by
   simp only [z3A,Bool.or_eq_false_iff,Bool.not_eq_false'] at hno'
   exact ⟨hno'.1.1,hno'.1.2,hno'.2⟩
  obtain ⟨v1,v2,v3⟩:=hv0
  have he:=z7r v1
  have hv:=z5d e
  rw [v1] at hv
  have hop:=open_ok b s a1 a2 a3
  cases hkk:s.op.kinds with
  | cons kd r =>
   have hst:z06 s e=z2j s kd r e:=by simp [z06,hkk]
   rw [show z7I s=true by simp [z7I,hkk]] at hop
   have hc:=z9Y b s a1 a2 a3 e kd r hkk he (by omega)
   rw [← hst] at hc
   cases ho:z06 s e with
   | none =>
    have hn:addP s e=none:=by simp [addP,hno',ho]
    rw [ho] at hc
    rw [hpe] at hop hc ⊢
    simp only [evA,evC,List.map_cons,List.map_nil] at hv hc ⊢
    refine MemC.of Tryz.func87 rfl 54 rfl (by decide) ?_;simp only [qi,frOf]
    repeat' (first|refine T.zh fun K hK=>?_|apply T.block|(refine T.reg (by kernel_rfl) fun K' hK'=>?_;simp only [bz];(with_reducible repeat' (first|(apply WL.fin;apply hK';clear hK' K')|(refine WL.step fun K2 hK2=>?_;simp only [simprocAttr,az];repeat' (first|(apply hK2;clear hK2 K2)|apply And.intro|intro hb)))))|apply T.skip|apply T.exit|refine T.zg rfl ?_|refine T.zf rfl ?_|refine T.cond rfl (fun hc=>?_) (fun hc=>?_)|apply T.ret|simp only [zb,za,reduceIte,Nat.reduceEqDiff]|((repeat ((fail_if_success apply hK);clear hK K));apply hK;clear hK K))
    refine T.drw 23 (by kernel_rfl) (by kernel_rfl) fun K' hK'=>?_;simp only [List.map_cons,List.map_nil];(repeat' (first|(with_reducible refine WL.fin ?_;apply hK';clear hK' K')|(with_reducible refine WD.fin ?_)|((with_reducible first|refine WL.step fun K2 hK2=>?_|refine WD.step fun K2 hK2=>?_);simp only [simprocAttr,az,v2,v3];(repeat' (first|with_reducible (first|(apply hK2;clear hK2 K2)|apply And.intro|intro hb)|((with_reducible first|apply zl|apply zm);case h=>exact CallV.plain (Ent.of Tryz.func25 (by kernel_rfl) rfl) (hv) (by simp [AV.okB])))))));all_goals ((try simp only [zb,za,reduceIte,Nat.reduceEqDiff]);(try ((repeat ((fail_if_success apply hK);clear hK K));apply hK;clear hK K)))
    all_goals (repeat' (first|refine T.zh fun K hK=>?_|apply T.block|(refine T.reg (by kernel_rfl) fun K' hK'=>?_;simp only [bz];(repeat' (first|(with_reducible refine WL.fin ?_;apply hK';clear hK' K')|((with_reducible refine WL.step fun K2 hK2=>?_);simp only [simprocAttr,az];(repeat' (first|with_reducible (first|(apply hK2;clear hK2 K2)|apply And.intro|intro hb)|((with_reducible refine zM 4 _ _ [0] (Ent.of Tryz.func88 (by kernel_rfl) rfl) (hop) ?_ ?_ ?_);(focus ((refine ⟨Nat.le_of_ble_eq_true rfl,?_,?_⟩ <;> simp only [pz,reduceIte,Nat.reduceEqDiff,AV.okB,Nat.reduceLT,]);done));(focus (simp [AV.okB];done));rintro hp' r ⟨rfl,rfl⟩;refine ⟨by simp [Kept,zy,AO.handle],?_⟩;simp only [cz,ASt.zR,AO.keep,Nat.reduceLeDiff,reduceIte,Nat.reduceEqDiff,])|((with_reducible refine zM 4 _ _ [0] (Ent.of Tryz.func101 (by kernel_rfl) rfl) (hc) ?_ ?_ ?_);(focus ((refine ⟨Nat.le_of_ble_eq_true rfl,?_,?_⟩ <;> simp only [pz,reduceIte,Nat.reduceEqDiff,AV.okB,Nat.reduceLT,]);done));(focus (simp [AV.okB];done));rintro hp' r ⟨rfl,x1,x2,x3,l1,l2,l3,rfl⟩;refine ⟨by simp [Kept,hpS,zy,AO.handle],?_⟩;simp only [Option.getD_none,Option.getD_some,Option.isSome_none,Option.isSome_some,hpS,gpC];simp only [cz,ASt.zR,AO.keep,Nat.reduceLeDiff,reduceIte,Nat.reduceEqDiff,])))))))|apply T.skip|apply T.exit|refine T.zg rfl ?_|refine T.zf rfl ?_|refine T.cond rfl (fun hc=>?_) (fun hc=>?_)|apply T.ret|simp only [zb,za,reduceIte,Nat.reduceEqDiff]|((repeat ((fail_if_success apply hK);clear hK K));apply hK;clear hK K)))
    all_goals first
     | ((refine FinM.ret (s':=⟨[(4,.bool false)],hpS b s x1 x2 x3,54,4⟩) (r := .bool false) (.inr rfl) Tryz.results87 (by refine zk.of' rfl ?_;simp only [wks,reduceIte,Nat.reduceEqDiff,ASt.okB,AV.okB,Nat.reduceLT,implies_true,hpS,gpC,List.map_cons,List.map_nil]) rfl ?_ ?_;(focus (simp only [zw,zt,zq,simprocAttr,az,];done)));exact QS.no' hn l1 l2 l3;done)
     | fail
   | some t =>
    have hy:addP s e=some { t with ev:=wI (t.ev+1) }:=by simp [addP,hno',ho]
    rw [ho] at hc
    rw [hpe] at hop hc ⊢
    simp only [evA,evC,List.map_cons,List.map_nil] at hv hc ⊢
    refine MemC.of Tryz.func87 rfl 54 rfl (by decide) ?_;simp only [qi,frOf]
    repeat' (first|refine T.zh fun K hK=>?_|apply T.block|(refine T.reg (by kernel_rfl) fun K' hK'=>?_;simp only [bz];(with_reducible repeat' (first|(apply WL.fin;apply hK';clear hK' K')|(refine WL.step fun K2 hK2=>?_;simp only [simprocAttr,az];repeat' (first|(apply hK2;clear hK2 K2)|apply And.intro|intro hb)))))|apply T.skip|apply T.exit|refine T.zg rfl ?_|refine T.zf rfl ?_|refine T.cond rfl (fun hc=>?_) (fun hc=>?_)|apply T.ret|simp only [zb,za,reduceIte,Nat.reduceEqDiff]|((repeat ((fail_if_success apply hK);clear hK K));apply hK;clear hK K))
    refine T.drw 23 (by kernel_rfl) (by kernel_rfl) fun K' hK'=>?_;simp only [List.map_cons,List.map_nil];(repeat' (first|(with_reducible refine WL.fin ?_;apply hK';clear hK' K')|(with_reducible refine WD.fin ?_)|((with_reducible first|refine WL.step fun K2 hK2=>?_|refine WD.step fun K2 hK2=>?_);simp only [simprocAttr,az,v2,v3];(repeat' (first|with_reducible (first|(apply hK2;clear hK2 K2)|apply And.intro|intro hb)|((with_reducible first|apply zl|apply zm);case h=>exact CallV.plain (Ent.of Tryz.func25 (by kernel_rfl) rfl) (hv) (by simp [AV.okB])))))));all_goals ((try simp only [zb,za,reduceIte,Nat.reduceEqDiff]);(try ((repeat ((fail_if_success apply hK);clear hK K));apply hK;clear hK K)))
    all_goals (repeat' (first|refine T.zh fun K hK=>?_|apply T.block|(refine T.reg (by kernel_rfl) fun K' hK'=>?_;simp only [bz];(repeat' (first|(with_reducible refine WL.fin ?_;apply hK';clear hK' K')|((with_reducible refine WL.step fun K2 hK2=>?_);simp only [simprocAttr,az];(repeat' (first|with_reducible (first|(apply hK2;clear hK2 K2)|apply And.intro|intro hb)|((with_reducible refine zM 4 _ _ [0] (Ent.of Tryz.func88 (by kernel_rfl) rfl) (hop) ?_ ?_ ?_);(focus ((refine ⟨Nat.le_of_ble_eq_true rfl,?_,?_⟩ <;> simp only [pz,reduceIte,Nat.reduceEqDiff,AV.okB,Nat.reduceLT,]);done));(focus (simp [AV.okB];done));rintro hp' r ⟨rfl,rfl⟩;refine ⟨by simp [Kept,zy,AO.handle],?_⟩;simp only [cz,ASt.zR,AO.keep,Nat.reduceLeDiff,reduceIte,Nat.reduceEqDiff,])|((with_reducible refine zM 4 _ _ [0] (Ent.of Tryz.func101 (by kernel_rfl) rfl) (hc) ?_ ?_ ?_);(focus ((refine ⟨Nat.le_of_ble_eq_true rfl,?_,?_⟩ <;> simp only [pz,reduceIte,Nat.reduceEqDiff,AV.okB,Nat.reduceLT,]);done));(focus (simp [AV.okB];done));rintro hp' r ⟨rfl,x1,x2,x3,l1,l2,l3,rfl⟩;refine ⟨by simp [Kept,hpS,zy,AO.handle],?_⟩;simp only [Option.getD_none,Option.getD_some,Option.isSome_none,Option.isSome_some,hpS,gpC];simp only [cz,ASt.zR,AO.keep,Nat.reduceLeDiff,reduceIte,Nat.reduceEqDiff,])))))))|apply T.skip|apply T.exit|refine T.zg rfl ?_|refine T.zf rfl ?_|refine T.cond rfl (fun hc=>?_) (fun hc=>?_)|apply T.ret|simp only [zb,za,reduceIte,Nat.reduceEqDiff]|((repeat ((fail_if_success apply hK);clear hK K));apply hK;clear hK K)))
    all_goals first
     | ((refine FinM.ret (s':=⟨[(4,.bool true)],hpS b { t with ev:=wI (t.ev+1) } x1 x2 x3,54,4⟩) (r := .bool true) (.inr rfl) Tryz.results87 (by refine zk.of' rfl ?_;simp only [wks,reduceIte,Nat.reduceEqDiff,ASt.okB,AV.okB,Nat.reduceLT,implies_true,hpS,gpC,List.map_cons,List.map_nil]) rfl ?_ ?_;(focus (simp only [zw,zt,zq,simprocAttr,az,];done)));exact QS.yes _ x1 x2 x3 hy l1 l2 l3;done)
     | fail
  | nil =>
   rw [show z7I s=false by simp [z7I,hkk]] at hop
   have hch:=z2R e.kind
   cases hcb:zT e.kind with
   | true =>
    have hst:z06 s e=qO s e:=by simp [z06,hkk,hcb]
    rw [hcb] at hch
    have hc:=z9N b s a1 a2 a3 e he (by omega)
    rw [← hst] at hc
    cases ho:z06 s e with
    | none =>
     have hn:addP s e=none:=by simp [addP,hno',ho]
     rw [ho] at hc
     rw [hpe] at hop hc ⊢
     simp only [evA,evC,List.map_cons,List.map_nil] at hv hc ⊢
     refine MemC.of Tryz.func87 rfl 54 rfl (by decide) ?_;simp only [qi,frOf]
     repeat' (first|refine T.zh fun K hK=>?_|apply T.block|(refine T.reg (by kernel_rfl) fun K' hK'=>?_;simp only [bz];(with_reducible repeat' (first|(apply WL.fin;apply hK';clear hK' K')|(refine WL.step fun K2 hK2=>?_;simp only [simprocAttr,az];repeat' (first|(apply hK2;clear hK2 K2)|apply And.intro|intro hb)))))|apply T.skip|apply T.exit|refine T.zg rfl ?_|refine T.zf rfl ?_|refine T.cond rfl (fun hc=>?_) (fun hc=>?_)|apply T.ret|simp only [zb,za,reduceIte,Nat.reduceEqDiff]|((repeat ((fail_if_success apply hK);clear hK K));apply hK;clear hK K))
     refine T.drw 23 (by kernel_rfl) (by kernel_rfl) fun K' hK'=>?_;simp only [List.map_cons,List.map_nil];(repeat' (first|(with_reducible refine WL.fin ?_;apply hK';clear hK' K')|(with_reducible refine WD.fin ?_)|((with_reducible first|refine WL.step fun K2 hK2=>?_|refine WD.step fun K2 hK2=>?_);simp only [simprocAttr,az,v2,v3];(repeat' (first|with_reducible (first|(apply hK2;clear hK2 K2)|apply And.intro|intro hb)|((with_reducible first|apply zl|apply zm);case h=>exact CallV.plain (Ent.of Tryz.func25 (by kernel_rfl) rfl) (hv) (by simp [AV.okB])))))));all_goals ((try simp only [zb,za,reduceIte,Nat.reduceEqDiff]);(try ((repeat ((fail_if_success apply hK);clear hK K));apply hK;clear hK K)))
     all_goals (repeat' (first|refine T.zh fun K hK=>?_|apply T.block|(refine T.reg (by kernel_rfl) fun K' hK'=>?_;simp only [bz];(repeat' (first|(with_reducible refine WL.fin ?_;apply hK';clear hK' K')|((with_reducible refine WL.step fun K2 hK2=>?_);simp only [simprocAttr,az];(repeat' (first|with_reducible (first|(apply hK2;clear hK2 K2)|apply And.intro|intro hb)|((with_reducible refine zM 4 _ _ [0] (Ent.of Tryz.func88 (by kernel_rfl) rfl) (hop) ?_ ?_ ?_);(focus ((refine ⟨Nat.le_of_ble_eq_true rfl,?_,?_⟩ <;> simp only [pz,reduceIte,Nat.reduceEqDiff,AV.okB,Nat.reduceLT,]);done));(focus (simp [AV.okB];done));rintro hp' r ⟨rfl,rfl⟩;refine ⟨by simp [Kept,zy,AO.handle],?_⟩;simp only [cz,ASt.zR,AO.keep,Nat.reduceLeDiff,reduceIte,Nat.reduceEqDiff,])|((with_reducible first|apply zl|apply zm);case h=>exact CallV.plain (Ent.of Tryz.func26 (by kernel_rfl) rfl) (hch) (by simp [AV.okB]))|((with_reducible refine zM 4 _ _ [0] (Ent.of Tryz.func102 (by kernel_rfl) rfl) (hc) ?_ ?_ ?_);(focus ((refine ⟨Nat.le_of_ble_eq_true rfl,?_,?_⟩ <;> simp only [pz,reduceIte,Nat.reduceEqDiff,AV.okB,Nat.reduceLT,]);done));(focus (simp [AV.okB];done));rintro hp' r ⟨rfl,x1,x2,x3,l1,l2,l3,rfl⟩;refine ⟨by simp [Kept,hpS,zy,AO.handle],?_⟩;simp only [Option.getD_none,Option.getD_some,Option.isSome_none,Option.isSome_some,hpS,gpC];simp only [cz,ASt.zR,AO.keep,Nat.reduceLeDiff,reduceIte,Nat.reduceEqDiff,])))))))|apply T.skip|apply T.exit|refine T.zg rfl ?_|refine T.zf rfl ?_|refine T.cond rfl (fun hc=>?_) (fun hc=>?_)|apply T.ret|simp only [zb,za,reduceIte,Nat.reduceEqDiff]|((repeat ((fail_if_success apply hK);clear hK K));apply hK;clear hK K)))
     all_goals first
      | ((refine FinM.ret (s':=⟨[(4,.bool false)],hpS b s x1 x2 x3,54,4⟩) (r := .bool false) (.inr rfl) Tryz.results87 (by refine zk.of' rfl ?_;simp only [wks,reduceIte,Nat.reduceEqDiff,ASt.okB,AV.okB,Nat.reduceLT,implies_true,hpS,gpC,List.map_cons,List.map_nil]) rfl ?_ ?_;(focus (simp only [zw,zt,zq,simprocAttr,az,];done)));exact QS.no' hn l1 l2 l3;done)
      | fail
    | some t =>
     have hy:addP s e=some { t with ev:=wI (t.ev+1) }:=by simp [addP,hno',ho]
     rw [ho] at hc
     rw [hpe] at hop hc ⊢
     simp only [evA,evC,List.map_cons,List.map_nil] at hv hc ⊢
     refine MemC.of Tryz.func87 rfl 54 rfl (by decide) ?_;simp only [qi,frOf]
     repeat' (first|refine T.zh fun K hK=>?_|apply T.block|(refine T.reg (by kernel_rfl) fun K' hK'=>?_;simp only [bz];(with_reducible repeat' (first|(apply WL.fin;apply hK';clear hK' K')|(refine WL.step fun K2 hK2=>?_;simp only [simprocAttr,az];repeat' (first|(apply hK2;clear hK2 K2)|apply And.intro|intro hb)))))|apply T.skip|apply T.exit|refine T.zg rfl ?_|refine T.zf rfl ?_|refine T.cond rfl (fun hc=>?_) (fun hc=>?_)|apply T.ret|simp only [zb,za,reduceIte,Nat.reduceEqDiff]|((repeat ((fail_if_success apply hK);clear hK K));apply hK;clear hK K))
     refine T.drw 23 (by kernel_rfl) (by kernel_rfl) fun K' hK'=>?_;simp only [List.map_cons,List.map_nil];(repeat' (first|(with_reducible refine WL.fin ?_;apply hK';clear hK' K')|(with_reducible refine WD.fin ?_)|((with_reducible first|refine WL.step fun K2 hK2=>?_|refine WD.step fun K2 hK2=>?_);simp only [simprocAttr,az,v2,v3];(repeat' (first|with_reducible (first|(apply hK2;clear hK2 K2)|apply And.intro|intro hb)|((with_reducible first|apply zl|apply zm);case h=>exact CallV.plain (Ent.of Tryz.func25 (by kernel_rfl) rfl) (hv) (by simp [AV.okB])))))));all_goals ((try simp only [zb,za,reduceIte,Nat.reduceEqDiff]);(try ((repeat ((fail_if_success apply hK);clear hK K));apply hK;clear hK K)))
     all_goals (repeat' (first|refine T.zh fun K hK=>?_|apply T.block|(refine T.reg (by kernel_rfl) fun K' hK'=>?_;simp only [bz];(repeat' (first|(with_reducible refine WL.fin ?_;apply hK';clear hK' K')|((with_reducible refine WL.step fun K2 hK2=>?_);simp only [simprocAttr,az];(repeat' (first|with_reducible (first|(apply hK2;clear hK2 K2)|apply And.intro|intro hb)|((with_reducible refine zM 4 _ _ [0] (Ent.of Tryz.func88 (by kernel_rfl) rfl) (hop) ?_ ?_ ?_);(focus ((refine ⟨Nat.le_of_ble_eq_true rfl,?_,?_⟩ <;> simp only [pz,reduceIte,Nat.reduceEqDiff,AV.okB,Nat.reduceLT,]);done));(focus (simp [AV.okB];done));rintro hp' r ⟨rfl,rfl⟩;refine ⟨by simp [Kept,zy,AO.handle],?_⟩;simp only [cz,ASt.zR,AO.keep,Nat.reduceLeDiff,reduceIte,Nat.reduceEqDiff,])|((with_reducible first|apply zl|apply zm);case h=>exact CallV.plain (Ent.of Tryz.func26 (by kernel_rfl) rfl) (hch) (by simp [AV.okB]))|((with_reducible refine zM 4 _ _ [0] (Ent.of Tryz.func102 (by kernel_rfl) rfl) (hc) ?_ ?_ ?_);(focus ((refine ⟨Nat.le_of_ble_eq_true rfl,?_,?_⟩ <;> simp only [pz,reduceIte,Nat.reduceEqDiff,AV.okB,Nat.reduceLT,]);done));(focus (simp [AV.okB];done));rintro hp' r ⟨rfl,x1,x2,x3,l1,l2,l3,rfl⟩;refine ⟨by simp [Kept,hpS,zy,AO.handle],?_⟩;simp only [Option.getD_none,Option.getD_some,Option.isSome_none,Option.isSome_some,hpS,gpC];simp only [cz,ASt.zR,AO.keep,Nat.reduceLeDiff,reduceIte,Nat.reduceEqDiff,])))))))|apply T.skip|apply T.exit|refine T.zg rfl ?_|refine T.zf rfl ?_|refine T.cond rfl (fun hc=>?_) (fun hc=>?_)|apply T.ret|simp only [zb,za,reduceIte,Nat.reduceEqDiff]|((repeat ((fail_if_success apply hK);clear hK K));apply hK;clear hK K)))
     all_goals first
      | ((refine FinM.ret (s':=⟨[(4,.bool true)],hpS b { t with ev:=wI (t.ev+1) } x1 x2 x3,54,4⟩) (r := .bool true) (.inr rfl) Tryz.results87 (by refine zk.of' rfl ?_;simp only [wks,reduceIte,Nat.reduceEqDiff,ASt.okB,AV.okB,Nat.reduceLT,implies_true,hpS,gpC,List.map_cons,List.map_nil]) rfl ?_ ?_;(focus (simp only [zw,zt,zq,simprocAttr,az,];done)));exact QS.yes _ x1 x2 x3 hy l1 l2 l3;done)
      | fail
   | false =>
    have hst:z06 s e=qN s e:=by simp [z06,hkk,hcb]
    rw [hcb] at hch
    have hc:=simple_ok b s a1 a2 a3 e he (by omega) (by omega)
    rw [← hst] at hc
    cases ho:z06 s e with
    | none =>
     have hn:addP s e=none:=by simp [addP,hno',ho]
     rw [ho] at hc
     rw [hpe] at hop hc ⊢
     simp only [evA,evC,List.map_cons,List.map_nil] at hv hc ⊢
     refine MemC.of Tryz.func87 rfl 54 rfl (by decide) ?_;simp only [qi,frOf]
     repeat' (first|refine T.zh fun K hK=>?_|apply T.block|(refine T.reg (by kernel_rfl) fun K' hK'=>?_;simp only [bz];(with_reducible repeat' (first|(apply WL.fin;apply hK';clear hK' K')|(refine WL.step fun K2 hK2=>?_;simp only [simprocAttr,az];repeat' (first|(apply hK2;clear hK2 K2)|apply And.intro|intro hb)))))|apply T.skip|apply T.exit|refine T.zg rfl ?_|refine T.zf rfl ?_|refine T.cond rfl (fun hc=>?_) (fun hc=>?_)|apply T.ret|simp only [zb,za,reduceIte,Nat.reduceEqDiff]|((repeat ((fail_if_success apply hK);clear hK K));apply hK;clear hK K))
     refine T.drw 23 (by kernel_rfl) (by kernel_rfl) fun K' hK'=>?_;simp only [List.map_cons,List.map_nil];(repeat' (first|(with_reducible refine WL.fin ?_;apply hK';clear hK' K')|(with_reducible refine WD.fin ?_)|((with_reducible first|refine WL.step fun K2 hK2=>?_|refine WD.step fun K2 hK2=>?_);simp only [simprocAttr,az,v2,v3];(repeat' (first|with_reducible (first|(apply hK2;clear hK2 K2)|apply And.intro|intro hb)|((with_reducible first|apply zl|apply zm);case h=>exact CallV.plain (Ent.of Tryz.func25 (by kernel_rfl) rfl) (hv) (by simp [AV.okB])))))));all_goals ((try simp only [zb,za,reduceIte,Nat.reduceEqDiff]);(try ((repeat ((fail_if_success apply hK);clear hK K));apply hK;clear hK K)))
     all_goals (repeat' (first|refine T.zh fun K hK=>?_|apply T.block|(refine T.reg (by kernel_rfl) fun K' hK'=>?_;simp only [bz];(repeat' (first|(with_reducible refine WL.fin ?_;apply hK';clear hK' K')|((with_reducible refine WL.step fun K2 hK2=>?_);simp only [simprocAttr,az];(repeat' (first|with_reducible (first|(apply hK2;clear hK2 K2)|apply And.intro|intro hb)|((with_reducible refine zM 4 _ _ [0] (Ent.of Tryz.func88 (by kernel_rfl) rfl) (hop) ?_ ?_ ?_);(focus ((refine ⟨Nat.le_of_ble_eq_true rfl,?_,?_⟩ <;> simp only [pz,reduceIte,Nat.reduceEqDiff,AV.okB,Nat.reduceLT,]);done));(focus (simp [AV.okB];done));rintro hp' r ⟨rfl,rfl⟩;refine ⟨by simp [Kept,zy,AO.handle],?_⟩;simp only [cz,ASt.zR,AO.keep,Nat.reduceLeDiff,reduceIte,Nat.reduceEqDiff,])|((with_reducible first|apply zl|apply zm);case h=>exact CallV.plain (Ent.of Tryz.func26 (by kernel_rfl) rfl) (hch) (by simp [AV.okB]))|((with_reducible refine zM 4 _ _ [0] (Ent.of Tryz.func103 (by kernel_rfl) rfl) (hc) ?_ ?_ ?_);(focus ((refine ⟨Nat.le_of_ble_eq_true rfl,?_,?_⟩ <;> simp only [pz,reduceIte,Nat.reduceEqDiff,AV.okB,Nat.reduceLT,]);done));(focus (simp [AV.okB];done));rintro hp' r ⟨rfl,x1,x2,x3,l1,l2,l3,rfl⟩;refine ⟨by simp [Kept,hpS,zy,AO.handle],?_⟩;simp only [Option.getD_none,Option.getD_some,Option.isSome_none,Option.isSome_some,hpS,gpC];simp only [cz,ASt.zR,AO.keep,Nat.reduceLeDiff,reduceIte,Nat.reduceEqDiff,])))))))|apply T.skip|apply T.exit|refine T.zg rfl ?_|refine T.zf rfl ?_|refine T.cond rfl (fun hc=>?_) (fun hc=>?_)|apply T.ret|simp only [zb,za,reduceIte,Nat.reduceEqDiff]|((repeat ((fail_if_success apply hK);clear hK K));apply hK;clear hK K)))
     all_goals first
      | ((refine FinM.ret (s':=⟨[(4,.bool false)],hpS b s x1 x2 x3,54,4⟩) (r := .bool false) (.inr rfl) Tryz.results87 (by refine zk.of' rfl ?_;simp only [wks,reduceIte,Nat.reduceEqDiff,ASt.okB,AV.okB,Nat.reduceLT,implies_true,hpS,gpC,List.map_cons,List.map_nil]) rfl ?_ ?_;(focus (simp only [zw,zt,zq,simprocAttr,az,];done)));exact QS.no' hn l1 l2 l3;done)
      | fail
    | some t =>
     have hy:addP s e=some { t with ev:=wI (t.ev+1) }:=by simp [addP,hno',ho]
     rw [ho] at hc
     rw [hpe] at hop hc ⊢
     simp only [evA,evC,List.map_cons,List.map_nil] at hv hc ⊢
     refine MemC.of Tryz.func87 rfl 54 rfl (by decide) ?_;simp only [qi,frOf]
     repeat' (first|refine T.zh fun K hK=>?_|apply T.block|(refine T.reg (by kernel_rfl) fun K' hK'=>?_;simp only [bz];(with_reducible repeat' (first|(apply WL.fin;apply hK';clear hK' K')|(refine WL.step fun K2 hK2=>?_;simp only [simprocAttr,az];repeat' (first|(apply hK2;clear hK2 K2)|apply And.intro|intro hb)))))|apply T.skip|apply T.exit|refine T.zg rfl ?_|refine T.zf rfl ?_|refine T.cond rfl (fun hc=>?_) (fun hc=>?_)|apply T.ret|simp only [zb,za,reduceIte,Nat.reduceEqDiff]|((repeat ((fail_if_success apply hK);clear hK K));apply hK;clear hK K))
     refine T.drw 23 (by kernel_rfl) (by kernel_rfl) fun K' hK'=>?_;simp only [List.map_cons,List.map_nil];(repeat' (first|(with_reducible refine WL.fin ?_;apply hK';clear hK' K')|(with_reducible refine WD.fin ?_)|((with_reducible first|refine WL.step fun K2 hK2=>?_|refine WD.step fun K2 hK2=>?_);simp only [simprocAttr,az,v2,v3];(repeat' (first|with_reducible (first|(apply hK2;clear hK2 K2)|apply And.intro|intro hb)|((with_reducible first|apply zl|apply zm);case h=>exact CallV.plain (Ent.of Tryz.func25 (by kernel_rfl) rfl) (hv) (by simp [AV.okB])))))));all_goals ((try simp only [zb,za,reduceIte,Nat.reduceEqDiff]);(try ((repeat ((fail_if_success apply hK);clear hK K));apply hK;clear hK K)))
     all_goals (repeat' (first|refine T.zh fun K hK=>?_|apply T.block|(refine T.reg (by kernel_rfl) fun K' hK'=>?_;simp only [bz];(repeat' (first|(with_reducible refine WL.fin ?_;apply hK';clear hK' K')|((with_reducible refine WL.step fun K2 hK2=>?_);simp only [simprocAttr,az];(repeat' (first|with_reducible (first|(apply hK2;clear hK2 K2)|apply And.intro|intro hb)|((with_reducible refine zM 4 _ _ [0] (Ent.of Tryz.func88 (by kernel_rfl) rfl) (hop) ?_ ?_ ?_);(focus ((refine ⟨Nat.le_of_ble_eq_true rfl,?_,?_⟩ <;> simp only [pz,reduceIte,Nat.reduceEqDiff,AV.okB,Nat.reduceLT,]);done));(focus (simp [AV.okB];done));rintro hp' r ⟨rfl,rfl⟩;refine ⟨by simp [Kept,zy,AO.handle],?_⟩;simp only [cz,ASt.zR,AO.keep,Nat.reduceLeDiff,reduceIte,Nat.reduceEqDiff,])|((with_reducible first|apply zl|apply zm);case h=>exact CallV.plain (Ent.of Tryz.func26 (by kernel_rfl) rfl) (hch) (by simp [AV.okB]))|((with_reducible refine zM 4 _ _ [0] (Ent.of Tryz.func103 (by kernel_rfl) rfl) (hc) ?_ ?_ ?_);(focus ((refine ⟨Nat.le_of_ble_eq_true rfl,?_,?_⟩ <;> simp only [pz,reduceIte,Nat.reduceEqDiff,AV.okB,Nat.reduceLT,]);done));(focus (simp [AV.okB];done));rintro hp' r ⟨rfl,x1,x2,x3,l1,l2,l3,rfl⟩;refine ⟨by simp [Kept,hpS,zy,AO.handle],?_⟩;simp only [Option.getD_none,Option.getD_some,Option.isSome_none,Option.isSome_some,hpS,gpC];simp only [cz,ASt.zR,AO.keep,Nat.reduceLeDiff,reduceIte,Nat.reduceEqDiff,])))))))|apply T.skip|apply T.exit|refine T.zg rfl ?_|refine T.zf rfl ?_|refine T.cond rfl (fun hc=>?_) (fun hc=>?_)|apply T.ret|simp only [zb,za,reduceIte,Nat.reduceEqDiff]|((repeat ((fail_if_success apply hK);clear hK K));apply hK;clear hK K)))
     all_goals first
      | ((refine FinM.ret (s':=⟨[(4,.bool true)],hpS b { t with ev:=wI (t.ev+1) } x1 x2 x3,54,4⟩) (r := .bool true) (.inr rfl) Tryz.results87 (by refine zk.of' rfl ?_;simp only [wks,reduceIte,Nat.reduceEqDiff,ASt.okB,AV.okB,Nat.reduceLT,implies_true,hpS,gpC,List.map_cons,List.map_nil]) rfl ?_ ?_;(focus (simp only [zw,zt,zq,simprocAttr,az,];done)));exact QS.yes _ x1 x2 x3 hy l1 l2 l3;done)
      | fail
def goQ (s:Ps) (k:Int):List Ev→Int
 | []=>k
 | e :: r=>match addP s e with
  | some t=>goQ t (k+1) r
  | none=>k
theorem goQ_le : ∀ (l:List Ev) (s:Ps) (k:Int),goQ s k l≤k+l.length∧(goQ s k l=k+l.length↔goP s l=true)
 | [],s,k=>by simp [goQ,goP]
 | e :: r,s,k=>by
  unfold goQ goP
  cases h:addP s e with
  | none=>simp;omega
  | some t =>
   obtain ⟨h1,h2⟩:=goQ_le r t (k+1)
   simp only [List.length_cons]
   refine ⟨by omega,?_⟩
   rw [← h2]
   constructor <;> intro h3 <;> omega
theorem follow_ok (l:List Ev) (hl:l.length≤100000):zx Tryz.prog 71 [.p (.seq 9 (l.map evC))] (.tup [.zA,.int (goQ ps0 0 l),.zA]):=by
 refine zx.of Tryz.func71 rfl 28 rfl (by decide) (by simp [AV.okB]) ?_
 repeat' (first|refine T.zh fun K hK=>?_|apply T.block|apply T.skip|apply T.exit|refine T.zg rfl ?_|refine T.zf rfl ?_|refine T.cond rfl (fun hc=>?_) (fun hc=>?_)|apply T.ret|simp only [zb,za,reduceIte,Nat.reduceEqDiff]|((repeat ((fail_if_success apply hK);clear hK K));apply hK;clear hK K))
 (refine T.reg (by kernel_rfl) fun K' hK'=>?_;simp only [bz];(with_reducible repeat' (first|(apply WL.fin;apply hK';clear hK' K')|(refine WL.step fun K2 hK2=>?_;simp only [simprocAttr,az];repeat' (first|(apply hK2;clear hK2 K2)|apply And.intro|intro hb))));all_goals ((try simp only [zb,za,reduceIte,Nat.reduceEqDiff]);(try ((repeat ((fail_if_success apply hK);clear hK K));apply hK;clear hK K))))
 refine T.weak (zk.upN _ 4 (Nat.le_of_ble_eq_true rfl)) ?_
 repeat' (first|refine T.zh fun K hK=>?_|apply T.block|(refine T.reg (by kernel_rfl) fun K' hK'=>?_;simp only [bz];(repeat' (first|(with_reducible refine WL.fin ?_;apply hK';clear hK' K')|((with_reducible refine WL.step fun K2 hK2=>?_);simp only [simprocAttr,az];(repeat' (first|with_reducible (first|(apply hK2;clear hK2 K2)|apply And.intro|intro hb)|((with_reducible refine zM 4 [] _ [] (Ent.of Tryz.func86 (by kernel_rfl) rfl) newS_ok ?_ ?_ ?_);(focus ((refine ⟨Nat.le_of_ble_eq_true rfl,?_,?_⟩ <;> simp only [pz,reduceIte,Nat.reduceEqDiff,AV.okB,Nat.reduceLT,]);done));(focus (simp [AV.okB];done));rintro hp' r ⟨b,rfl,rfl⟩;refine ⟨by simp,?_⟩;simp only [cz,ASt.zR,AO.keep,Nat.reduceLeDiff,reduceIte,Nat.reduceEqDiff,hpS,gpC])))))))|apply T.skip|apply T.exit|refine T.zg rfl ?_|refine T.zf rfl ?_|refine T.cond rfl (fun hc=>?_) (fun hc=>?_)|apply T.ret|simp only [zb,za,reduceIte,Nat.reduceEqDiff]|((repeat ((fail_if_success apply hK);clear hK K));apply hK;clear hK K))
 refine T.qC (fun p:Nat × Ps × Nat × Nat × Nat × Int=>⟨[(0,.p (.seq 9 (l.map evC))),(2,.ptr 0 0),(3,.int p.1),(4,.int p.2.2.2.2.2)],hpS b p.2.1 p.2.2.1 p.2.2.2.1 p.2.2.2.2.1,28,4⟩) (fun p=>p.1≤l.length∧p.2.2.1≤2*p.1∧p.2.2.2.1≤2*p.1∧p.2.2.2.2.1≤2*p.1∧goQ ps0 0 l=goQ p.2.1 p.1 (l.drop p.1)) (fun p=>l.length-p.1) (0,ps0,0,0,0,0) ⟨Nat.zero_le _,by simp,by simp,by simp,rfl⟩ (by refine zk.of' rfl ?_;simp only [wks,reduceIte,Nat.reduceEqDiff,ASt.okB,AV.okB,Nat.reduceLT,implies_true,Int.natCast_zero,hpS,gpC,List.map_cons,List.map_nil]) ?_
 rintro ⟨k,s,a1,a2,a3,c⟩ ⟨hk,q1,q2,q3,hn⟩ KL hKL
 simp only at hk q1 q2 q3 hn hKL ⊢
 by_cases hlt:k<l.length
 ·obtain ⟨x,hx⟩:=zQ hlt
  have hd:decide ((k:Int)<(l.length:Int))=true:=by simpa using hlt
  rw [drop_at hx,goQ] at hn
  have hc:=addS_ok b s a1 a2 a3 x (by omega) (by omega) (by omega)
  cases ha:addP s x with
  | none =>
   rw [ha] at hc hn
   simp only [evA,evC,List.map_cons,List.map_nil] at hc
   simp only [hpS,gpC]
   repeat' (first|refine T.zh fun K hK=>?_|apply T.block|(refine T.reg (by kernel_rfl) fun K' hK'=>?_;simp only [bz];(repeat' (first|(with_reducible refine WL.fin ?_;apply hK';clear hK' K')|((with_reducible refine WL.step fun K2 hK2=>?_);simp only [simprocAttr,az,hx,hd,evC];(repeat' (first|with_reducible (first|(apply hK2;clear hK2 K2)|apply And.intro|intro hb)|((with_reducible refine zM 4 _ _ [0] (Ent.of Tryz.func87 (by kernel_rfl) rfl) (hc) ?_ ?_ ?_);(focus ((refine ⟨Nat.le_of_ble_eq_true rfl,?_,?_⟩ <;> simp only [pz,reduceIte,Nat.reduceEqDiff,AV.okB,Nat.reduceLT,hpS,gpC]);done));(focus (simp [AV.okB];done));rintro hp' r ⟨rfl,x1,x2,x3,l1,l2,l3,rfl⟩;refine ⟨by simp [Kept,hpS,zy,AO.handle],?_⟩;simp only [Option.getD_none,Option.getD_some,Option.isSome_none,Option.isSome_some,hpS,gpC];simp only [cz,ASt.zR,AO.keep,Nat.reduceLeDiff,reduceIte,Nat.reduceEqDiff,])))))))|apply T.skip|apply T.exit|refine T.zg rfl ?_|refine T.zf rfl ?_|refine T.cond rfl (fun hc=>?_) (fun hc=>?_)|apply T.ret|simp only [zb,za,reduceIte,Nat.reduceEqDiff]|((repeat ((fail_if_success apply hK);clear hK K));apply hK;clear hK K))
   all_goals (refine zH.retW (.inr rfl) Tryz.results71 (s':=⟨[(2,.zA),(3,.int k),(4,.zA)],[],28,4⟩) (by refine zk.of' rfl ?_;simp only [wks,reduceIte,Nat.reduceEqDiff,ASt.okB,AV.okB,Nat.reduceLT,implies_true,]) ?_;simp only [zw,zt,zq,simprocAttr,az];rw [hn])
  | some t =>
   rw [ha] at hc hn
   simp only [evA,evC,List.map_cons,List.map_nil] at hc
   simp only [hpS,gpC]
   repeat' (first|refine T.zh fun K hK=>?_|apply T.block|(refine T.reg (by kernel_rfl) fun K' hK'=>?_;simp only [bz];(repeat' (first|(with_reducible refine WL.fin ?_;apply hK';clear hK' K')|((with_reducible refine WL.step fun K2 hK2=>?_);simp only [simprocAttr,az,hx,hd,evC];(repeat' (first|with_reducible (first|(apply hK2;clear hK2 K2)|apply And.intro|intro hb)|((with_reducible refine zM 4 _ _ [0] (Ent.of Tryz.func87 (by kernel_rfl) rfl) (hc) ?_ ?_ ?_);(focus ((refine ⟨Nat.le_of_ble_eq_true rfl,?_,?_⟩ <;> simp only [pz,reduceIte,Nat.reduceEqDiff,AV.okB,Nat.reduceLT,hpS,gpC]);done));(focus (simp [AV.okB];done));rintro hp' r ⟨rfl,x1,x2,x3,l1,l2,l3,rfl⟩;refine ⟨by simp [Kept,hpS,zy,AO.handle],?_⟩;simp only [Option.getD_none,Option.getD_some,Option.isSome_none,Option.isSome_some,hpS,gpC];simp only [cz,ASt.zR,AO.keep,Nat.reduceLeDiff,reduceIte,Nat.reduceEqDiff,])|((with_reducible refine zM 4 _ _ [0] (Ent.of Tryz.func88 (by kernel_rfl) rfl) ((open_ok b t x1 x2 x3)) ?_ ?_ ?_);(focus ((refine ⟨Nat.le_of_ble_eq_true rfl,?_,?_⟩ <;> simp only [pz,reduceIte,Nat.reduceEqDiff,AV.okB,Nat.reduceLT,hpS,gpC]);done));(focus (simp [AV.okB];done));rintro hp' r ⟨rfl,rfl⟩;refine ⟨by simp [Kept,hpS,zy,AO.handle],?_⟩;simp only [hpS,gpC];simp only [cz,ASt.zR,AO.keep,Nat.reduceLeDiff,reduceIte,Nat.reduceEqDiff,])))))))|apply T.skip|apply T.exit|refine T.zg rfl ?_|refine T.zf rfl ?_|refine T.cond rfl (fun hc=>?_) (fun hc=>?_)|apply T.ret|simp only [zb,za,reduceIte,Nat.reduceEqDiff]|((repeat ((fail_if_success apply hK);clear hK K));apply hK;clear hK K))
   ·refine hKL _ (k+1,t,x1,x2,x3,((k+1:Nat):Int)) (by refine zk.of' rfl ?_;simp only [wks,reduceIte,Nat.reduceEqDiff,ASt.okB,AV.okB,Nat.reduceLT,implies_true,zu (show k<1152921504606846976 by omega),hpS,gpC,List.map_cons,List.map_nil]) ⟨?_,?_,?_,?_,?_⟩ ?_ <;> simp only [] <;> first|omega|(rw [hn];rfl)
   ·refine hKL _ (k+1,t,x1,x2,x3,c) (by refine zk.of' rfl ?_;simp only [wks,reduceIte,Nat.reduceEqDiff,ASt.okB,AV.okB,Nat.reduceLT,implies_true,zu (show k<1152921504606846976 by omega),hpS,gpC,List.map_cons,List.map_nil]) ⟨?_,?_,?_,?_,?_⟩ ?_ <;> simp only [] <;> first|omega|(rw [hn];rfl)
 ·have hd:decide ((k:Int)<(l.length:Int))=false:=by simpa using hlt
  simp only [hpS,gpC]
  repeat' (first|refine T.zh fun K hK=>?_|apply T.block|(refine T.reg (by kernel_rfl) fun K' hK'=>?_;simp only [bz];(with_reducible repeat' (first|(apply WL.fin;apply hK';clear hK' K')|(refine WL.step fun K2 hK2=>?_;simp only [simprocAttr,az,hd];repeat' (first|(apply hK2;clear hK2 K2)|apply And.intro|intro hb)))))|apply T.skip|apply T.exit|refine T.zg rfl ?_|refine T.zf rfl ?_|refine T.cond rfl (fun hc=>?_) (fun hc=>?_)|apply T.ret|simp only [zb,za,reduceIte,Nat.reduceEqDiff]|((repeat ((fail_if_success apply hK);clear hK K));apply hK;clear hK K))
  rw [z2T hlt,goQ] at hn
  refine zH.retW (.inr rfl) Tryz.results71 (s':=⟨[(2,.zA),(3,.int k),(4,.zA)],[],28,4⟩) (by refine zk.of' rfl ?_;simp only [wks,reduceIte,Nat.reduceEqDiff,ASt.okB,AV.okB,Nat.reduceLT,implies_true,]) ?_;simp only [zw,zt,zq,simprocAttr,az];rw [hn]
theorem check_t (l:List Ev) (hl:l.length≤100000):zx Tryz.prog 58 [.p (.seq 9 (l.map evC))] (.tup [.int (goQ ps0 0 l),.bool (goQ ps0 0 l==(l.length:Int))]):=by
 refine zx.of Tryz.func58 rfl 18 rfl (by decide) (by simp [AV.okB]) ?_
 repeat' (first|refine T.zh fun K hK=>?_|apply T.block|(refine T.reg (by kernel_rfl) fun K' hK'=>?_;simp only [bz];(repeat' (first|(with_reducible refine WL.fin ?_;apply hK';clear hK' K')|((with_reducible refine WL.step fun K2 hK2=>?_);simp only [simprocAttr,az];(repeat' (first|with_reducible (first|(apply hK2;clear hK2 K2)|apply And.intro|intro hb)|((with_reducible first|apply zl|apply zm);case h=>exact CallV.plain (Ent.of Tryz.func71 (by kernel_rfl) rfl) (follow_ok l hl) (by simp [AV.okB]))))))))|apply T.skip|apply T.exit|refine T.zg rfl ?_|refine T.zf rfl ?_|refine T.cond rfl (fun hc=>?_) (fun hc=>?_)|apply T.ret|simp only [zb,za,reduceIte,Nat.reduceEqDiff]|((repeat ((fail_if_success apply hK);clear hK K));apply hK;clear hK K))
 all_goals (refine zH.ret (.inr rfl) Tryz.results58 ?_;simp only [zw,zt,zq,simprocAttr,az,])
theorem valid_t (l:List Ev) (hl:l.length≤100000):zx Tryz.prog 46 [.p (.seq 9 (l.map evC))] (.bool (qo l).2):=by
 have he:(goQ ps0 0 l==(l.length:Int))=(qo l).2:=by
  rw [← z3T]
  have h:=(goQ_le l ps0 0).2
  rw [Int.zero_add] at h
  cases hg:goP ps0 l with
  | true=>simpa using h.2 hg
  | false =>
   simp only [beq_eq_false_iff_ne,ne_eq]
   intro e
   rw [h.1 e] at hg
   cases hg
 refine zx.of Tryz.func46 rfl 11 rfl (by decide) (by simp [AV.okB]) ?_
 repeat' (first|refine T.zh fun K hK=>?_|apply T.block|(refine T.reg (by kernel_rfl) fun K' hK'=>?_;simp only [bz];(repeat' (first|(with_reducible refine WL.fin ?_;apply hK';clear hK' K')|((with_reducible refine WL.step fun K2 hK2=>?_);simp only [simprocAttr,az];(repeat' (first|with_reducible (first|(apply hK2;clear hK2 K2)|apply And.intro|intro hb)|((with_reducible first|apply zl|apply zm);case h=>exact CallV.plain (Ent.of Tryz.func58 (by kernel_rfl) rfl) (check_t l hl) (by simp [AV.okB]))))))))|apply T.skip|apply T.exit|refine T.zg rfl ?_|refine T.zf rfl ?_|refine T.cond rfl (fun hc=>?_) (fun hc=>?_)|apply T.ret|simp only [zb,za,reduceIte,Nat.reduceEqDiff]|((repeat ((fail_if_success apply hK);clear hK K));apply hK;clear hK K))
 all_goals (refine zH.ret (.inr rfl) Tryz.results46 ?_;simp only [zw,zt,zq,simprocAttr,az,];rw [he])
def EvI (l:List Ev):Prop := ∀ e ∈ l,inI e.g∧inI e.obj∧inI e.off∧(e.kind=14→inI e.k)
theorem z5p : ∀ (l:List Ev) (s:Ps),goP s l=true → ∀ e ∈ l,qd e=true
 | [],s,_,e,h=>by cases h
 | x :: r,s,hg,e,h=>by
  rw [goP] at hg
  cases ha:addP s x with
  | none=>rw [ha] at hg;cases hg
  | some t =>
   rw [ha] at hg
   rcases List.mem_cons.1 h with rfl|h
   ·unfold addP at ha
    split at ha
    ·cases ha
    ·rename_i hn
     simp only [z3A,Bool.or_eq_true,Bool.not_eq_true'] at hn
     cases hv:qd e with
     | true=>rfl
     | false=>exact absurd (.inl (.inl hv)) hn
   ·exact z5p r t hg e h
theorem validB_I {e:Ev} (h:qd e=true):inI e.g∧inI e.obj∧inI e.off∧inI e.k:=by
 have h1:=z7r h
 simp only [qd,z1F,List.all_cons,okF,z3x,Bool.and_eq_true,Bool.not_eq_true',Bool.or_eq_false_iff,decide_eq_false_iff_not] at h
 obtain ⟨⟨⟨g1,g2⟩,_⟩,⟨_,_,⟨k1,k2⟩,_⟩,_⟩:=h
 exact ⟨⟨by omega,by omega⟩,h1.o,h1.f,by omega,by omega⟩
theorem evI_of {l:List Ev} (h:(qo l).2=true):EvI l:=fun e he=>by
 rw [← z3T] at h
 obtain ⟨h1,h2,h3,h4⟩:=validB_I (z5p l ps0 h e he)
 exact ⟨h1,h2,h3,fun _=>h4⟩
def cnM (l:List Ev):Nat→Nat→Bool:=fC (z00 l l.length)
def rgF (p:Nat→Bool) (k:Nat):List Nat:=(List.range k).filter p
theorem z98 (p:Nat→Bool):rgF p 0 = []:=rfl
theorem z1c (p:Nat→Bool) (k:Nat):rgF p (k+1)=rgF p k++if p k then [k] else []:=by
 unfold rgF
 rw [List.range_succ,List.filter_append];simp only [List.filter_cons,List.filter_nil]
theorem z8b (p:Nat→Bool) (k:Nat):(rgF p k).length≤k:=by
 have:=List.length_filter_le p (List.range k)
 rwa [List.length_range] at this
def coneB (l:List Ev) (j:Nat):List Nat:=rgF (cnM l j) (j+1)
def coneO (l:List Ev) (j:Int):List Nat:=if !(decide (j<0)) && !(decide ((l.length:Int)≤j))&&(qo l).2 then coneB l j.toNat else []
theorem nilI:rowI [] = []:=rfl
def raC (x:Nat × Nat):List PV := [.val (.int .i64 (x.1:Int)),.val (.int .i64 (x.2:Int))]
def z4j (l:List Ev) (j:Int):List Nat:=if (qo l).2 && !(decide (j<0)) && !(decide ((l.length:Int)≤j)) then rgF (hbB l j.toNat) j.toNat ++ [j.toNat] else []
def rowE (r:List Ed):List (List PV):=r.map edC
theorem rowE_at {r:List Ed} {k:Nat} {x:Ed} (h:r[k]? = some x):(rowE r)[k]? = some (edC x):=by
 unfold rowE;rw [List.getElem?_map,h];rfl
theorem z8d (r:List Nat) (hr:r.length≤1000000000000):zx Tryz.prog 21 [.p (.seq 1 (rowI r)),.p (.seq 1 (rowI r))] (.bool true):=by
 have hlen:(rowI r).length=r.length:=by simp [rowI]
 refine zx.of Tryz.func21 rfl 26 rfl (by decide) (by simp [AV.okB]) ?_
 repeat' (first|refine T.zh fun K hK=>?_|apply T.block|(refine T.reg (by kernel_rfl) fun K' hK'=>?_;simp only [bz];(with_reducible repeat' (first|(apply WL.fin;apply hK';clear hK' K')|(refine WL.step fun K2 hK2=>?_;simp only [simprocAttr,implies_true,amz,abin,tys,hlen,bne_self_eq_false];repeat' (first|(apply hK2;clear hK2 K2)|apply And.intro|intro hb)))))|apply T.skip|apply T.exit|refine T.zg rfl ?_|refine T.zf rfl ?_|refine T.cond rfl (fun hc=>?_) (fun hc=>?_)|apply T.ret|simp only [zb,za,reduceIte,Nat.reduceEqDiff]|((repeat ((fail_if_success apply hK);clear hK K));apply hK;clear hK K))
 refine T.qC (fun k:Nat=>⟨[(0,.p (.seq 1 (rowI r))),(1,.p (.seq 1 (rowI r))),(5,.int k)],[],26,0⟩) (fun k=>k≤r.length) (fun k=>r.length-k) 0 (Nat.zero_le _) (by refine zk.of' rfl ?_;simp only [wks,reduceIte,Nat.reduceEqDiff,ASt.okB,AV.okB,Nat.reduceLT,implies_true,Int.natCast_zero]) ?_
 intro k hk KL hKL
 by_cases hkr:k<r.length
 ·have hd:decide ((k:Int)<(r.length:Int))=true:=by simpa using hkr
  obtain ⟨x,hx⟩:=zQ hkr
  have m1:=z3p hx
  repeat' (first|refine T.zh fun K hK=>?_|apply T.block|(refine T.reg (by kernel_rfl) fun K' hK'=>?_;simp only [bz];(with_reducible repeat' (first|(apply WL.fin;apply hK';clear hK' K')|(refine WL.step fun K2 hK2=>?_;simp only [simprocAttr,implies_true,amz,abin,tys,hlen,hd];repeat' (first|(apply hK2;clear hK2 K2)|apply And.intro|intro hb)))))|apply T.skip|apply T.exit|refine T.zg rfl ?_|refine T.zf rfl ?_|refine T.cond rfl (fun hc=>?_) (fun hc=>?_)|apply T.ret|simp only [zb,za,reduceIte,Nat.reduceEqDiff]|((repeat ((fail_if_success apply hK);clear hK K));apply hK;clear hK K))
  refine T.drw 8 (by kernel_rfl) (by kernel_rfl) fun K' hK'=>?_;simp only [List.map_cons,List.map_nil];(repeat' (first|(with_reducible refine WL.fin ?_;apply hK';clear hK' K')|(with_reducible refine WD.fin ?_)|((with_reducible first|refine WL.step fun K2 hK2=>?_|refine WD.step fun K2 hK2=>?_);simp only [simprocAttr,implies_true,amz,abin,tys,hlen,m1,edC,raC,aeqF,scEq,Bool.and_self,bne_self_eq_false,beq_self_eq_true];(repeat' with_reducible (first|(apply hK2;clear hK2 K2)|apply And.intro|intro hb)))));all_goals ((try simp only [zb,za,reduceIte,Nat.reduceEqDiff]);(try ((repeat ((fail_if_success apply hK);clear hK K));apply hK;clear hK K)))
  all_goals repeat' (first|refine T.zh fun K hK=>?_|apply T.block|(refine T.reg (by kernel_rfl) fun K' hK'=>?_;simp only [bz];(with_reducible repeat' (first|(apply WL.fin;apply hK';clear hK' K')|(refine WL.step fun K2 hK2=>?_;simp only [simprocAttr,implies_true,amz,abin,tys,hlen];repeat' (first|(apply hK2;clear hK2 K2)|apply And.intro|intro hb)))))|apply T.skip|apply T.exit|refine T.zg rfl ?_|refine T.zf rfl ?_|refine T.cond rfl (fun hc=>?_) (fun hc=>?_)|apply T.ret|simp only [zb,za,reduceIte,Nat.reduceEqDiff]|((repeat ((fail_if_success apply hK);clear hK K));apply hK;clear hK K))
  refine hKL _ (k+1) ?_ (by omega) (by omega)
  refine zk.of' rfl ?_;simp only [wks,reduceIte,Nat.reduceEqDiff,ASt.okB,AV.okB,Nat.reduceLT,implies_true,zu (show k<1152921504606846976 by omega)]
 ·have hd:decide ((k:Int)<(r.length:Int))=false:=by simpa using hkr
  repeat' (first|refine T.zh fun K hK=>?_|apply T.block|(refine T.reg (by kernel_rfl) fun K' hK'=>?_;simp only [bz];(with_reducible repeat' (first|(apply WL.fin;apply hK';clear hK' K')|(refine WL.step fun K2 hK2=>?_;simp only [simprocAttr,implies_true,amz,abin,tys,hlen,hd];repeat' (first|(apply hK2;clear hK2 K2)|apply And.intro|intro hb)))))|apply T.skip|apply T.exit|refine T.zg rfl ?_|refine T.zf rfl ?_|refine T.cond rfl (fun hc=>?_) (fun hc=>?_)|apply T.ret|simp only [zb,za,reduceIte,Nat.reduceEqDiff]|((repeat ((fail_if_success apply hK);clear hK K));apply hK;clear hK K))
  refine zH.ret (.inr rfl) Tryz.results21 ?_;simp only [zw,zt,zq,simprocAttr,implies_true,amz,abin,tys,]
def kdL (l:List Ev) (i j:Nat):Int:=match l[i]?,l[j]? with
 | some x,some y=>if z1W l x y i j then 0 else y.kind
 | _,_ => 0
theorem kdL_eq {l:List Ev} {i j:Nat} {x y:Ev} (hx:l[i]? = some x) (hy:l[j]? = some y):kdL l i j=if z1W l x y i j then 0 else y.kind:=by simp [kdL,hx,hy]
def edJ (l:List Ev) (j:Nat):Nat→List Ed
 | 0 => []
 | k+1=>edJ l j k++if immL l k j then [⟨k,j,kdL l k j⟩] else []
def edU (l:List Ev):Nat→List Ed
 | 0 => []
 | j+1=>edU l j++edJ l j j
theorem edJ_len (l:List Ev) (j:Nat) : ∀ k,(edJ l j k).length≤k
 | 0=>Nat.le_refl _
 | k+1=>by
  have:=edJ_len l j k
  rw [edJ,List.length_append]
  split <;> simp <;> omega
theorem edU_len (l:List Ev) (m:Nat) : ∀ j,j≤m→(edU l j).length≤j*m
 | 0,_=>by simp [edU]
 | j+1,h=>by
  have h1:=edU_len l m j (by omega)
  have h2:=edJ_len l j j
  rw [edU,List.length_append,Nat.add_mul]
  omega
theorem z6U (r:List Ed):(rowE r).length=r.length:=by simp [rowE]
theorem rowE_snoc (r:List Ed) (x:Ed):rowE r ++ [[PV.val (.int .i64 x.f),.val (.int .i64 x.t),.val (.int .i64 x.k)]]=rowE (r ++ [x]):=by simp [rowE,edC]
theorem nilE:rowE [] = []:=rfl
def z2v (l:List Ev):List Ed:=if (qo l).2 then edU l l.length else []
def errE (l:List Ev):Int:=if (qo l).2 then 0 else 1
end Go.Proofs.YtdlgoofjechocaaGreatDoor
