/- Texts Mg, Oj, Ew, Ss, Sm, Po, Pp. -/
import Derived.Test.YtbkkginjfnjffaaGreatDoorZ11
set_option maxHeartbeats 32000000
set_option maxRecDepth 100000
set_option linter.unusedSimpArgs false
set_option linter.unusedVariables false
namespace Go.Proofs.YtbkkginjfnjffaaGreatDoor
open Go.RowKit Go.Sort
theorem insK_step (k x:List Int) (d:Bool) (r:List (List Int)):insK k d (x :: r)=if (!d&&lexB k x)=true then k :: x :: insK k true r else x :: insK k (d||x==k) r:=rfl
theorem mergeR_ok (l:List Ev) (ss:List P2) (ps:List Int) (hsz:ss.length≤1000000) (rs:List P2) (hrs:rs.length≤1000):zt Tryz.prog 7 [trA l ss ps,raA rs] (merA l ss ps rs):=by
 have hvd:=z6P ss ps hsz
 have hrl:=z04 rs
 have hm1:(1≤maxLen)=True:=eq_true (by unfold maxLen;omega)
 have hac:=fun r=>accR_ok l ss ps r
 have hor:=ofR_ok l ss ps
 have hre:=z8Z l ss ps hsz
 simp only [trA,dpA,p2A] at hvd hac hor hre
 simp only [trA,dpA,p2A,raA,merA]
 cases hv:validD ss ps with
 | false =>
  have ho:okM l ss ps rs=false:=by simp [okM,hv]
  have hx:outM l ss ps rs = []:=by simp [outM,ho]
  have hy:errM l ss ps rs=1:=by simp [errM,ho]
  rw [hv] at hvd
  rw [hx,hy]
  simp only [List.map_nil]
  refine zt.of Tryz.func7 rfl 137 rfl (by decide) (by simp [AV.okB]) ?_
  repeat' (first|refine T.zk fun K hK=>?_|apply T.block|(refine T.reg (by kernel_rfl) fun K' hK'=>?_;simp only [bz];(repeat' (first|(with_reducible refine WL.fin ?_;apply hK';clear hK' K')|((with_reducible refine WL.step fun K2 hK2=>?_);simp only [simprocAttr,implies_true,amz,zf,tys];(repeat' (first|with_reducible (first|(apply hK2;clear hK2 K2)|apply And.intro|intro hb)|((with_reducible first|apply zl|apply zn);case h=>exact CallV.plain (Ent.of Tryz.func22 (by kernel_rfl) rfl) (hvd) (by simp [AV.okB]))))))))|apply T.skip|apply T.exit|refine T.zh rfl ?_|refine T.zg rfl ?_|refine T.cond rfl (fun hc=>?_) (fun hc=>?_)|apply T.ret|simp only [ze,z8,reduceIte,Nat.reduceEqDiff]|((repeat ((fail_if_success apply hK);clear hK K));apply hK;clear hK K))
  refine zP.retW (.inr rfl) Tryz.results7 (s':=⟨[(4,.p (.seq 7 [])),(5,.int 1)],[],137,0⟩) (by refine zi.of' rfl ?_;simp only [wks,reduceIte,Nat.reduceEqDiff,ASt.okB,AV.okB,Nat.reduceLT,implies_true,]) ?_
  simp only [zI,zu,zw,simprocAttr,implies_true,amz,zf,tys]
 | true =>
 rw [hv] at hvd
 refine zt.of Tryz.func7 rfl 137 rfl (by decide) (by simp [AV.okB]) ?_
 repeat' (first|refine T.zk fun K hK=>?_|apply T.block|(refine T.reg (by kernel_rfl) fun K' hK'=>?_;simp only [bz];(repeat' (first|(with_reducible refine WL.fin ?_;apply hK';clear hK' K')|((with_reducible refine WL.step fun K2 hK2=>?_);simp only [simprocAttr,implies_true,amz,zf,tys];(repeat' (first|with_reducible (first|(apply hK2;clear hK2 K2)|apply And.intro|intro hb)|((with_reducible first|apply zl|apply zn);case h=>exact CallV.plain (Ent.of Tryz.func22 (by kernel_rfl) rfl) (hvd) (by simp [AV.okB]))))))))|apply T.skip|apply T.exit|refine T.zh rfl ?_|refine T.zg rfl ?_|refine T.cond rfl (fun hc=>?_) (fun hc=>?_)|apply T.ret|simp only [ze,z8,reduceIte,Nat.reduceEqDiff]|((repeat ((fail_if_success apply hK);clear hK K));apply hK;clear hK K))
 refine T.z02 (fun i:Nat=>⟨[(1,.p (.seq 2 (rowP rs))),(2,.ptr 0 0),(6,.int i)],[(0,.boxP none 31 [.p (.seq 9 (l.map evC)),.p (.seq 2 (rowP ss)),.p (.seq 1 (rowZ ps))])],137,1⟩) (fun i=>i≤rs.length∧rs.all (accB l ss.length)=(rs.drop i).all (accB l ss.length)) (fun i=>rs.length-i) 0 ⟨Nat.zero_le _,by simp⟩ (by refine zi.of' rfl ?_;simp only [wks,reduceIte,Nat.reduceEqDiff,ASt.okB,AV.okB,Nat.reduceLT,implies_true,Int.natCast_zero]) ?_
 rintro i ⟨hi,hal⟩ KL hKL
 by_cases hlt:i<rs.length
 ·have hd:decide ((i:Int)<(rs.length:Int))=true:=by simpa using hlt
  have hi0:(0≤(i:Int))=True:=eq_true (by omega)
  obtain ⟨r,hr⟩:=qA hlt
  have m1:=z0I hr
  have hac:=hac r
  rw [drop_at hr,List.all_cons] at hal
  cases ha:accB l ss.length r with
  | false =>
   rw [ha,Bool.false_and] at hal
   rw [ha] at hac
   have ho:okM l ss ps rs=false:=by simp only [okM,hal,Bool.and_false]
   have hx:outM l ss ps rs = []:=by simp [outM,ho]
   have hy:errM l ss ps rs=1:=by simp [errM,ho]
   repeat' (first|refine T.zk fun K hK=>?_|apply T.block|(refine T.reg (by kernel_rfl) fun K' hK'=>?_;simp only [bz];(with_reducible repeat' (first|(apply WL.fin;apply hK';clear hK' K')|(refine WL.step fun K2 hK2=>?_;simp only [simprocAttr,implies_true,amz,zf,tys,hrl,hd];repeat' (first|(apply hK2;clear hK2 K2)|apply And.intro|intro hb)))))|apply T.skip|apply T.exit|refine T.zh rfl ?_|refine T.zg rfl ?_|refine T.cond rfl (fun hc=>?_) (fun hc=>?_)|apply T.ret|simp only [ze,z8,reduceIte,Nat.reduceEqDiff]|((repeat ((fail_if_success apply hK);clear hK K));apply hK;clear hK K))
   refine T.drw 6 (by kernel_rfl) (by kernel_rfl) fun K' hK'=>?_;simp only [yl];(repeat' (first|(with_reducible refine WL.fin ?_;apply hK';clear hK' K')|(with_reducible refine WD.fin ?_)|((with_reducible first|refine WL.step fun K2 hK2=>?_|refine WD.step fun K2 hK2=>?_);simp only [simprocAttr,implies_true,amz,zf,tys,hi0,Int.toNat_natCast,m1];(repeat' (first|with_reducible (first|(apply hK2;clear hK2 K2)|apply And.intro|intro hb)|((with_reducible first|apply zl|apply zn);case h=>exact CallV.plain (Ent.of Tryz.func23 (by kernel_rfl) rfl) (hac) (by simp [AV.okB])))))));all_goals ((try simp only [ze,z8,reduceIte,Nat.reduceEqDiff]);(try ((repeat ((fail_if_success apply hK);clear hK K));apply hK;clear hK K)))
   all_goals repeat' (first|refine T.zk fun K hK=>?_|apply T.block|(refine T.reg (by kernel_rfl) fun K' hK'=>?_;simp only [bz];(with_reducible repeat' (first|(apply WL.fin;apply hK';clear hK' K')|(refine WL.step fun K2 hK2=>?_;simp only [simprocAttr,implies_true,amz,zf,tys];repeat' (first|(apply hK2;clear hK2 K2)|apply And.intro|intro hb)))))|apply T.skip|apply T.exit|refine T.zh rfl ?_|refine T.zg rfl ?_|refine T.cond rfl (fun hc=>?_) (fun hc=>?_)|apply T.ret|simp only [ze,z8,reduceIte,Nat.reduceEqDiff]|((repeat ((fail_if_success apply hK);clear hK K));apply hK;clear hK K))
   refine zP.retW (.inr rfl) Tryz.results7 (s':=⟨[(4,.p (.seq 7 [])),(5,.int 1)],[],137,0⟩) (by refine zi.of' rfl ?_;simp only [wks,reduceIte,Nat.reduceEqDiff,ASt.okB,AV.okB,Nat.reduceLT,implies_true,]) ?_
   simp only [zI,zu,zw,simprocAttr,implies_true,amz,zf,tys,hx,hy,List.map_nil]
  | true =>
   rw [ha,Bool.true_and] at hal
   rw [ha] at hac
   repeat' (first|refine T.zk fun K hK=>?_|apply T.block|(refine T.reg (by kernel_rfl) fun K' hK'=>?_;simp only [bz];(with_reducible repeat' (first|(apply WL.fin;apply hK';clear hK' K')|(refine WL.step fun K2 hK2=>?_;simp only [simprocAttr,implies_true,amz,zf,tys,hrl,hd];repeat' (first|(apply hK2;clear hK2 K2)|apply And.intro|intro hb)))))|apply T.skip|apply T.exit|refine T.zh rfl ?_|refine T.zg rfl ?_|refine T.cond rfl (fun hc=>?_) (fun hc=>?_)|apply T.ret|simp only [ze,z8,reduceIte,Nat.reduceEqDiff]|((repeat ((fail_if_success apply hK);clear hK K));apply hK;clear hK K))
   refine T.drw 6 (by kernel_rfl) (by kernel_rfl) fun K' hK'=>?_;simp only [yl];(repeat' (first|(with_reducible refine WL.fin ?_;apply hK';clear hK' K')|(with_reducible refine WD.fin ?_)|((with_reducible first|refine WL.step fun K2 hK2=>?_|refine WD.step fun K2 hK2=>?_);simp only [simprocAttr,implies_true,amz,zf,tys,hi0,Int.toNat_natCast,m1];(repeat' (first|with_reducible (first|(apply hK2;clear hK2 K2)|apply And.intro|intro hb)|((with_reducible first|apply zl|apply zn);case h=>exact CallV.plain (Ent.of Tryz.func23 (by kernel_rfl) rfl) (hac) (by simp [AV.okB])))))));all_goals ((try simp only [ze,z8,reduceIte,Nat.reduceEqDiff]);(try ((repeat ((fail_if_success apply hK);clear hK K));apply hK;clear hK K)))
   all_goals repeat' (first|refine T.zk fun K hK=>?_|apply T.block|(refine T.reg (by kernel_rfl) fun K' hK'=>?_;simp only [bz];(with_reducible repeat' (first|(apply WL.fin;apply hK';clear hK' K')|(refine WL.step fun K2 hK2=>?_;simp only [simprocAttr,implies_true,amz,zf,tys];repeat' (first|(apply hK2;clear hK2 K2)|apply And.intro|intro hb)))))|apply T.skip|apply T.exit|refine T.zh rfl ?_|refine T.zg rfl ?_|refine T.cond rfl (fun hc=>?_) (fun hc=>?_)|apply T.ret|simp only [ze,z8,reduceIte,Nat.reduceEqDiff]|((repeat ((fail_if_success apply hK);clear hK K));apply hK;clear hK K))
   refine hKL _ (i+1) (by refine zi.of' rfl ?_;simp only [wks,reduceIte,Nat.reduceEqDiff,ASt.okB,AV.okB,Nat.reduceLT,implies_true,zx (show i<1152921504606846976 by omega)]) ⟨hlt,hal⟩ (by omega)
 have hd:decide ((i:Int)<(rs.length:Int))=false:=by simpa using hlt
 rw [List.drop_eq_nil_of_le (by omega),List.all_nil] at hal
 have hacc : ∀ r ∈ rs,accB l ss.length r=true:=fun r hr=>List.all_eq_true.1 hal r hr
 have hrac : ∀ r ∈ rs,∃ e f,Rac l r e f∧stB ss.length e=true∧stB ss.length f=true∧keyR l r=keyL (loE e f) (hiE e f) ∧ ∀ c,repR l ss ps r c=z3A ss ps (loE e f) (hiE e f) c:=fun r hr=>by
  obtain ⟨e,f,h1,h2⟩:=z5n (hacc r hr)
  obtain ⟨h3,h4⟩:=h1.at
  simp only [accE,Bool.and_eq_true] at h2
  exact ⟨e,f,h1,h2.1.2,h2.2,by rw [keyR,h3,h4],fun c=>by rw [repR,h3,h4]⟩
 have ho:okM l ss ps rs=true:=by simp only [okM,hv,hal,Bool.and_self]
 have hx:outM l ss ps rs=outR l ss ps rs:=by simp [outM,ho]
 have hy:errM l ss ps rs=0:=by simp [errM,ho]
 clear hal
 repeat' (first|refine T.zk fun K hK=>?_|apply T.block|(refine T.reg (by kernel_rfl) fun K' hK'=>?_;simp only [bz];(with_reducible repeat' (first|(apply WL.fin;apply hK';clear hK' K')|(refine WL.step fun K2 hK2=>?_;simp only [simprocAttr,implies_true,amz,zf,tys,hrl,hd];repeat' (first|(apply hK2;clear hK2 K2)|apply And.intro|intro hb)))))|apply T.skip|apply T.exit|refine T.zh rfl ?_|refine T.zg rfl ?_|refine T.cond rfl (fun hc=>?_) (fun hc=>?_)|apply T.ret|simp only [ze,z8,reduceIte,Nat.reduceEqDiff]|((repeat ((fail_if_success apply hK);clear hK K));apply hK;clear hK K))
 refine T.z02 (fun i:Nat=>⟨[(1,.p (.seq 2 (rowP rs))),(2,.ptr 0 0),(7,.p (.seq 6 ((z0Y ((rs.take i).map (keyR l))).map keyC))),(8,.int i)],[(0,.boxP none 31 [.p (.seq 9 (l.map evC)),.p (.seq 2 (rowP ss)),.p (.seq 1 (rowZ ps))])],137,1⟩) (fun i=>i≤rs.length) (fun i=>rs.length-i) 0 (Nat.zero_le _) (by refine zi.of' rfl ?_;simp only [wks,reduceIte,Nat.reduceEqDiff,ASt.okB,AV.okB,Nat.reduceLT,implies_true,Int.natCast_zero,List.take_zero,List.map_nil,show z0Y [] = [] from rfl]) ?_
 intro i hi KL hKL
 by_cases hlt:i<rs.length
 ·have hd:decide ((i:Int)<(rs.length:Int))=true:=by simpa using hlt
  have hi0:(0≤(i:Int))=True:=eq_true (by omega)
  obtain ⟨r,hr⟩:=qA hlt
  have m1:=z0I hr
  obtain ⟨e,f,h1,_,_,h2,_⟩:=hrac r (List.mem_of_getElem? hr)
  have hor:=hor r e f h1
  rw [← h2] at hor
  have hkn:z0Y ((rs.take (i+1)).map (keyR l))=insK (keyR l r) false (z0Y ((rs.take i).map (keyR l))):=by
   rw [List.take_add_one,hr,Option.toList_some,List.map_append,List.map_cons,List.map_nil,z6o]
  have hk6 : ∀ x ∈ z0Y ((rs.take i).map (keyR l)),x.length=6:=fun x hx=>z3x x ((z0A (n := 6) z3x x).1 hx)
  have hkl:(z0Y ((rs.take i).map (keyR l))).length≤i:=by
   have:=z4A ((rs.take i).map (keyR l))
   rw [List.length_map,List.length_take] at this
   omega
  obtain ⟨k1,k2,k3,k4,k5,k6,hk⟩:=z1v (z5B l r)
  rw [hk] at hor hkn
  obtain ⟨ks,hks⟩ : ∃ ks,ks=z0Y ((rs.take i).map (keyR l)):=⟨_,rfl⟩
  rw [← hks] at hk6 hkl hkn ⊢
  have hksl:(ks.map keyC).length=ks.length:=by simp
  simp only [keyA,yl] at hor
  repeat' (first|refine T.zk fun K hK=>?_|apply T.block|(refine T.reg (by kernel_rfl) fun K' hK'=>?_;simp only [bz];(with_reducible repeat' (first|(apply WL.fin;apply hK';clear hK' K')|(refine WL.step fun K2 hK2=>?_;simp only [simprocAttr,implies_true,amz,zf,tys,hrl,hd];repeat' (first|(apply hK2;clear hK2 K2)|apply And.intro|intro hb)))))|apply T.skip|apply T.exit|refine T.zh rfl ?_|refine T.zg rfl ?_|refine T.cond rfl (fun hc=>?_) (fun hc=>?_)|apply T.ret|simp only [ze,z8,reduceIte,Nat.reduceEqDiff]|((repeat ((fail_if_success apply hK);clear hK K));apply hK;clear hK K))
  refine T.comm [some (0,1),some (0,1),some (0,1),some (0,1),some (0,1),some (0,1),none,none] (by kernel_rfl) (by kernel_rfl) fun K' hK'=>?_;simp only [yl,List.zip_cons_cons,List.zip_nil_left];(repeat' (first|(with_reducible refine WC.fin ?_;apply hK';clear hK' K')|((first|(with_reducible refine WC.z0O fun K2 hK2=>?_)|(with_reducible refine WC.stepW fun K2 hK2=>?_));simp only [simprocAttr,implies_true,amz,zf,WCg,WCv,WOw,allP,dav,Chk,List.filter_cons,List.filter_nil,bne_self_eq_false,Nat.reduceBneDiff,Bool.false_eq_true,tys,hi0,Int.toNat_natCast,m1];(repeat' (first|(with_reducible refine hK2 _ _ ?_;clear hK2 K2)|with_reducible (first|(apply hK2;clear hK2 K2)|apply And.intro|intro hb)|(with_reducible rfl)|((with_reducible show @Eq ASt _ _);rfl)|((with_reducible first|apply zl|apply zn);case h=>exact CallV.plain (Ent.of Tryz.func24 (by kernel_rfl) rfl) (hor) (by simp [AV.okB])))))));all_goals ((try simp only [ze,z8,reduceIte,Nat.reduceEqDiff]);(try ((repeat ((fail_if_success apply hK);clear hK K));apply hK;clear hK K)))
  all_goals repeat' (first|refine T.zk fun K hK=>?_|apply T.block|(refine T.reg (by kernel_rfl) fun K' hK'=>?_;simp only [bz];(with_reducible repeat' (first|(apply WL.fin;apply hK';clear hK' K')|(refine WL.step fun K2 hK2=>?_;simp only [simprocAttr,implies_true,amz,zf,tys];repeat' (first|(apply hK2;clear hK2 K2)|apply And.intro|intro hb)))))|apply T.skip|apply T.exit|refine T.zh rfl ?_|refine T.zg rfl ?_|refine T.cond rfl (fun hc=>?_) (fun hc=>?_)|apply T.ret|simp only [ze,z8,reduceIte,Nat.reduceEqDiff]|((repeat ((fail_if_success apply hK);clear hK K));apply hK;clear hK K))
  refine T.weak (zi.z3p _ 10 85 6 (show 10<137 by decide) rfl) ?_;simp only [ASt.add,z07,Nat.reduceAdd]
  refine T.z02 (fun p:Nat × List (List Int) × Bool=>⟨[(1,.p (.seq 2 (rowP rs))),(2,.ptr 0 0),(7,.p (.seq 6 (ks.map keyC))),(8,.int i),(9,.ptr 1 0),(10,.own 2),(11,.bool p.2.2),(12,.int p.1)],[(2,.row 85 6 (p.2.1.map keyC)),(1,.boxP none 85 [.int k1,.int k2,.int k3,.int k4,.int k5,.int k6]),(0,.boxP none 31 [.p (.seq 9 (l.map evC)),.p (.seq 2 (rowP ss)),.p (.seq 1 (rowZ ps))])],137,3⟩) (fun p=>p.1≤ks.length∧p.2.1++insK [k1,k2,k3,k4,k5,k6] p.2.2 (ks.drop p.1)=insK [k1,k2,k3,k4,k5,k6] false ks) (fun p=>ks.length-p.1) (0,[],false) ⟨Nat.zero_le _,by simp⟩ (by refine zi.of' rfl ?_;simp only [wks,reduceIte,Nat.reduceEqDiff,ASt.okB,AV.okB,Nat.reduceLT,implies_true,Int.natCast_zero,List.map_nil]) ?_
  rintro ⟨n,acc,dn⟩ ⟨hn,hins⟩ KM hKM
  simp only at hn hins hKM ⊢
  have hacl:acc.length≤1001:=by
   have e1:=congrArg List.length hins
   rw [List.length_append] at e1
   have e2:=z5z [k1,k2,k3,k4,k5,k6] false ks
   omega
  have hacm:(acc.map keyC).length=acc.length:=by simp
  have hb1:(acc.length+1≤maxLen)=True:=eq_true (by unfold maxLen;omega)
  have hb2:((acc.length+1)*48≤140737488355328)=True:=eq_true (by omega)
  have hb3:(acc.length+1+1≤maxLen)=True:=eq_true (by unfold maxLen;omega)
  have hb4:((acc.length+1+1)*48≤140737488355328)=True:=eq_true (by omega)
  by_cases hnl:n<ks.length
  case neg =>
   have hdn:decide ((n:Int)<(ks.length:Int))=false:=by simpa using hnl
   rw [List.drop_eq_nil_of_le (by omega),insK] at hins
   cases dn with
   | true =>
    rw [if_pos rfl,List.append_nil] at hins
    repeat' (first|refine T.zk fun K hK=>?_|apply T.block|(refine T.reg (by kernel_rfl) fun K' hK'=>?_;simp only [bz];(with_reducible repeat' (first|(apply WL.fin;apply hK';clear hK' K')|(refine WL.step fun K2 hK2=>?_;simp only [simprocAttr,implies_true,amz,zf,tys,hksl,hdn,Bool.not_true];repeat' (first|(apply hK2;clear hK2 K2)|apply And.intro|intro hb)))))|apply T.skip|apply T.exit|refine T.zh rfl ?_|refine T.zg rfl ?_|refine T.cond rfl (fun hc=>?_) (fun hc=>?_)|apply T.ret|simp only [ze,z8,reduceIte,Nat.reduceEqDiff]|((repeat ((fail_if_success apply hK);clear hK K));apply hK;clear hK K))
    refine hKL _ (i+1) ((zi.frz _ 2).trans (by simp only [ASt.frz,List.filter_cons,List.filter_nil,bne_self_eq_false,Nat.reduceBneDiff,Bool.false_eq_true,simprocAttr,implies_true,amz,zf];refine zi.of' rfl ?_;simp only [wks,reduceIte,Nat.reduceEqDiff,ASt.okB,AV.okB,Nat.reduceLT,implies_true,zx (show i<1152921504606846976 by omega),hkn,hins])) hlt (by omega)
   | false =>
    rw [if_neg (by simp)] at hins
    repeat' (first|refine T.zk fun K hK=>?_|apply T.block|(refine T.reg (by kernel_rfl) fun K' hK'=>?_;simp only [bz];(with_reducible repeat' (first|(apply WL.fin;apply hK';clear hK' K')|(refine WL.step fun K2 hK2=>?_;simp only [simprocAttr,implies_true,amz,zf,tys,hksl,hdn,Bool.not_false,hm1,hacm,hb1,hb2,List.length_cons,List.length_nil];repeat' (first|(apply hK2;clear hK2 K2)|apply And.intro|intro hb)))))|apply T.skip|apply T.exit|refine T.zh rfl ?_|refine T.zg rfl ?_|refine T.cond rfl (fun hc=>?_) (fun hc=>?_)|apply T.ret|simp only [ze,z8,reduceIte,Nat.reduceEqDiff]|((repeat ((fail_if_success apply hK);clear hK K));apply hK;clear hK K))
    refine hKL _ (i+1) ((zi.frz _ 2).trans (by simp only [ASt.frz,List.filter_cons,List.filter_nil,bne_self_eq_false,Nat.reduceBneDiff,Bool.false_eq_true,simprocAttr,implies_true,amz,zf];refine zi.of' rfl ?_;simp only [wks,reduceIte,Nat.reduceEqDiff,ASt.okB,AV.okB,Nat.reduceLT,implies_true,zx (show i<1152921504606846976 by omega),hkn,← hins,List.map_append,yl,keyC])) hlt (by omega)
  have hdn:decide ((n:Int)<(ks.length:Int))=true:=by simpa using hnl
  have hn0:(0≤(n:Int))=True:=eq_true (by omega)
  obtain ⟨x,hx⟩:=qA hnl
  obtain ⟨x1,x2,x3,x4,x5,x6,rfl⟩:=z1v (hk6 x (List.mem_of_getElem? hx))
  have mx:=key_at hx
  have hls:=less_ok [k1,k2,k3,k4,k5,k6] [x1,x2,x3,x4,x5,x6] rfl rfl
  simp only [keyA,yl] at hls
  rw [drop_at hx,insK_step] at hins
  cases dn with
  | true =>
   rw [if_neg (by simp),Bool.true_or] at hins
   repeat' (first|refine T.zk fun K hK=>?_|apply T.block|(refine T.reg (by kernel_rfl) fun K' hK'=>?_;simp only [bz];(with_reducible repeat' (first|(apply WL.fin;apply hK';clear hK' K')|(refine WL.step fun K2 hK2=>?_;simp only [simprocAttr,implies_true,amz,zf,tys,hksl,hdn,Bool.not_true];repeat' (first|(apply hK2;clear hK2 K2)|apply And.intro|intro hb)))))|apply T.skip|apply T.exit|refine T.zh rfl ?_|refine T.zg rfl ?_|refine T.cond rfl (fun hc=>?_) (fun hc=>?_)|apply T.ret|simp only [ze,z8,reduceIte,Nat.reduceEqDiff]|((repeat ((fail_if_success apply hK);clear hK K));apply hK;clear hK K))
   refine T.drw 9 (by kernel_rfl) (by kernel_rfl) fun K' hK'=>?_;simp only [yl];(repeat' (first|(with_reducible refine WL.fin ?_;apply hK';clear hK' K')|(with_reducible refine WD.fin ?_)|((with_reducible first|refine WL.step fun K2 hK2=>?_|refine WD.step fun K2 hK2=>?_);simp only [simprocAttr,implies_true,amz,zf,tys,hn0,Int.toNat_natCast,mx,Bool.not_true];(repeat' with_reducible (first|(apply hK2;clear hK2 K2)|apply And.intro|intro hb)))));all_goals ((try simp only [ze,z8,reduceIte,Nat.reduceEqDiff]);(try ((repeat ((fail_if_success apply hK);clear hK K));apply hK;clear hK K)))
   all_goals repeat' (first|refine T.zk fun K hK=>?_|apply T.block|(refine T.reg (by kernel_rfl) fun K' hK'=>?_;simp only [bz];(with_reducible repeat' (first|(apply WL.fin;apply hK';clear hK' K')|(refine WL.step fun K2 hK2=>?_;simp only [simprocAttr,implies_true,amz,zf,tys];repeat' (first|(apply hK2;clear hK2 K2)|apply And.intro|intro hb)))))|apply T.skip|apply T.exit|refine T.zh rfl ?_|refine T.zg rfl ?_|refine T.cond rfl (fun hc=>?_) (fun hc=>?_)|apply T.ret|simp only [ze,z8,reduceIte,Nat.reduceEqDiff]|((repeat ((fail_if_success apply hK);clear hK K));apply hK;clear hK K))
   refine T.drw 9 (by kernel_rfl) (by kernel_rfl) fun K' hK'=>?_;simp only [yl];(repeat' (first|(with_reducible refine WL.fin ?_;apply hK';clear hK' K')|(with_reducible refine WD.fin ?_)|((with_reducible first|refine WL.step fun K2 hK2=>?_|refine WD.step fun K2 hK2=>?_);simp only [simprocAttr,implies_true,amz,zf,tys,hn0,Int.toNat_natCast,mx];(repeat' with_reducible (first|(apply hK2;clear hK2 K2)|apply And.intro|intro hb)))));all_goals ((try simp only [ze,z8,reduceIte,Nat.reduceEqDiff]);(try ((repeat ((fail_if_success apply hK);clear hK K));apply hK;clear hK K)))
   all_goals repeat' (first|refine T.zk fun K hK=>?_|apply T.block|(refine T.reg (by kernel_rfl) fun K' hK'=>?_;simp only [bz];(with_reducible repeat' (first|(apply WL.fin;apply hK';clear hK' K')|(refine WL.step fun K2 hK2=>?_;simp only [simprocAttr,implies_true,amz,zf,tys,hn0,Int.toNat_natCast,mx,hm1,hacm,hb1,hb2,List.length_cons,List.length_nil];repeat' (first|(apply hK2;clear hK2 K2)|apply And.intro|intro hb)))))|apply T.skip|apply T.exit|refine T.zh rfl ?_|refine T.zg rfl ?_|refine T.cond rfl (fun hc=>?_) (fun hc=>?_)|apply T.ret|simp only [ze,z8,reduceIte,Nat.reduceEqDiff]|((repeat ((fail_if_success apply hK);clear hK K));apply hK;clear hK K))
   refine hKM _ (n+1,acc ++ [[x1,x2,x3,x4,x5,x6]],true) (by refine zi.of' rfl ?_;simp only [wks,reduceIte,Nat.reduceEqDiff,ASt.okB,AV.okB,Nat.reduceLT,implies_true,zx (show n<1152921504606846976 by omega),List.map_append,yl,keyC]) ⟨hnl,by simpa using hins⟩ (by simp only [];omega)
  | false =>
   cases hlx:lexB [k1,k2,k3,k4,k5,k6] [x1,x2,x3,x4,x5,x6] with
   | true =>
    rw [hlx] at hls hins
    rw [if_pos (by simp)] at hins
    repeat' (first|refine T.zk fun K hK=>?_|apply T.block|(refine T.reg (by kernel_rfl) fun K' hK'=>?_;simp only [bz];(with_reducible repeat' (first|(apply WL.fin;apply hK';clear hK' K')|(refine WL.step fun K2 hK2=>?_;simp only [simprocAttr,implies_true,amz,zf,tys,hksl,hdn,Bool.not_false];repeat' (first|(apply hK2;clear hK2 K2)|apply And.intro|intro hb)))))|apply T.skip|apply T.exit|refine T.zh rfl ?_|refine T.zg rfl ?_|refine T.cond rfl (fun hc=>?_) (fun hc=>?_)|apply T.ret|simp only [ze,z8,reduceIte,Nat.reduceEqDiff]|((repeat ((fail_if_success apply hK);clear hK K));apply hK;clear hK K))
    refine T.drw 9 (by kernel_rfl) (by kernel_rfl) fun K' hK'=>?_;simp only [yl];(repeat' (first|(with_reducible refine WL.fin ?_;apply hK';clear hK' K')|(with_reducible refine WD.fin ?_)|((with_reducible first|refine WL.step fun K2 hK2=>?_|refine WD.step fun K2 hK2=>?_);simp only [simprocAttr,implies_true,amz,zf,tys,hn0,Int.toNat_natCast,mx,Bool.not_false];(repeat' (first|with_reducible (first|(apply hK2;clear hK2 K2)|apply And.intro|intro hb)|((with_reducible first|apply zl|apply zn);case h=>exact CallV.plain (Ent.of Tryz.func25 (by kernel_rfl) rfl) (hls) (by simp [AV.okB])))))));all_goals ((try simp only [ze,z8,reduceIte,Nat.reduceEqDiff]);(try ((repeat ((fail_if_success apply hK);clear hK K));apply hK;clear hK K)))
    all_goals repeat' (first|refine T.zk fun K hK=>?_|apply T.block|(refine T.reg (by kernel_rfl) fun K' hK'=>?_;simp only [bz];(with_reducible repeat' (first|(apply WL.fin;apply hK';clear hK' K')|(refine WL.step fun K2 hK2=>?_;simp only [simprocAttr,implies_true,amz,zf,tys,hm1,hacm,hb1,hb2,List.length_cons,List.length_nil];repeat' (first|(apply hK2;clear hK2 K2)|apply And.intro|intro hb)))))|apply T.skip|apply T.exit|refine T.zh rfl ?_|refine T.zg rfl ?_|refine T.cond rfl (fun hc=>?_) (fun hc=>?_)|apply T.ret|simp only [ze,z8,reduceIte,Nat.reduceEqDiff]|((repeat ((fail_if_success apply hK);clear hK K));apply hK;clear hK K))
    refine T.drw 9 (by kernel_rfl) (by kernel_rfl) fun K' hK'=>?_;simp only [yl];(repeat' (first|(with_reducible refine WL.fin ?_;apply hK';clear hK' K')|(with_reducible refine WD.fin ?_)|((with_reducible first|refine WL.step fun K2 hK2=>?_|refine WD.step fun K2 hK2=>?_);simp only [simprocAttr,implies_true,amz,zf,tys,hn0,Int.toNat_natCast,mx];(repeat' with_reducible (first|(apply hK2;clear hK2 K2)|apply And.intro|intro hb)))));all_goals ((try simp only [ze,z8,reduceIte,Nat.reduceEqDiff]);(try ((repeat ((fail_if_success apply hK);clear hK K));apply hK;clear hK K)))
    all_goals repeat' (first|refine T.zk fun K hK=>?_|apply T.block|(refine T.reg (by kernel_rfl) fun K' hK'=>?_;simp only [bz];(with_reducible repeat' (first|(apply WL.fin;apply hK';clear hK' K')|(refine WL.step fun K2 hK2=>?_;simp only [simprocAttr,implies_true,amz,zf,tys,hn0,Int.toNat_natCast,mx,hm1,hacm,List.length_append,hb3,hb4,List.length_cons,List.length_nil,Nat.zero_add];repeat' (first|(apply hK2;clear hK2 K2)|apply And.intro|intro hb)))))|apply T.skip|apply T.exit|refine T.zh rfl ?_|refine T.zg rfl ?_|refine T.cond rfl (fun hc=>?_) (fun hc=>?_)|apply T.ret|simp only [ze,z8,reduceIte,Nat.reduceEqDiff]|((repeat ((fail_if_success apply hK);clear hK K));apply hK;clear hK K))
    refine hKM _ (n+1,acc ++ [[k1,k2,k3,k4,k5,k6],[x1,x2,x3,x4,x5,x6]],true) (by refine zi.of' rfl ?_;simp only [wks,reduceIte,Nat.reduceEqDiff,ASt.okB,AV.okB,Nat.reduceLT,implies_true,zx (show n<1152921504606846976 by omega),List.map_append,yl,keyC,List.append_assoc,List.cons_append,List.nil_append]) ⟨hnl,by simpa using hins⟩ (by simp only [];omega)
   | false =>
    rw [hlx] at hls hins
    rw [if_neg (by simp),Bool.false_or] at hins
    cases heq:([x1,x2,x3,x4,x5,x6] == [k1,k2,k3,k4,k5,k6]) with
    | true =>
     rw [heq] at hins
     repeat' (first|refine T.zk fun K hK=>?_|apply T.block|(refine T.reg (by kernel_rfl) fun K' hK'=>?_;simp only [bz];(with_reducible repeat' (first|(apply WL.fin;apply hK';clear hK' K')|(refine WL.step fun K2 hK2=>?_;simp only [simprocAttr,implies_true,amz,zf,tys,hksl,hdn,Bool.not_false];repeat' (first|(apply hK2;clear hK2 K2)|apply And.intro|intro hb)))))|apply T.skip|apply T.exit|refine T.zh rfl ?_|refine T.zg rfl ?_|refine T.cond rfl (fun hc=>?_) (fun hc=>?_)|apply T.ret|simp only [ze,z8,reduceIte,Nat.reduceEqDiff]|((repeat ((fail_if_success apply hK);clear hK K));apply hK;clear hK K))
     refine T.drw 9 (by kernel_rfl) (by kernel_rfl) fun K' hK'=>?_;simp only [yl];(repeat' (first|(with_reducible refine WL.fin ?_;apply hK';clear hK' K')|(with_reducible refine WD.fin ?_)|((with_reducible first|refine WL.step fun K2 hK2=>?_|refine WD.step fun K2 hK2=>?_);simp only [simprocAttr,implies_true,amz,zf,tys,hn0,Int.toNat_natCast,mx,Bool.not_false];(repeat' (first|with_reducible (first|(apply hK2;clear hK2 K2)|apply And.intro|intro hb)|((with_reducible first|apply zl|apply zn);case h=>exact CallV.plain (Ent.of Tryz.func25 (by kernel_rfl) rfl) (hls) (by simp [AV.okB])))))));all_goals ((try simp only [ze,z8,reduceIte,Nat.reduceEqDiff]);(try ((repeat ((fail_if_success apply hK);clear hK K));apply hK;clear hK K)))
     all_goals repeat' (first|refine T.zk fun K hK=>?_|apply T.block|(refine T.reg (by kernel_rfl) fun K' hK'=>?_;simp only [bz];(with_reducible repeat' (first|(apply WL.fin;apply hK';clear hK' K')|(refine WL.step fun K2 hK2=>?_;simp only [simprocAttr,implies_true,amz,zf,tys];repeat' (first|(apply hK2;clear hK2 K2)|apply And.intro|intro hb)))))|apply T.skip|apply T.exit|refine T.zh rfl ?_|refine T.zg rfl ?_|refine T.cond rfl (fun hc=>?_) (fun hc=>?_)|apply T.ret|simp only [ze,z8,reduceIte,Nat.reduceEqDiff]|((repeat ((fail_if_success apply hK);clear hK K));apply hK;clear hK K))
     refine T.drw 9 (by kernel_rfl) (by kernel_rfl) fun K' hK'=>?_;simp only [yl];(repeat' (first|(with_reducible refine WL.fin ?_;apply hK';clear hK' K')|(with_reducible refine WD.fin ?_)|((with_reducible first|refine WL.step fun K2 hK2=>?_|refine WD.step fun K2 hK2=>?_);simp only [simprocAttr,implies_true,amz,zf,tys,hn0,Int.toNat_natCast,mx,scEq,aeqF,z5k,heq];(repeat' with_reducible (first|(apply hK2;clear hK2 K2)|apply And.intro|intro hb)))));all_goals ((try simp only [ze,z8,reduceIte,Nat.reduceEqDiff]);(try ((repeat ((fail_if_success apply hK);clear hK K));apply hK;clear hK K)))
     all_goals repeat' (first|refine T.zk fun K hK=>?_|apply T.block|(refine T.reg (by kernel_rfl) fun K' hK'=>?_;simp only [bz];(with_reducible repeat' (first|(apply WL.fin;apply hK';clear hK' K')|(refine WL.step fun K2 hK2=>?_;simp only [simprocAttr,implies_true,amz,zf,tys,hn0,Int.toNat_natCast,mx,hm1,hacm,hb1,hb2,List.length_cons,List.length_nil];repeat' (first|(apply hK2;clear hK2 K2)|apply And.intro|intro hb)))))|apply T.skip|apply T.exit|refine T.zh rfl ?_|refine T.zg rfl ?_|refine T.cond rfl (fun hc=>?_) (fun hc=>?_)|apply T.ret|simp only [ze,z8,reduceIte,Nat.reduceEqDiff]|((repeat ((fail_if_success apply hK);clear hK K));apply hK;clear hK K))
     refine hKM _ (n+1,acc ++ [[x1,x2,x3,x4,x5,x6]],true) (by refine zi.of' rfl ?_;simp only [wks,reduceIte,Nat.reduceEqDiff,ASt.okB,AV.okB,Nat.reduceLT,implies_true,zx (show n<1152921504606846976 by omega),List.map_append,yl,keyC]) ⟨hnl,by simpa using hins⟩ (by simp only [];omega)
    | false =>
     rw [heq] at hins
     repeat' (first|refine T.zk fun K hK=>?_|apply T.block|(refine T.reg (by kernel_rfl) fun K' hK'=>?_;simp only [bz];(with_reducible repeat' (first|(apply WL.fin;apply hK';clear hK' K')|(refine WL.step fun K2 hK2=>?_;simp only [simprocAttr,implies_true,amz,zf,tys,hksl,hdn,Bool.not_false];repeat' (first|(apply hK2;clear hK2 K2)|apply And.intro|intro hb)))))|apply T.skip|apply T.exit|refine T.zh rfl ?_|refine T.zg rfl ?_|refine T.cond rfl (fun hc=>?_) (fun hc=>?_)|apply T.ret|simp only [ze,z8,reduceIte,Nat.reduceEqDiff]|((repeat ((fail_if_success apply hK);clear hK K));apply hK;clear hK K))
     refine T.drw 9 (by kernel_rfl) (by kernel_rfl) fun K' hK'=>?_;simp only [yl];(repeat' (first|(with_reducible refine WL.fin ?_;apply hK';clear hK' K')|(with_reducible refine WD.fin ?_)|((with_reducible first|refine WL.step fun K2 hK2=>?_|refine WD.step fun K2 hK2=>?_);simp only [simprocAttr,implies_true,amz,zf,tys,hn0,Int.toNat_natCast,mx,Bool.not_false];(repeat' (first|with_reducible (first|(apply hK2;clear hK2 K2)|apply And.intro|intro hb)|((with_reducible first|apply zl|apply zn);case h=>exact CallV.plain (Ent.of Tryz.func25 (by kernel_rfl) rfl) (hls) (by simp [AV.okB])))))));all_goals ((try simp only [ze,z8,reduceIte,Nat.reduceEqDiff]);(try ((repeat ((fail_if_success apply hK);clear hK K));apply hK;clear hK K)))
     all_goals repeat' (first|refine T.zk fun K hK=>?_|apply T.block|(refine T.reg (by kernel_rfl) fun K' hK'=>?_;simp only [bz];(with_reducible repeat' (first|(apply WL.fin;apply hK';clear hK' K')|(refine WL.step fun K2 hK2=>?_;simp only [simprocAttr,implies_true,amz,zf,tys];repeat' (first|(apply hK2;clear hK2 K2)|apply And.intro|intro hb)))))|apply T.skip|apply T.exit|refine T.zh rfl ?_|refine T.zg rfl ?_|refine T.cond rfl (fun hc=>?_) (fun hc=>?_)|apply T.ret|simp only [ze,z8,reduceIte,Nat.reduceEqDiff]|((repeat ((fail_if_success apply hK);clear hK K));apply hK;clear hK K))
     refine T.drw 9 (by kernel_rfl) (by kernel_rfl) fun K' hK'=>?_;simp only [yl];(repeat' (first|(with_reducible refine WL.fin ?_;apply hK';clear hK' K')|(with_reducible refine WD.fin ?_)|((with_reducible first|refine WL.step fun K2 hK2=>?_|refine WD.step fun K2 hK2=>?_);simp only [simprocAttr,implies_true,amz,zf,tys,hn0,Int.toNat_natCast,mx,scEq,aeqF,z5k,heq];(repeat' with_reducible (first|(apply hK2;clear hK2 K2)|apply And.intro|intro hb)))));all_goals ((try simp only [ze,z8,reduceIte,Nat.reduceEqDiff]);(try ((repeat ((fail_if_success apply hK);clear hK K));apply hK;clear hK K)))
     all_goals repeat' (first|refine T.zk fun K hK=>?_|apply T.block|(refine T.reg (by kernel_rfl) fun K' hK'=>?_;simp only [bz];(with_reducible repeat' (first|(apply WL.fin;apply hK';clear hK' K')|(refine WL.step fun K2 hK2=>?_;simp only [simprocAttr,implies_true,amz,zf,tys,hn0,Int.toNat_natCast,mx,hm1,hacm,hb1,hb2,List.length_cons,List.length_nil];repeat' (first|(apply hK2;clear hK2 K2)|apply And.intro|intro hb)))))|apply T.skip|apply T.exit|refine T.zh rfl ?_|refine T.zg rfl ?_|refine T.cond rfl (fun hc=>?_) (fun hc=>?_)|apply T.ret|simp only [ze,z8,reduceIte,Nat.reduceEqDiff]|((repeat ((fail_if_success apply hK);clear hK K));apply hK;clear hK K))
     refine hKM _ (n+1,acc ++ [[x1,x2,x3,x4,x5,x6]],false) (by refine zi.of' rfl ?_;simp only [wks,reduceIte,Nat.reduceEqDiff,ASt.okB,AV.okB,Nat.reduceLT,implies_true,zx (show n<1152921504606846976 by omega),List.map_append,yl,keyC]) ⟨hnl,by simpa using hins⟩ (by simp only [];omega)
 have hd:decide ((i:Int)<(rs.length:Int))=false:=by simpa using hlt
 obtain rfl:i=rs.length:=by omega
 rw [List.take_length]
 clear hor
 obtain ⟨ks,hks⟩ : ∃ ks,ks=z0Y (rs.map (keyR l)):=⟨_,rfl⟩
 have hk6 : ∀ x ∈ ks,x.length=6:=fun x hx=>z3x x ((z0A (n := 6) z3x x).1 (hks ▸ hx))
 have hkl:ks.length≤1000:=by
  have:=z4A (rs.map (keyR l))
  rw [List.length_map,← hks] at this
  omega
 have hkat : ∀ (n:Nat) (k:List Int),ks[n]? = some k → ∃ r c,fndF (keyR l) k rs=some (r,c)∧r ∈ rs∧repK l ss ps rs k=repR l ss ps r c:=fun n k h=>z5M (hks ▸ h)
 have hxo:outM l ss ps rs=ks.map (repK l ss ps rs):=by rw [hx,outR,hks]
 rw [← hks]
 have hksl:(ks.map keyC).length=ks.length:=by simp
 repeat' (first|refine T.zk fun K hK=>?_|apply T.block|(refine T.reg (by kernel_rfl) fun K' hK'=>?_;simp only [bz];(with_reducible repeat' (first|(apply WL.fin;apply hK';clear hK' K')|(refine WL.step fun K2 hK2=>?_;simp only [simprocAttr,implies_true,amz,zf,tys,hrl,hd];repeat' (first|(apply hK2;clear hK2 K2)|apply And.intro|intro hb)))))|apply T.skip|apply T.exit|refine T.zh rfl ?_|refine T.zg rfl ?_|refine T.cond rfl (fun hc=>?_) (fun hc=>?_)|apply T.ret|simp only [ze,z8,reduceIte,Nat.reduceEqDiff]|((repeat ((fail_if_success apply hK);clear hK K));apply hK;clear hK K))
 refine T.weak (zi.z3p _ 13 41 7 (show 13<137 by decide) rfl) ?_;simp only [ASt.add,z07,Nat.reduceAdd]
 refine T.z02 (fun n:Nat=>⟨[(1,.p (.seq 2 (rowP rs))),(2,.ptr 0 0),(7,.p (.seq 6 (ks.map keyC))),(13,.own 1),(14,.int n)],[(1,.row 41 7 (((ks.take n).map (repK l ss ps rs)).map repC)),(0,.boxP none 31 [.p (.seq 9 (l.map evC)),.p (.seq 2 (rowP ss)),.p (.seq 1 (rowZ ps))])],137,2⟩) (fun n=>n≤ks.length) (fun n=>ks.length-n) 0 (Nat.zero_le _) (by refine zi.of' rfl ?_;simp only [wks,reduceIte,Nat.reduceEqDiff,ASt.okB,AV.okB,Nat.reduceLT,implies_true,Int.natCast_zero,List.take_zero,List.map_nil]) ?_
 intro n hn KL hKL
 by_cases hnl:n<ks.length
 case neg =>
  have hdn:decide ((n:Int)<(ks.length:Int))=false:=by simpa using hnl
  obtain rfl:n=ks.length:=by omega
  rw [List.take_length]
  repeat' (first|refine T.zk fun K hK=>?_|apply T.block|(refine T.reg (by kernel_rfl) fun K' hK'=>?_;simp only [bz];(with_reducible repeat' (first|(apply WL.fin;apply hK';clear hK' K')|(refine WL.step fun K2 hK2=>?_;simp only [simprocAttr,implies_true,amz,zf,tys,hksl,hdn];repeat' (first|(apply hK2;clear hK2 K2)|apply And.intro|intro hb)))))|apply T.skip|apply T.exit|refine T.zh rfl ?_|refine T.zg rfl ?_|refine T.cond rfl (fun hc=>?_) (fun hc=>?_)|apply T.ret|simp only [ze,z8,reduceIte,Nat.reduceEqDiff]|((repeat ((fail_if_success apply hK);clear hK K));apply hK;clear hK K))
  refine zP.retW (.inr rfl) Tryz.results7 (zi.frz _ 1) ?_;simp only [zI,zu,zw,ASt.frz,ASt.subst,AO.z2j,AO.z2X,AO.z2T,AO.z2W,AO.z1h,AV.z6N,AV.z2S,AV.z2V,AV.z1M,AV.z2U,AV.z1L,AV.z1K,AV.z1J,AV.z3s,AV.z1N,List.filter_cons,List.filter_nil,bne_self_eq_false,Nat.reduceBneDiff,Nat.reduceEqDiff,Bool.false_eq_true,simprocAttr,implies_true,amz,zf,tys,hxo,hy]
 have hdn:decide ((n:Int)<(ks.length:Int))=true:=by simpa using hnl
 have hn0:(0≤(n:Int))=True:=eq_true (by omega)
 obtain ⟨k,hk⟩:=qA hnl
 obtain ⟨rr,cc,hfnd,hrr,hrep⟩:=hkat n k hk
 have hktk:(ks.take (n+1)).map (repK l ss ps rs)=(ks.take n).map (repK l ss ps rs) ++ [repR l ss ps rr cc]:=by
  rw [List.take_add_one,hk,Option.toList_some,List.map_append,List.map_cons,List.map_nil,hrep]
 obtain ⟨k1,k2,k3,k4,k5,k6,rfl⟩:=z1v (hk6 k (List.mem_of_getElem? hk))
 have mk:=key_at hk
 repeat' (first|refine T.zk fun K hK=>?_|apply T.block|(refine T.reg (by kernel_rfl) fun K' hK'=>?_;simp only [bz];(with_reducible repeat' (first|(apply WL.fin;apply hK';clear hK' K')|(refine WL.step fun K2 hK2=>?_;simp only [simprocAttr,implies_true,amz,zf,tys,hksl,hdn];repeat' (first|(apply hK2;clear hK2 K2)|apply And.intro|intro hb)))))|apply T.skip|apply T.exit|refine T.zh rfl ?_|refine T.zg rfl ?_|refine T.cond rfl (fun hc=>?_) (fun hc=>?_)|apply T.ret|simp only [ze,z8,reduceIte,Nat.reduceEqDiff]|((repeat ((fail_if_success apply hK);clear hK K));apply hK;clear hK K))
 refine T.z02 (fun i:Nat=>⟨[(1,.p (.seq 2 (rowP rs))),(2,.ptr 0 0),(7,.p (.seq 6 (ks.map keyC))),(13,.own 1),(14,.int n),(15,.int (cO (fndF (keyR l) [k1,k2,k3,k4,k5,k6] (rs.take i)))),(16,.ptr 2 0),(17,.int i)],[(2,.boxP none 45 [.int (fO (fndF (keyR l) [k1,k2,k3,k4,k5,k6] (rs.take i))).1,.int (fO (fndF (keyR l) [k1,k2,k3,k4,k5,k6] (rs.take i))).2]),(1,.row 41 7 (((ks.take n).map (repK l ss ps rs)).map repC)),(0,.boxP none 31 [.p (.seq 9 (l.map evC)),.p (.seq 2 (rowP ss)),.p (.seq 1 (rowZ ps))])],137,3⟩) (fun i=>i≤rs.length) (fun i=>rs.length-i) 0 (Nat.zero_le _) (by refine zi.of' rfl ?_;simp only [wks,reduceIte,Nat.reduceEqDiff,ASt.okB,AV.okB,Nat.reduceLT,implies_true,Int.natCast_zero,List.take_zero,show fndF (keyR l) [k1,k2,k3,k4,k5,k6] []=none from rfl,cO,fO]) ?_
 intro i hi KM hKM
 by_cases hlt:i<rs.length
 case neg =>
  have hd:decide ((i:Int)<(rs.length:Int))=false:=by simpa using hlt
  obtain rfl:i=rs.length:=by omega
  obtain ⟨e,f,h1,h2,h3,_,h4⟩:=hrac rr hrr
  have hre:=hre hv rr cc e f h1 h2 h3
  rw [← h4] at hre
  simp only [repA,repC,yl] at hre
  have htl:(((ks.take n).map (repK l ss ps rs)).map repC).length=n:=by rw [List.length_map,List.length_map,List.length_take];omega
  have hb1:(n+1≤maxLen)=True:=eq_true (by unfold maxLen;omega)
  have hb2:((n+1)*88≤140737488355328)=True:=eq_true (by omega)
  rw [List.take_length,hfnd]
  simp only [cO,fO]
  repeat' (first|refine T.zk fun K hK=>?_|apply T.block|(refine T.reg (by kernel_rfl) fun K' hK'=>?_;simp only [bz];(repeat' (first|(with_reducible refine WL.fin ?_;apply hK';clear hK' K')|((with_reducible refine WL.step fun K2 hK2=>?_);simp only [simprocAttr,implies_true,amz,zf,tys,hrl,hd,hm1,htl,hb1,hb2,List.length_cons,List.length_nil,Nat.zero_add];(repeat' (first|with_reducible (first|(apply hK2;clear hK2 K2)|apply And.intro|intro hb)|((with_reducible first|apply zl|apply zn);case h=>exact CallV.plain (Ent.of Tryz.func27 (by kernel_rfl) rfl) (hre) (by simp [AV.okB]))))))))|apply T.skip|apply T.exit|refine T.zh rfl ?_|refine T.zg rfl ?_|refine T.cond rfl (fun hc=>?_) (fun hc=>?_)|apply T.ret|simp only [ze,z8,reduceIte,Nat.reduceEqDiff]|((repeat ((fail_if_success apply hK);clear hK K));apply hK;clear hK K))
  refine hKL _ (n+1) (by refine zi.of' rfl ?_;simp only [wks,reduceIte,Nat.reduceEqDiff,ASt.okB,AV.okB,Nat.reduceLT,implies_true,zx (show n<1152921504606846976 by omega),hktk,List.map_append,yl,repC]) hnl (by omega)
 have hd:decide ((i:Int)<(rs.length:Int))=true:=by simpa using hlt
 have hi0:(0≤(i:Int))=True:=eq_true (by omega)
 obtain ⟨r,hr⟩:=qA hlt
 have m1:=z0I hr
 obtain ⟨e,f,h1,_,_,h2,_⟩:=hrac r (List.mem_of_getElem? hr)
 have hor:=ofR_ok l ss ps r e f h1
 rw [← h2] at hor
 have hft:=z6l (key:=keyR l) (k := [k1,k2,k3,k4,k5,k6]) hr
 obtain ⟨q1,q2,q3,q4,q5,q6,hq⟩:=z1v (z5B l r)
 rw [hq] at hor hft
 simp only [trA,p2A,keyA,yl] at hor
 have hcl:=cO_le (key:=keyR l) (k := [k1,k2,k3,k4,k5,k6]) (rs:=rs.take i)
 have hcl2:(rs.take i).length≤1000:=by rw [List.length_take];omega
 by_cases hqk : [q1,q2,q3,q4,q5,q6] = [k1,k2,k3,k4,k5,k6]
 case neg =>
  have heq:([q1,q2,q3,q4,q5,q6] == [k1,k2,k3,k4,k5,k6])=false:=beq_eq_false_iff_ne.2 hqk
  rw [if_neg hqk] at hft
  repeat' (first|refine T.zk fun K hK=>?_|apply T.block|(refine T.reg (by kernel_rfl) fun K' hK'=>?_;simp only [bz];(with_reducible repeat' (first|(apply WL.fin;apply hK';clear hK' K')|(refine WL.step fun K2 hK2=>?_;simp only [simprocAttr,implies_true,amz,zf,tys,hrl,hd];repeat' (first|(apply hK2;clear hK2 K2)|apply And.intro|intro hb)))))|apply T.skip|apply T.exit|refine T.zh rfl ?_|refine T.zg rfl ?_|refine T.cond rfl (fun hc=>?_) (fun hc=>?_)|apply T.ret|simp only [ze,z8,reduceIte,Nat.reduceEqDiff]|((repeat ((fail_if_success apply hK);clear hK K));apply hK;clear hK K))
  refine T.drw 11 (by kernel_rfl) (by kernel_rfl) fun K' hK'=>?_;simp only [yl];(repeat' (first|(with_reducible refine WL.fin ?_;apply hK';clear hK' K')|(with_reducible refine WD.fin ?_)|((with_reducible first|refine WL.step fun K2 hK2=>?_|refine WD.step fun K2 hK2=>?_);simp only [simprocAttr,implies_true,amz,zf,tys,hi0,hn0,Int.toNat_natCast,m1,mk,scEq,aeqF,z5k,heq,Bool.not_false];(repeat' (first|with_reducible (first|(apply hK2;clear hK2 K2)|apply And.intro|intro hb)|((with_reducible first|apply zl|apply zn);case h=>exact CallV.plain (Ent.of Tryz.func24 (by kernel_rfl) rfl) (hor) (by simp [AV.okB])))))));all_goals ((try simp only [ze,z8,reduceIte,Nat.reduceEqDiff]);(try ((repeat ((fail_if_success apply hK);clear hK K));apply hK;clear hK K)))
  all_goals repeat' (first|refine T.zk fun K hK=>?_|apply T.block|(refine T.reg (by kernel_rfl) fun K' hK'=>?_;simp only [bz];(with_reducible repeat' (first|(apply WL.fin;apply hK';clear hK' K')|(refine WL.step fun K2 hK2=>?_;simp only [simprocAttr,implies_true,amz,zf,tys];repeat' (first|(apply hK2;clear hK2 K2)|apply And.intro|intro hb)))))|apply T.skip|apply T.exit|refine T.zh rfl ?_|refine T.zg rfl ?_|refine T.cond rfl (fun hc=>?_) (fun hc=>?_)|apply T.ret|simp only [ze,z8,reduceIte,Nat.reduceEqDiff]|((repeat ((fail_if_success apply hK);clear hK K));apply hK;clear hK K))
  refine hKM _ (i+1) (by refine zi.of' rfl ?_;simp only [wks,reduceIte,Nat.reduceEqDiff,ASt.okB,AV.okB,Nat.reduceLT,implies_true,zx (show i<1152921504606846976 by omega),hft]) hlt (by omega)
 have heq:([q1,q2,q3,q4,q5,q6] == [k1,k2,k3,k4,k5,k6])=true:=beq_iff_eq.2 hqk
 rw [if_pos hqk] at hft
 cases ho2:fndF (keyR l) [k1,k2,k3,k4,k5,k6] (rs.take i) with
 | none =>
  rw [ho2] at hft
  simp only [upF] at hft
  simp only [cO,fO]
  repeat' (first|refine T.zk fun K hK=>?_|apply T.block|(refine T.reg (by kernel_rfl) fun K' hK'=>?_;simp only [bz];(with_reducible repeat' (first|(apply WL.fin;apply hK';clear hK' K')|(refine WL.step fun K2 hK2=>?_;simp only [simprocAttr,implies_true,amz,zf,tys,hrl,hd];repeat' (first|(apply hK2;clear hK2 K2)|apply And.intro|intro hb)))))|apply T.skip|apply T.exit|refine T.zh rfl ?_|refine T.zg rfl ?_|refine T.cond rfl (fun hc=>?_) (fun hc=>?_)|apply T.ret|simp only [ze,z8,reduceIte,Nat.reduceEqDiff]|((repeat ((fail_if_success apply hK);clear hK K));apply hK;clear hK K))
  refine T.drw 11 (by kernel_rfl) (by kernel_rfl) fun K' hK'=>?_;simp only [yl];(repeat' (first|(with_reducible refine WL.fin ?_;apply hK';clear hK' K')|(with_reducible refine WD.fin ?_)|((with_reducible first|refine WL.step fun K2 hK2=>?_|refine WD.step fun K2 hK2=>?_);simp only [simprocAttr,implies_true,amz,zf,tys,hi0,hn0,Int.toNat_natCast,m1,mk,scEq,aeqF,z5k,heq,Bool.not_true];(repeat' (first|with_reducible (first|(apply hK2;clear hK2 K2)|apply And.intro|intro hb)|((with_reducible first|apply zl|apply zn);case h=>exact CallV.plain (Ent.of Tryz.func24 (by kernel_rfl) rfl) (hor) (by simp [AV.okB])))))));all_goals ((try simp only [ze,z8,reduceIte,Nat.reduceEqDiff]);(try ((repeat ((fail_if_success apply hK);clear hK K));apply hK;clear hK K)))
  all_goals repeat' (first|refine T.zk fun K hK=>?_|apply T.block|(refine T.reg (by kernel_rfl) fun K' hK'=>?_;simp only [bz];(with_reducible repeat' (first|(apply WL.fin;apply hK';clear hK' K')|(refine WL.step fun K2 hK2=>?_;simp only [simprocAttr,implies_true,amz,zf,tys];repeat' (first|(apply hK2;clear hK2 K2)|apply And.intro|intro hb)))))|apply T.skip|apply T.exit|refine T.zh rfl ?_|refine T.zg rfl ?_|refine T.cond rfl (fun hc=>?_) (fun hc=>?_)|apply T.ret|simp only [ze,z8,reduceIte,Nat.reduceEqDiff]|((repeat ((fail_if_success apply hK);clear hK K));apply hK;clear hK K))
  refine T.drw 10 (by kernel_rfl) (by kernel_rfl) fun K' hK'=>?_;simp only [yl];(repeat' (first|(with_reducible refine WL.fin ?_;apply hK';clear hK' K')|(with_reducible refine WD.fin ?_)|((with_reducible first|refine WL.step fun K2 hK2=>?_|refine WD.step fun K2 hK2=>?_);simp only [simprocAttr,implies_true,amz,zf,tys,hi0,Int.toNat_natCast,m1,beq_self_eq_true];(repeat' with_reducible (first|(apply hK2;clear hK2 K2)|apply And.intro|intro hb)))));all_goals ((try simp only [ze,z8,reduceIte,Nat.reduceEqDiff]);(try ((repeat ((fail_if_success apply hK);clear hK K));apply hK;clear hK K)))
  all_goals repeat' (first|refine T.zk fun K hK=>?_|apply T.block|(refine T.reg (by kernel_rfl) fun K' hK'=>?_;simp only [bz];(with_reducible repeat' (first|(apply WL.fin;apply hK';clear hK' K')|(refine WL.step fun K2 hK2=>?_;simp only [simprocAttr,implies_true,amz,zf,tys,hi0,Int.toNat_natCast,m1];repeat' (first|(apply hK2;clear hK2 K2)|apply And.intro|intro hb)))))|apply T.skip|apply T.exit|refine T.zh rfl ?_|refine T.zg rfl ?_|refine T.cond rfl (fun hc=>?_) (fun hc=>?_)|apply T.ret|simp only [ze,z8,reduceIte,Nat.reduceEqDiff]|((repeat ((fail_if_success apply hK);clear hK K));apply hK;clear hK K))
  refine hKM _ (i+1) (by refine zi.of' rfl ?_;simp only [wks,reduceIte,Nat.reduceEqDiff,ASt.okB,AV.okB,Nat.reduceLT,implies_true,zx (show i<1152921504606846976 by omega),hft,cO,fO,IntKind.wrap_i64,Int.zero_add,show ((1+9223372036854775808) % 18446744073709551616-9223372036854775808:Int)=1 from by decide]) hlt (by omega)
 | some p =>
  obtain ⟨g,c⟩:=p
  obtain ⟨c0,c1,_⟩:=z1a ho2
  have hc0:(c==0)=false:=by simpa using (by omega:c ≠ 0)
  have hwc:IntKind.i64.wrap (c+1)=c+1:=z15 (by omega) (by omega)
  have hea:=z8B r g
  simp only [p2A] at hea
  rw [ho2] at hft
  simp only [upF] at hft
  simp only [cO,fO]
  cases he:z3f r g with
  | true =>
   rw [he] at hea
   rw [show earB r g=true from he,if_pos rfl] at hft
   repeat' (first|refine T.zk fun K hK=>?_|apply T.block|(refine T.reg (by kernel_rfl) fun K' hK'=>?_;simp only [bz];(with_reducible repeat' (first|(apply WL.fin;apply hK';clear hK' K')|(refine WL.step fun K2 hK2=>?_;simp only [simprocAttr,implies_true,amz,zf,tys,hrl,hd];repeat' (first|(apply hK2;clear hK2 K2)|apply And.intro|intro hb)))))|apply T.skip|apply T.exit|refine T.zh rfl ?_|refine T.zg rfl ?_|refine T.cond rfl (fun hc=>?_) (fun hc=>?_)|apply T.ret|simp only [ze,z8,reduceIte,Nat.reduceEqDiff]|((repeat ((fail_if_success apply hK);clear hK K));apply hK;clear hK K))
   refine T.drw 11 (by kernel_rfl) (by kernel_rfl) fun K' hK'=>?_;simp only [yl];(repeat' (first|(with_reducible refine WL.fin ?_;apply hK';clear hK' K')|(with_reducible refine WD.fin ?_)|((with_reducible first|refine WL.step fun K2 hK2=>?_|refine WD.step fun K2 hK2=>?_);simp only [simprocAttr,implies_true,amz,zf,tys,hi0,hn0,Int.toNat_natCast,m1,mk,scEq,aeqF,z5k,heq,Bool.not_true];(repeat' (first|with_reducible (first|(apply hK2;clear hK2 K2)|apply And.intro|intro hb)|((with_reducible first|apply zl|apply zn);case h=>exact CallV.plain (Ent.of Tryz.func24 (by kernel_rfl) rfl) (hor) (by simp [AV.okB])))))));all_goals ((try simp only [ze,z8,reduceIte,Nat.reduceEqDiff]);(try ((repeat ((fail_if_success apply hK);clear hK K));apply hK;clear hK K)))
   all_goals repeat' (first|refine T.zk fun K hK=>?_|apply T.block|(refine T.reg (by kernel_rfl) fun K' hK'=>?_;simp only [bz];(with_reducible repeat' (first|(apply WL.fin;apply hK';clear hK' K')|(refine WL.step fun K2 hK2=>?_;simp only [simprocAttr,implies_true,amz,zf,tys];repeat' (first|(apply hK2;clear hK2 K2)|apply And.intro|intro hb)))))|apply T.skip|apply T.exit|refine T.zh rfl ?_|refine T.zg rfl ?_|refine T.cond rfl (fun hc=>?_) (fun hc=>?_)|apply T.ret|simp only [ze,z8,reduceIte,Nat.reduceEqDiff]|((repeat ((fail_if_success apply hK);clear hK K));apply hK;clear hK K))
   refine T.drw 10 (by kernel_rfl) (by kernel_rfl) fun K' hK'=>?_;simp only [yl];(repeat' (first|(with_reducible refine WL.fin ?_;apply hK';clear hK' K')|(with_reducible refine WD.fin ?_)|((with_reducible first|refine WL.step fun K2 hK2=>?_|refine WD.step fun K2 hK2=>?_);simp only [simprocAttr,implies_true,amz,zf,tys,hi0,Int.toNat_natCast,m1,hc0];(repeat' (first|with_reducible (first|(apply hK2;clear hK2 K2)|apply And.intro|intro hb)|((with_reducible first|apply zl|apply zn);case h=>exact CallV.plain (Ent.of Tryz.func26 (by kernel_rfl) rfl) (hea) (by simp [AV.okB])))))));all_goals ((try simp only [ze,z8,reduceIte,Nat.reduceEqDiff]);(try ((repeat ((fail_if_success apply hK);clear hK K));apply hK;clear hK K)))
   all_goals repeat' (first|refine T.zk fun K hK=>?_|apply T.block|(refine T.reg (by kernel_rfl) fun K' hK'=>?_;simp only [bz];(with_reducible repeat' (first|(apply WL.fin;apply hK';clear hK' K')|(refine WL.step fun K2 hK2=>?_;simp only [simprocAttr,implies_true,amz,zf,tys,hi0,Int.toNat_natCast,m1];repeat' (first|(apply hK2;clear hK2 K2)|apply And.intro|intro hb)))))|apply T.skip|apply T.exit|refine T.zh rfl ?_|refine T.zg rfl ?_|refine T.cond rfl (fun hc=>?_) (fun hc=>?_)|apply T.ret|simp only [ze,z8,reduceIte,Nat.reduceEqDiff]|((repeat ((fail_if_success apply hK);clear hK K));apply hK;clear hK K))
   refine hKM _ (i+1) (by refine zi.of' rfl ?_;simp only [wks,reduceIte,Nat.reduceEqDiff,ASt.okB,AV.okB,Nat.reduceLT,implies_true,zx (show i<1152921504606846976 by omega),hft,cO,fO,hwc]) hlt (by omega)
  | false =>
   rw [he] at hea
   rw [show earB r g=false from he,if_neg (by simp)] at hft
   repeat' (first|refine T.zk fun K hK=>?_|apply T.block|(refine T.reg (by kernel_rfl) fun K' hK'=>?_;simp only [bz];(with_reducible repeat' (first|(apply WL.fin;apply hK';clear hK' K')|(refine WL.step fun K2 hK2=>?_;simp only [simprocAttr,implies_true,amz,zf,tys,hrl,hd];repeat' (first|(apply hK2;clear hK2 K2)|apply And.intro|intro hb)))))|apply T.skip|apply T.exit|refine T.zh rfl ?_|refine T.zg rfl ?_|refine T.cond rfl (fun hc=>?_) (fun hc=>?_)|apply T.ret|simp only [ze,z8,reduceIte,Nat.reduceEqDiff]|((repeat ((fail_if_success apply hK);clear hK K));apply hK;clear hK K))
   refine T.drw 11 (by kernel_rfl) (by kernel_rfl) fun K' hK'=>?_;simp only [yl];(repeat' (first|(with_reducible refine WL.fin ?_;apply hK';clear hK' K')|(with_reducible refine WD.fin ?_)|((with_reducible first|refine WL.step fun K2 hK2=>?_|refine WD.step fun K2 hK2=>?_);simp only [simprocAttr,implies_true,amz,zf,tys,hi0,hn0,Int.toNat_natCast,m1,mk,scEq,aeqF,z5k,heq,Bool.not_true];(repeat' (first|with_reducible (first|(apply hK2;clear hK2 K2)|apply And.intro|intro hb)|((with_reducible first|apply zl|apply zn);case h=>exact CallV.plain (Ent.of Tryz.func24 (by kernel_rfl) rfl) (hor) (by simp [AV.okB])))))));all_goals ((try simp only [ze,z8,reduceIte,Nat.reduceEqDiff]);(try ((repeat ((fail_if_success apply hK);clear hK K));apply hK;clear hK K)))
   all_goals repeat' (first|refine T.zk fun K hK=>?_|apply T.block|(refine T.reg (by kernel_rfl) fun K' hK'=>?_;simp only [bz];(with_reducible repeat' (first|(apply WL.fin;apply hK';clear hK' K')|(refine WL.step fun K2 hK2=>?_;simp only [simprocAttr,implies_true,amz,zf,tys];repeat' (first|(apply hK2;clear hK2 K2)|apply And.intro|intro hb)))))|apply T.skip|apply T.exit|refine T.zh rfl ?_|refine T.zg rfl ?_|refine T.cond rfl (fun hc=>?_) (fun hc=>?_)|apply T.ret|simp only [ze,z8,reduceIte,Nat.reduceEqDiff]|((repeat ((fail_if_success apply hK);clear hK K));apply hK;clear hK K))
   refine T.drw 10 (by kernel_rfl) (by kernel_rfl) fun K' hK'=>?_;simp only [yl];(repeat' (first|(with_reducible refine WL.fin ?_;apply hK';clear hK' K')|(with_reducible refine WD.fin ?_)|((with_reducible first|refine WL.step fun K2 hK2=>?_|refine WD.step fun K2 hK2=>?_);simp only [simprocAttr,implies_true,amz,zf,tys,hi0,Int.toNat_natCast,m1,hc0];(repeat' (first|with_reducible (first|(apply hK2;clear hK2 K2)|apply And.intro|intro hb)|((with_reducible first|apply zl|apply zn);case h=>exact CallV.plain (Ent.of Tryz.func26 (by kernel_rfl) rfl) (hea) (by simp [AV.okB])))))));all_goals ((try simp only [ze,z8,reduceIte,Nat.reduceEqDiff]);(try ((repeat ((fail_if_success apply hK);clear hK K));apply hK;clear hK K)))
   all_goals repeat' (first|refine T.zk fun K hK=>?_|apply T.block|(refine T.reg (by kernel_rfl) fun K' hK'=>?_;simp only [bz];(with_reducible repeat' (first|(apply WL.fin;apply hK';clear hK' K')|(refine WL.step fun K2 hK2=>?_;simp only [simprocAttr,implies_true,amz,zf,tys,hi0,Int.toNat_natCast,m1];repeat' (first|(apply hK2;clear hK2 K2)|apply And.intro|intro hb)))))|apply T.skip|apply T.exit|refine T.zh rfl ?_|refine T.zg rfl ?_|refine T.cond rfl (fun hc=>?_) (fun hc=>?_)|apply T.ret|simp only [ze,z8,reduceIte,Nat.reduceEqDiff]|((repeat ((fail_if_success apply hK);clear hK K));apply hK;clear hK K))
   refine hKM _ (i+1) (by refine zi.of' rfl ?_;simp only [wks,reduceIte,Nat.reduceEqDiff,ASt.okB,AV.okB,Nat.reduceLT,implies_true,zx (show i<1152921504606846976 by omega),hft,cO,fO,hwc]) hlt (by omega)
theorem z4i {ss:List P2} {ps:List Int} {e:Ev} (h:stB ss.length e=true):(stkD ss ps e.st).length≤ss.length:=by
 obtain ⟨h1,h2⟩:=z4N h
 have:=z6b (ss:=ss) (ps:=ps) (e.st+1).toNat e.st
 rw [stkD,List.length_reverse,upD]
 omega
theorem loE_or (e f:Ev):(loE e f=f∧hiE e f=e)∨(loE e f=e∧hiE e f=f):=by
 unfold loE hiE
 split
 ·exact .inl ⟨rfl,rfl⟩
 ·exact .inr ⟨rfl,rfl⟩
theorem out_len (l:List Ev) (ss:List P2) (ps:List Int) (rs:List P2):(outM l ss ps rs).length≤rs.length:=by
 unfold outM
 split
 ·rw [outR,List.length_map]
  have:=z4A (rs.map (keyR l))
  simpa using this
 ·simp
theorem out_stk (l:List Ev) (ss:List P2) (ps:List Int) (rs:List P2) : ∀ x ∈ outM l ss ps rs,x.s1.length≤ss.length∧x.s2.length≤ss.length:=fun x hx=>by
 unfold outM at hx
 split at hx
 ·rename_i ho
  obtain ⟨k,hk,rfl⟩:=List.mem_map.1 hx
  obtain ⟨n,hn⟩:=List.mem_iff_getElem?.1 hk
  obtain ⟨r,c,_,hr,e⟩:=z5M (ss:=ss) (ps:=ps) hn
  rw [okM,Bool.and_eq_true,List.all_eq_true] at ho
  obtain ⟨a,b,hab,hac⟩:=z5n (ho.2 r hr)
  obtain ⟨e1,e2⟩:=hab.at
  simp only [accE,Bool.and_eq_true] at hac
  rw [e,repR,e1,e2,z3A]
  rcases loE_or a b with ⟨h1,h2⟩|⟨h1,h2⟩ <;> rw [h1,h2]
  ·exact ⟨z4i hac.2,z4i hac.1.2⟩
  ·exact ⟨z4i hac.1.2,z4i hac.2⟩
 ·cases hx
theorem out_cnt (l:List Ev) (ss:List P2) (ps:List Int) (rs:List P2) : ∀ x ∈ outM l ss ps rs,0≤x.cnt∧x.cnt≤rs.length:=fun x hx=>by
 unfold outM at hx
 split at hx
 ·obtain ⟨k,hk,rfl⟩:=List.mem_map.1 hx
  obtain ⟨n,hn⟩:=List.mem_iff_getElem?.1 hk
  obtain ⟨r,c,hrc,hr,e⟩:=z5M (ss:=ss) (ps:=ps) hn
  obtain ⟨h1,h2,_⟩:=z1a hrc
  rw [e]
  exact ⟨Int.le_of_lt h1,h2⟩
 ·cases hx
def z2o (k:Int):Bool:=decide (15≤k)&&decide (k≤20)
theorem z6W (k:Int):zt Tryz.prog 72 [.int k] (.bool (z2o k)):=by
 refine zt.of Tryz.func72 rfl 9 rfl (by decide) (by simp [AV.okB]) ?_
 repeat' (first|refine T.zk fun K hK=>?_|apply T.block|(refine T.reg (by kernel_rfl) fun K' hK'=>?_;simp only [bz];(with_reducible repeat' (first|(apply WL.fin;apply hK';clear hK' K')|(refine WL.step fun K2 hK2=>?_;simp only [simprocAttr,az];repeat' (first|(apply hK2;clear hK2 K2)|apply And.intro|intro hb)))))|apply T.skip|apply T.exit|refine T.zh rfl ?_|refine T.zg rfl ?_|refine T.cond rfl (fun hc=>?_) (fun hc=>?_)|apply T.ret|simp only [ze,z8,reduceIte,Nat.reduceEqDiff]|((repeat ((fail_if_success apply hK);clear hK K));apply hK;clear hK K))
 all_goals (refine zP.ret (.inr rfl) Tryz.results72 ?_;simp only [zI,zu,zw,simprocAttr,az,];first|(simp [z2o, *];done)|(simp_all [z2o];done)|(simp_all [z2o];omega))
structure Cn where
 obj:Int
 n:Int
 sent:Int
 recv:Int
 closed:Bool
structure Lk where
 obj:Int
 off:Int
 locked:Bool
 readers:Int
structure Wt where
 kind:Int
 g:Int
 not:Int
structure Rs where
 count:Int
 gor:Int
 chans:List Cn
 locks:List Lk
 done:List (Int × Int)
 next:List Wt
 obj:Int
 k:Int
 n:Int
abbrev pI (x:Int):PV := .val (.int .i64 x)
def cnC (c:Cn):List PV := [.val (.int .i64 c.obj),.val (.int .i64 c.n),.val (.int .i64 c.sent),.val (.int .i64 c.recv),.val (.bool c.closed)]
def lkC (c:Lk):List PV := [.val (.int .i64 c.obj),.val (.int .i64 c.off),.val (.bool c.locked),.val (.int .i64 c.readers)]
def wtC (c:Wt):List PV := [.val (.int .i64 c.kind),.val (.int .i64 c.g),.val (.int .i64 c.not)]
def loC (c:Int × Int):List PV := [.val (.int .i64 c.1),.val (.int .i64 c.2)]
def rsC (s:Rs):List PV := [.val (.int .i64 s.count),.val (.int .i64 s.gor),.seq 5 (s.chans.map cnC),.seq 4 (s.locks.map lkC),.seq 2 (s.done.map loC),.seq 3 (s.next.map wtC),.val (.int .i64 s.obj),.val (.int .i64 s.k),.val (.int .i64 s.n)]
def rsA (s:Rs):AV := .agg ((rsC s).map .p)
def cnA (c:Cn):AV := .agg ((cnC c).map .p)
def lkA (c:Lk):AV := .agg ((lkC c).map .p)
def z0s (o n:Int):List Cn→Cn
 | []=>⟨o,n,0,0,false⟩
 | c :: r=>if c.obj==o then c else z0s o n r
theorem z3e {α:Type} {l:List α} {k:Nat} (h : ¬ k<l.length):l.drop k = []:=List.drop_eq_nil_of_le (by omega)
theorem chan_ok (s:Rs) (o n:Int) (hl:s.chans.length≤1000000):zt Tryz.prog 91 [rsA s,.int o,.int n] (cnA (z0s o n s.chans)):=by
 simp only [rsA,rsC,yl,cnA,cnC]
 refine zt.of Tryz.func91 rfl 31 rfl (by decide) (by simp [AV.okB]) ?_
 repeat' (first|refine T.zk fun K hK=>?_|apply T.block|(refine T.reg (by kernel_rfl) fun K' hK'=>?_;simp only [bz];(with_reducible repeat' (first|(apply WL.fin;apply hK';clear hK' K')|(refine WL.step fun K2 hK2=>?_;simp only [simprocAttr,implies_true,amz,zf,tys];repeat' (first|(apply hK2;clear hK2 K2)|apply And.intro|intro hb)))))|apply T.skip|apply T.exit|refine T.zh rfl ?_|refine T.zg rfl ?_|refine T.cond rfl (fun hc=>?_) (fun hc=>?_)|apply T.ret|simp only [ze,z8,reduceIte,Nat.reduceEqDiff]|((repeat ((fail_if_success apply hK);clear hK K));apply hK;clear hK K))
 refine T.z02 (fun k:Nat=>⟨[(0,rsA s),(1,.int o),(2,.int n),(3,.ptr 0 0),(6,.ptr 1 0),(7,.int k)],[(1,.box 167 ((cnC ⟨0,0,0,0,false⟩).map .p)),(0,.box 130 ((rsC s).map .p))],31,2⟩) (fun k=>k≤s.chans.length∧z0s o n s.chans=z0s o n (s.chans.drop k)) (fun k=>s.chans.length-k) 0 ⟨Nat.zero_le _,rfl⟩ (by refine zi.of' rfl ?_;simp only [wks,reduceIte,Nat.reduceEqDiff,ASt.okB,AV.okB,Nat.reduceLT,implies_true,Int.natCast_zero,rsA,rsC,cnC,yl]) ?_
 ·rintro k ⟨hk,hn⟩ KL hKL
  simp only [rsA,rsC,yl,cnC]
  by_cases hlt:k<s.chans.length
  ·obtain ⟨x,hx⟩:=qA hlt
   have hd:decide ((k:Int)<(s.chans.length:Int))=true:=by simpa using hlt
   rw [drop_at hx,z0s] at hn
   repeat' (first|refine T.zk fun K hK=>?_|apply T.block|(refine T.reg (by kernel_rfl) fun K' hK'=>?_;simp only [bz];(with_reducible repeat' (first|(apply WL.fin;apply hK';clear hK' K')|(refine WL.step fun K2 hK2=>?_;simp only [simprocAttr,implies_true,amz,zf,tys,hx,hd,cnC];repeat' (first|(apply hK2;clear hK2 K2)|apply And.intro|intro hb)))))|apply T.skip|apply T.exit|refine T.zh rfl ?_|refine T.zg rfl ?_|refine T.cond rfl (fun hc=>?_) (fun hc=>?_)|apply T.ret|simp only [ze,z8,reduceIte,Nat.reduceEqDiff]|((repeat ((fail_if_success apply hK);clear hK K));apply hK;clear hK K))
   ·rw [hc] at hn
    refine zP.ret (.inr rfl) Tryz.results91 ?_;simp only [zI,zu,zw,simprocAttr,implies_true,amz,zf,tys,]
    simp [hn]
   ·rw [hc] at hn
    refine hKL _ (k+1) (by refine zi.of' rfl ?_;simp only [wks,reduceIte,Nat.reduceEqDiff,ASt.okB,AV.okB,Nat.reduceLT,implies_true,zx (show k<1152921504606846976 by omega),rsA,rsC,cnC,yl]) ⟨by omega,?_⟩ (by omega)
    simpa using hn
  ·have hd:decide ((k:Int)<(s.chans.length:Int))=false:=by simpa using hlt
   rw [z3e hlt] at hn
   repeat' (first|refine T.zk fun K hK=>?_|apply T.block|(refine T.reg (by kernel_rfl) fun K' hK'=>?_;simp only [bz];(with_reducible repeat' (first|(apply WL.fin;apply hK';clear hK' K')|(refine WL.step fun K2 hK2=>?_;simp only [simprocAttr,implies_true,amz,zf,tys,hd,cnC];repeat' (first|(apply hK2;clear hK2 K2)|apply And.intro|intro hb)))))|apply T.skip|apply T.exit|refine T.zh rfl ?_|refine T.zg rfl ?_|refine T.cond rfl (fun hc=>?_) (fun hc=>?_)|apply T.ret|simp only [ze,z8,reduceIte,Nat.reduceEqDiff]|((repeat ((fail_if_success apply hK);clear hK K));apply hK;clear hK K))
   refine zP.ret (.inr rfl) Tryz.results91 ?_;simp only [zI,zu,zw,simprocAttr,implies_true,amz,zf,tys,]
   simp [hn,z0s]
def z6k (l:List Ev) (x:Ev) (j:Nat):Bool := !(l.take j).any (fun e=>e.g==x.g)
theorem first_ok (l:List Ev) (j:Nat) (x:Ev) (hx:l[j]? = some x) (hl:l.length≤1000000):zt Tryz.prog 55 [.p (.seq 9 (l.map evC)),.int j] (.bool (z6k l x j)):=by
 have hjl:j<l.length:=(List.getElem?_eq_some_iff.1 hx).1
 refine zt.of Tryz.func55 rfl 22 rfl (by decide) (by simp [AV.okB]) ?_
 repeat' (first|refine T.zk fun K hK=>?_|apply T.block|(refine T.reg (by kernel_rfl) fun K' hK'=>?_;simp only [bz];(with_reducible repeat' (first|(apply WL.fin;apply hK';clear hK' K')|(refine WL.step fun K2 hK2=>?_;simp only [simprocAttr,implies_true,amz,zf,tys];repeat' (first|(apply hK2;clear hK2 K2)|apply And.intro|intro hb)))))|apply T.skip|apply T.exit|refine T.zh rfl ?_|refine T.zg rfl ?_|refine T.cond rfl (fun hc=>?_) (fun hc=>?_)|apply T.ret|simp only [ze,z8,reduceIte,Nat.reduceEqDiff]|((repeat ((fail_if_success apply hK);clear hK K));apply hK;clear hK K))
 refine T.z02 (fun k:Nat=>⟨[(0,.p (.seq 9 (l.map evC))),(1,.int j),(5,.int k)],[],22,0⟩) (fun k=>k≤j∧(l.take k).any (fun e=>e.g==x.g)=false) (fun k=>j-k) 0 ⟨Nat.zero_le _,rfl⟩ (by refine zi.of' rfl ?_;simp only [wks,reduceIte,Nat.reduceEqDiff,ASt.okB,AV.okB,Nat.reduceLT,implies_true,Int.natCast_zero]) ?_
 rintro k ⟨hk,hn⟩ KL hKL
 by_cases hlt:k<j
 ·obtain ⟨y,hy⟩:=qA (show k<l.length by omega)
  have hd:decide ((k:Int)<(j:Int))=true:=by simpa using hlt
  have hany:(l.take (k+1)).any (fun e=>e.g==x.g)=(y.g==x.g):=by
   rw [List.take_add_one,hy,List.any_append,hn];simp
  have hbad:(y.g==x.g)=true→z6k l x j=false:=fun h=>by
   unfold z6k
   rw [List.any_eq_true.2 ⟨y,List.mem_take_iff_getElem.2 ⟨k,by omega,(List.getElem?_eq_some_iff.1 hy).2⟩,h⟩]
   rfl
  repeat' (first|refine T.zk fun K hK=>?_|apply T.block|(refine T.reg (by kernel_rfl) fun K' hK'=>?_;simp only [bz];(with_reducible repeat' (first|(apply WL.fin;apply hK';clear hK' K')|(refine WL.step fun K2 hK2=>?_;simp only [simprocAttr,implies_true,amz,zf,tys,hx,hy,hd,evC];repeat' (first|(apply hK2;clear hK2 K2)|apply And.intro|intro hb)))))|apply T.skip|apply T.exit|refine T.zh rfl ?_|refine T.zg rfl ?_|refine T.cond rfl (fun hc=>?_) (fun hc=>?_)|apply T.ret|simp only [ze,z8,reduceIte,Nat.reduceEqDiff]|((repeat ((fail_if_success apply hK);clear hK K));apply hK;clear hK K))
  refine T.drw 10 (by kernel_rfl) (by kernel_rfl) fun K' hK'=>?_;simp only [yl];(repeat' (first|(with_reducible refine WL.fin ?_;apply hK';clear hK' K')|(with_reducible refine WD.fin ?_)|((with_reducible first|refine WL.step fun K2 hK2=>?_|refine WD.step fun K2 hK2=>?_);simp only [simprocAttr,implies_true,amz,zf,tys,hx,hy,hd,evC];(repeat' with_reducible (first|(apply hK2;clear hK2 K2)|apply And.intro|intro hb)))));all_goals ((try simp only [ze,z8,reduceIte,Nat.reduceEqDiff]);(try ((repeat ((fail_if_success apply hK);clear hK K));apply hK;clear hK K)))
  all_goals repeat' (first|refine T.zk fun K hK=>?_|apply T.block|(refine T.reg (by kernel_rfl) fun K' hK'=>?_;simp only [bz];(with_reducible repeat' (first|(apply WL.fin;apply hK';clear hK' K')|(refine WL.step fun K2 hK2=>?_;simp only [simprocAttr,implies_true,amz,zf,tys,hx,hy,hd,evC];repeat' (first|(apply hK2;clear hK2 K2)|apply And.intro|intro hb)))))|apply T.skip|apply T.exit|refine T.zh rfl ?_|refine T.zg rfl ?_|refine T.cond rfl (fun hc=>?_) (fun hc=>?_)|apply T.ret|simp only [ze,z8,reduceIte,Nat.reduceEqDiff]|((repeat ((fail_if_success apply hK);clear hK K));apply hK;clear hK K))
  ·refine zP.ret (.inr rfl) Tryz.results55 ?_;simp only [zI,zu,zw,simprocAttr,implies_true,amz,zf,tys,]
   rw [hbad hc]
  ·exact hKL _ (k+1) (by refine zi.of' rfl ?_;simp only [wks,reduceIte,Nat.reduceEqDiff,ASt.okB,AV.okB,Nat.reduceLT,implies_true,zx (show k<1152921504606846976 by omega)]) ⟨by omega,by rw [hany];exact hc⟩ (by omega)
 ·have hd:decide ((k:Int)<(j:Int))=false:=by simpa using hlt
  obtain rfl:k=j:=by omega
  repeat' (first|refine T.zk fun K hK=>?_|apply T.block|(refine T.reg (by kernel_rfl) fun K' hK'=>?_;simp only [bz];(with_reducible repeat' (first|(apply WL.fin;apply hK';clear hK' K')|(refine WL.step fun K2 hK2=>?_;simp only [simprocAttr,implies_true,amz,zf,tys,hd];repeat' (first|(apply hK2;clear hK2 K2)|apply And.intro|intro hb)))))|apply T.skip|apply T.exit|refine T.zh rfl ?_|refine T.zg rfl ?_|refine T.cond rfl (fun hc=>?_) (fun hc=>?_)|apply T.ret|simp only [ze,z8,reduceIte,Nat.reduceEqDiff]|((repeat ((fail_if_success apply hK);clear hK K));apply hK;clear hK K))
  refine zP.ret (.inr rfl) Tryz.results55 ?_;simp only [zI,zu,zw,simprocAttr,implies_true,amz,zf,tys,]
  simp [z6k,hn]
def z5O (l:List Ev) (x y:Ev) (i j:Nat):Bool := !(x.g != y.g) && !((l.take j).drop (i+1)).any (fun e=>e.g==x.g)
theorem z7Z {l:List Ev} {i k:Nat} {z:Ev} (hz:l[k]? = some z) (hi:i+1≤k):(l.take (k+1)).drop (i+1)=(l.take k).drop (i+1) ++ [z]:=by
 have:=(List.getElem?_eq_some_iff.1 hz).1
 rw [List.take_add_one,hz,List.drop_append_of_le_length (by simp;omega)];rfl
theorem z8V (l:List Ev) (i j:Nat) (x y:Ev) (hx:l[i]? = some x) (hy:l[j]? = some y) (hij:i<j) (hl:l.length≤1000000):zt Tryz.prog 54 [.p (.seq 9 (l.map evC)),.int i,.int j] (.bool (z5O l x y i j)):=by
 have hjl:j<l.length:=(List.getElem?_eq_some_iff.1 hy).1
 refine zt.of Tryz.func54 rfl 37 rfl (by decide) (by simp [AV.okB]) ?_
 repeat' (first|refine T.zk fun K hK=>?_|apply T.block|(refine T.reg (by kernel_rfl) fun K' hK'=>?_;simp only [bz];(with_reducible repeat' (first|(apply WL.fin;apply hK';clear hK' K')|(refine WL.step fun K2 hK2=>?_;simp only [simprocAttr,implies_true,amz,zf,tys];repeat' (first|(apply hK2;clear hK2 K2)|apply And.intro|intro hb)))))|apply T.skip|apply T.exit|refine T.zh rfl ?_|refine T.zg rfl ?_|refine T.cond rfl (fun hc=>?_) (fun hc=>?_)|apply T.ret|simp only [ze,z8,reduceIte,Nat.reduceEqDiff]|((repeat ((fail_if_success apply hK);clear hK K));apply hK;clear hK K))
 refine T.drw 11 (by kernel_rfl) (by kernel_rfl) fun K' hK'=>?_;simp only [yl];(repeat' (first|(with_reducible refine WL.fin ?_;apply hK';clear hK' K')|(with_reducible refine WD.fin ?_)|((with_reducible first|refine WL.step fun K2 hK2=>?_|refine WD.step fun K2 hK2=>?_);simp only [simprocAttr,implies_true,amz,zf,tys,hx,hy,evC];(repeat' with_reducible (first|(apply hK2;clear hK2 K2)|apply And.intro|intro hb)))));all_goals ((try simp only [ze,z8,reduceIte,Nat.reduceEqDiff]);(try ((repeat ((fail_if_success apply hK);clear hK K));apply hK;clear hK K)))
 all_goals repeat' (first|refine T.zk fun K hK=>?_|apply T.block|(refine T.reg (by kernel_rfl) fun K' hK'=>?_;simp only [bz];(repeat' (first|(with_reducible refine WL.fin ?_;apply hK';clear hK' K')|((with_reducible refine WL.step fun K2 hK2=>?_);simp only [simprocAttr,implies_true,amz,zf,tys,zx (show i<1152921504606846976 by omega)];(repeat' with_reducible (first|(apply hK2;clear hK2 K2)|apply And.intro|intro hb))))))|apply T.skip|apply T.exit|refine T.zh rfl ?_|refine T.zg rfl ?_|refine T.cond rfl (fun hc=>?_) (fun hc=>?_)|apply T.ret|simp only [ze,z8,reduceIte,Nat.reduceEqDiff]|((repeat ((fail_if_success apply hK);clear hK K));apply hK;clear hK K))
 ·refine zP.ret (.inr rfl) Tryz.results54 ?_;simp only [zI,zu,zw,simprocAttr,implies_true,amz,zf,tys,]
  simp [z5O,hc]
 ·refine T.z02 (fun k:Nat=>⟨[(0,.p (.seq 9 (l.map evC))),(1,.int i),(2,.int j),(7,.int k)],[],37,0⟩) (fun k=>i+1≤k∧k≤j∧((l.take k).drop (i+1)).any (fun e=>e.g==x.g)=false) (fun k=>j-k) (i+1) ⟨Nat.le_refl _,hij,by rw [List.drop_eq_nil_of_le (by simp;omega)];rfl⟩ (by refine zi.of' rfl ?_;simp only [wks,reduceIte,Nat.reduceEqDiff,ASt.okB,AV.okB,Nat.reduceLT,implies_true,Int.natCast_zero]) ?_
  rintro k ⟨hk0,hk,hn⟩ KL hKL
  by_cases hlt:k<j
  ·obtain ⟨z,hz⟩:=qA (show k<l.length by omega)
   have hd:decide ((k:Int)<(j:Int))=true:=by simpa using hlt
   have hany:((l.take (k+1)).drop (i+1)).any (fun e=>e.g==x.g)=(z.g==x.g):=by
    rw [z7Z hz hk0,List.any_append,hn];simp
   have hbad:(z.g==x.g)=true→z5O l x y i j=false:=fun h=>by
    have hm:z ∈ (l.take j).drop (i+1):=by
     refine List.mem_iff_getElem?.2 ⟨k-(i+1),?_⟩
     rw [List.getElem?_drop,show i+1+(k-(i+1))=k by omega,List.getElem?_take,if_pos hlt,hz]
    unfold z5O
    rw [List.any_eq_true.2 ⟨z,hm,h⟩]
    simp
   repeat' (first|refine T.zk fun K hK=>?_|apply T.block|(refine T.reg (by kernel_rfl) fun K' hK'=>?_;simp only [bz];(with_reducible repeat' (first|(apply WL.fin;apply hK';clear hK' K')|(refine WL.step fun K2 hK2=>?_;simp only [simprocAttr,implies_true,amz,zf,tys,hx,hz,hd,evC];repeat' (first|(apply hK2;clear hK2 K2)|apply And.intro|intro hb)))))|apply T.skip|apply T.exit|refine T.zh rfl ?_|refine T.zg rfl ?_|refine T.cond rfl (fun hc=>?_) (fun hc=>?_)|apply T.ret|simp only [ze,z8,reduceIte,Nat.reduceEqDiff]|((repeat ((fail_if_success apply hK);clear hK K));apply hK;clear hK K))
   refine T.drw 11 (by kernel_rfl) (by kernel_rfl) fun K' hK'=>?_;simp only [yl];(repeat' (first|(with_reducible refine WL.fin ?_;apply hK';clear hK' K')|(with_reducible refine WD.fin ?_)|((with_reducible first|refine WL.step fun K2 hK2=>?_|refine WD.step fun K2 hK2=>?_);simp only [simprocAttr,implies_true,amz,zf,tys,hx,hz,hd,evC];(repeat' with_reducible (first|(apply hK2;clear hK2 K2)|apply And.intro|intro hb)))));all_goals ((try simp only [ze,z8,reduceIte,Nat.reduceEqDiff]);(try ((repeat ((fail_if_success apply hK);clear hK K));apply hK;clear hK K)))
   all_goals repeat' (first|refine T.zk fun K hK=>?_|apply T.block|(refine T.reg (by kernel_rfl) fun K' hK'=>?_;simp only [bz];(with_reducible repeat' (first|(apply WL.fin;apply hK';clear hK' K')|(refine WL.step fun K2 hK2=>?_;simp only [simprocAttr,implies_true,amz,zf,tys,hx,hz,hd,evC];repeat' (first|(apply hK2;clear hK2 K2)|apply And.intro|intro hb)))))|apply T.skip|apply T.exit|refine T.zh rfl ?_|refine T.zg rfl ?_|refine T.cond rfl (fun hc=>?_) (fun hc=>?_)|apply T.ret|simp only [ze,z8,reduceIte,Nat.reduceEqDiff]|((repeat ((fail_if_success apply hK);clear hK K));apply hK;clear hK K))
   ·refine zP.ret (.inr rfl) Tryz.results54 ?_;simp only [zI,zu,zw,simprocAttr,implies_true,amz,zf,tys,]
    rw [hbad hc]
   ·exact hKL _ (k+1) (by refine zi.of' rfl ?_;simp only [wks,reduceIte,Nat.reduceEqDiff,ASt.okB,AV.okB,Nat.reduceLT,implies_true,zx (show k<1152921504606846976 by omega)]) ⟨by omega,by omega,by rw [hany];exact hc⟩ (by omega)
  ·have hd:decide ((k:Int)<(j:Int))=false:=by simpa using hlt
   obtain rfl:k=j:=by omega
   repeat' (first|refine T.zk fun K hK=>?_|apply T.block|(refine T.reg (by kernel_rfl) fun K' hK'=>?_;simp only [bz];(with_reducible repeat' (first|(apply WL.fin;apply hK';clear hK' K')|(refine WL.step fun K2 hK2=>?_;simp only [simprocAttr,implies_true,amz,zf,tys,hd];repeat' (first|(apply hK2;clear hK2 K2)|apply And.intro|intro hb)))))|apply T.skip|apply T.exit|refine T.zh rfl ?_|refine T.zg rfl ?_|refine T.cond rfl (fun hc=>?_) (fun hc=>?_)|apply T.ret|simp only [ze,z8,reduceIte,Nat.reduceEqDiff]|((repeat ((fail_if_success apply hK);clear hK K));apply hK;clear hK K))
   refine zP.ret (.inr rfl) Tryz.results54 ?_;simp only [zI,zu,zw,simprocAttr,implies_true,amz,zf,tys,]
   simp [z5O,hn,hc]
def z03 (y z:Ev):Bool:=((z.kind==4)||(z.kind==5))&&(z.obj==y.obj)&&(z.off==y.off)
def atomB (l:List Ev) (y:Ev) (i j:Nat):Bool := !((l.take j).drop (i+1)).any (z03 y)
theorem atomic_ok (l:List Ev) (i j:Nat) (y:Ev) (hy:l[j]? = some y) (hij:i<j) (hl:l.length≤1000000):zt Tryz.prog 56 [.p (.seq 9 (l.map evC)),.int i,.int j] (.bool (atomB l y i j)):=by
 have hjl:j<l.length:=(List.getElem?_eq_some_iff.1 hy).1
 refine zt.of Tryz.func56 rfl 55 rfl (by decide) (by simp [AV.okB]) ?_
 repeat' (first|refine T.zk fun K hK=>?_|apply T.block|(refine T.reg (by kernel_rfl) fun K' hK'=>?_;simp only [bz];(repeat' (first|(with_reducible refine WL.fin ?_;apply hK';clear hK' K')|((with_reducible refine WL.step fun K2 hK2=>?_);simp only [simprocAttr,implies_true,amz,zf,tys,zx (show i<1152921504606846976 by omega)];(repeat' with_reducible (first|(apply hK2;clear hK2 K2)|apply And.intro|intro hb))))))|apply T.skip|apply T.exit|refine T.zh rfl ?_|refine T.zg rfl ?_|refine T.cond rfl (fun hc=>?_) (fun hc=>?_)|apply T.ret|simp only [ze,z8,reduceIte,Nat.reduceEqDiff]|((repeat ((fail_if_success apply hK);clear hK K));apply hK;clear hK K))
 refine T.z02 (fun k:Nat=>⟨[(0,.p (.seq 9 (l.map evC))),(1,.int i),(2,.int j),(7,.int k)],[],55,0⟩) (fun k=>i+1≤k∧k≤j∧((l.take k).drop (i+1)).any (z03 y)=false) (fun k=>j-k) (i+1) ⟨Nat.le_refl _,hij,by rw [List.drop_eq_nil_of_le (by simp;omega)];rfl⟩ (by refine zi.of' rfl ?_;simp only [wks,reduceIte,Nat.reduceEqDiff,ASt.okB,AV.okB,Nat.reduceLT,implies_true,Int.natCast_zero]) ?_
 rintro k ⟨hk0,hk,hn⟩ KL hKL
 by_cases hlt:k<j
 ·obtain ⟨z,hz⟩:=qA (show k<l.length by omega)
  have hd:decide ((k:Int)<(j:Int))=true:=by simpa using hlt
  have hany:((l.take (k+1)).drop (i+1)).any (z03 y)=z03 y z:=by
   rw [z7Z hz hk0,List.any_append,hn];simp
  have hbad:z03 y z=true→atomB l y i j=false:=fun h=>by
   have hm:z ∈ (l.take j).drop (i+1):=by
    refine List.mem_iff_getElem?.2 ⟨k-(i+1),?_⟩
    rw [List.getElem?_drop,show i+1+(k-(i+1))=k by omega,List.getElem?_take,if_pos hlt,hz]
   unfold atomB
   rw [List.any_eq_true.2 ⟨z,hm,h⟩]
   rfl
  have hgo:z03 y z=false → ∀ s',zi s' _→KL s':=fun h s' hw=>hKL s' (k+1) hw ⟨by omega,by omega,by rw [hany];exact h⟩ (by omega)
  cases h4:(z.kind==4) with
  | true =>
   cases ho:(z.obj==y.obj) with
   | true =>
    cases hf:(z.off==y.off) with
    | true =>
     have hw:z03 y z=true:=by simp [z03,h4,ho,hf]
     repeat' (first|refine T.zk fun K hK=>?_|apply T.block|(refine T.reg (by kernel_rfl) fun K' hK'=>?_;simp only [bz];(with_reducible repeat' (first|(apply WL.fin;apply hK';clear hK' K')|(refine WL.step fun K2 hK2=>?_;simp only [simprocAttr,implies_true,amz,zf,tys,hy,hz,hd,evC];repeat' (first|(apply hK2;clear hK2 K2)|apply And.intro|intro hb)))))|apply T.skip|apply T.exit|refine T.zh rfl ?_|refine T.zg rfl ?_|refine T.cond rfl (fun hc=>?_) (fun hc=>?_)|apply T.ret|simp only [ze,z8,reduceIte,Nat.reduceEqDiff]|((repeat ((fail_if_success apply hK);clear hK K));apply hK;clear hK K))
     refine T.comm [c0,c0,c0,c0,c0,c0,c0,c0,c0,c0,c0,c0,c0,c0,c0,c0,c0,c0,c0,c0,c0,c0,c0,c0,c0,c0,c0,c0,c0,c0,c0,c0,c0,c0,c0,c0,c0,c0,c0,c0] (by kernel_rfl) (by kernel_rfl) fun K' hK'=>?_;simp only [yl,List.zip_cons_cons,List.zip_nil_left];(repeat' (first|(with_reducible refine WC.fin ?_;apply hK';clear hK' K')|((first|(with_reducible refine WC.z0O fun K2 hK2=>?_)|(with_reducible refine WC.stepW fun K2 hK2=>?_));simp only [simprocAttr,implies_true,amz,zf,WCg,WCv,WOw,allP,dav,Chk,List.filter_cons,List.filter_nil,bne_self_eq_false,Nat.reduceBneDiff,Bool.false_eq_true,tys,hy,hz,hd,evC,h4,ho,hf];(repeat' (first|(with_reducible refine hK2 _ _ ?_;clear hK2 K2)|with_reducible (first|(apply hK2;clear hK2 K2)|apply And.intro|intro hb)|(with_reducible rfl)|((with_reducible show @Eq ASt _ _);rfl) )))));all_goals ((try simp only [ze,z8,reduceIte,Nat.reduceEqDiff]);(try ((repeat ((fail_if_success apply hK);clear hK K));apply hK;clear hK K)))
     all_goals repeat' (first|refine T.zk fun K hK=>?_|apply T.block|(refine T.reg (by kernel_rfl) fun K' hK'=>?_;simp only [bz];(with_reducible repeat' (first|(apply WL.fin;apply hK';clear hK' K')|(refine WL.step fun K2 hK2=>?_;simp only [simprocAttr,implies_true,amz,zf,tys,hy,hz,hd,evC];repeat' (first|(apply hK2;clear hK2 K2)|apply And.intro|intro hb)))))|apply T.skip|apply T.exit|refine T.zh rfl ?_|refine T.zg rfl ?_|refine T.cond rfl (fun hc=>?_) (fun hc=>?_)|apply T.ret|simp only [ze,z8,reduceIte,Nat.reduceEqDiff]|((repeat ((fail_if_success apply hK);clear hK K));apply hK;clear hK K))
     all_goals (refine zP.ret (.inr rfl) Tryz.results56 ?_;simp only [zI,zu,zw,simprocAttr,implies_true,amz,zf,tys,];rw [hbad hw])
    | false =>
     have hw:z03 y z=false:=by simp [z03,h4,ho,hf]
     repeat' (first|refine T.zk fun K hK=>?_|apply T.block|(refine T.reg (by kernel_rfl) fun K' hK'=>?_;simp only [bz];(with_reducible repeat' (first|(apply WL.fin;apply hK';clear hK' K')|(refine WL.step fun K2 hK2=>?_;simp only [simprocAttr,implies_true,amz,zf,tys,hy,hz,hd,evC];repeat' (first|(apply hK2;clear hK2 K2)|apply And.intro|intro hb)))))|apply T.skip|apply T.exit|refine T.zh rfl ?_|refine T.zg rfl ?_|refine T.cond rfl (fun hc=>?_) (fun hc=>?_)|apply T.ret|simp only [ze,z8,reduceIte,Nat.reduceEqDiff]|((repeat ((fail_if_success apply hK);clear hK K));apply hK;clear hK K))
     refine T.comm [c0,c0,c0,c0,c0,c0,c0,c0,c0,c0,c0,c0,c0,c0,c0,c0,c0,c0,c0,c0,c0,c0,c0,c0,c0,c0,c0,c0,c0,c0,c0,c0,c0,c0,c0,c0,c0,c0,c0,c0] (by kernel_rfl) (by kernel_rfl) fun K' hK'=>?_;simp only [yl,List.zip_cons_cons,List.zip_nil_left];(repeat' (first|(with_reducible refine WC.fin ?_;apply hK';clear hK' K')|((first|(with_reducible refine WC.z0O fun K2 hK2=>?_)|(with_reducible refine WC.stepW fun K2 hK2=>?_));simp only [simprocAttr,implies_true,amz,zf,WCg,WCv,WOw,allP,dav,Chk,List.filter_cons,List.filter_nil,bne_self_eq_false,Nat.reduceBneDiff,Bool.false_eq_true,tys,hy,hz,hd,evC,h4,ho,hf];(repeat' (first|(with_reducible refine hK2 _ _ ?_;clear hK2 K2)|with_reducible (first|(apply hK2;clear hK2 K2)|apply And.intro|intro hb)|(with_reducible rfl)|((with_reducible show @Eq ASt _ _);rfl) )))));all_goals ((try simp only [ze,z8,reduceIte,Nat.reduceEqDiff]);(try ((repeat ((fail_if_success apply hK);clear hK K));apply hK;clear hK K)))
     all_goals repeat' (first|refine T.zk fun K hK=>?_|apply T.block|(refine T.reg (by kernel_rfl) fun K' hK'=>?_;simp only [bz];(with_reducible repeat' (first|(apply WL.fin;apply hK';clear hK' K')|(refine WL.step fun K2 hK2=>?_;simp only [simprocAttr,implies_true,amz,zf,tys,hy,hz,hd,evC];repeat' (first|(apply hK2;clear hK2 K2)|apply And.intro|intro hb)))))|apply T.skip|apply T.exit|refine T.zh rfl ?_|refine T.zg rfl ?_|refine T.cond rfl (fun hc=>?_) (fun hc=>?_)|apply T.ret|simp only [ze,z8,reduceIte,Nat.reduceEqDiff]|((repeat ((fail_if_success apply hK);clear hK K));apply hK;clear hK K))
     all_goals (refine hgo hw _ ?_;refine zi.of' rfl ?_;simp only [wks,reduceIte,Nat.reduceEqDiff,ASt.okB,AV.okB,Nat.reduceLT,implies_true,zx (show k<1152921504606846976 by omega)])
   | false =>
    have hw:z03 y z=false:=by simp [z03,h4,ho]
    repeat' (first|refine T.zk fun K hK=>?_|apply T.block|(refine T.reg (by kernel_rfl) fun K' hK'=>?_;simp only [bz];(with_reducible repeat' (first|(apply WL.fin;apply hK';clear hK' K')|(refine WL.step fun K2 hK2=>?_;simp only [simprocAttr,implies_true,amz,zf,tys,hy,hz,hd,evC];repeat' (first|(apply hK2;clear hK2 K2)|apply And.intro|intro hb)))))|apply T.skip|apply T.exit|refine T.zh rfl ?_|refine T.zg rfl ?_|refine T.cond rfl (fun hc=>?_) (fun hc=>?_)|apply T.ret|simp only [ze,z8,reduceIte,Nat.reduceEqDiff]|((repeat ((fail_if_success apply hK);clear hK K));apply hK;clear hK K))
    refine T.comm [c0,c0,c0,c0,c0,c0,c0,c0,c0,c0,c0,c0,c0,c0,c0,c0,c0,c0,c0,c0,c0,c0,c0,c0,c0,c0,c0,c0,c0,c0,c0,c0,c0,c0,c0,c0,c0,c0,c0,c0] (by kernel_rfl) (by kernel_rfl) fun K' hK'=>?_;simp only [yl,List.zip_cons_cons,List.zip_nil_left];(repeat' (first|(with_reducible refine WC.fin ?_;apply hK';clear hK' K')|((first|(with_reducible refine WC.z0O fun K2 hK2=>?_)|(with_reducible refine WC.stepW fun K2 hK2=>?_));simp only [simprocAttr,implies_true,amz,zf,WCg,WCv,WOw,allP,dav,Chk,List.filter_cons,List.filter_nil,bne_self_eq_false,Nat.reduceBneDiff,Bool.false_eq_true,tys,hy,hz,hd,evC,h4,ho];(repeat' (first|(with_reducible refine hK2 _ _ ?_;clear hK2 K2)|with_reducible (first|(apply hK2;clear hK2 K2)|apply And.intro|intro hb)|(with_reducible rfl)|((with_reducible show @Eq ASt _ _);rfl) )))));all_goals ((try simp only [ze,z8,reduceIte,Nat.reduceEqDiff]);(try ((repeat ((fail_if_success apply hK);clear hK K));apply hK;clear hK K)))
    all_goals repeat' (first|refine T.zk fun K hK=>?_|apply T.block|(refine T.reg (by kernel_rfl) fun K' hK'=>?_;simp only [bz];(with_reducible repeat' (first|(apply WL.fin;apply hK';clear hK' K')|(refine WL.step fun K2 hK2=>?_;simp only [simprocAttr,implies_true,amz,zf,tys,hy,hz,hd,evC];repeat' (first|(apply hK2;clear hK2 K2)|apply And.intro|intro hb)))))|apply T.skip|apply T.exit|refine T.zh rfl ?_|refine T.zg rfl ?_|refine T.cond rfl (fun hc=>?_) (fun hc=>?_)|apply T.ret|simp only [ze,z8,reduceIte,Nat.reduceEqDiff]|((repeat ((fail_if_success apply hK);clear hK K));apply hK;clear hK K))
    all_goals (refine hgo hw _ ?_;refine zi.of' rfl ?_;simp only [wks,reduceIte,Nat.reduceEqDiff,ASt.okB,AV.okB,Nat.reduceLT,implies_true,zx (show k<1152921504606846976 by omega)])
  | false =>
   cases h5:(z.kind==5) with
   | true =>
    cases ho:(z.obj==y.obj) with
    | true =>
     cases hf:(z.off==y.off) with
     | true =>
      have hw:z03 y z=true:=by simp [z03,h5,ho,hf]
      repeat' (first|refine T.zk fun K hK=>?_|apply T.block|(refine T.reg (by kernel_rfl) fun K' hK'=>?_;simp only [bz];(with_reducible repeat' (first|(apply WL.fin;apply hK';clear hK' K')|(refine WL.step fun K2 hK2=>?_;simp only [simprocAttr,implies_true,amz,zf,tys,hy,hz,hd,evC];repeat' (first|(apply hK2;clear hK2 K2)|apply And.intro|intro hb)))))|apply T.skip|apply T.exit|refine T.zh rfl ?_|refine T.zg rfl ?_|refine T.cond rfl (fun hc=>?_) (fun hc=>?_)|apply T.ret|simp only [ze,z8,reduceIte,Nat.reduceEqDiff]|((repeat ((fail_if_success apply hK);clear hK K));apply hK;clear hK K))
      refine T.comm [c0,c0,c0,c0,c0,c0,c0,c0,c0,c0,c0,c0,c0,c0,c0,c0,c0,c0,c0,c0,c0,c0,c0,c0,c0,c0,c0,c0,c0,c0,c0,c0,c0,c0,c0,c0,c0,c0,c0,c0] (by kernel_rfl) (by kernel_rfl) fun K' hK'=>?_;simp only [yl,List.zip_cons_cons,List.zip_nil_left];(repeat' (first|(with_reducible refine WC.fin ?_;apply hK';clear hK' K')|((first|(with_reducible refine WC.z0O fun K2 hK2=>?_)|(with_reducible refine WC.stepW fun K2 hK2=>?_));simp only [simprocAttr,implies_true,amz,zf,WCg,WCv,WOw,allP,dav,Chk,List.filter_cons,List.filter_nil,bne_self_eq_false,Nat.reduceBneDiff,Bool.false_eq_true,tys,hy,hz,hd,evC,h4,h5,ho,hf];(repeat' (first|(with_reducible refine hK2 _ _ ?_;clear hK2 K2)|with_reducible (first|(apply hK2;clear hK2 K2)|apply And.intro|intro hb)|(with_reducible rfl)|((with_reducible show @Eq ASt _ _);rfl) )))));all_goals ((try simp only [ze,z8,reduceIte,Nat.reduceEqDiff]);(try ((repeat ((fail_if_success apply hK);clear hK K));apply hK;clear hK K)))
      all_goals repeat' (first|refine T.zk fun K hK=>?_|apply T.block|(refine T.reg (by kernel_rfl) fun K' hK'=>?_;simp only [bz];(with_reducible repeat' (first|(apply WL.fin;apply hK';clear hK' K')|(refine WL.step fun K2 hK2=>?_;simp only [simprocAttr,implies_true,amz,zf,tys,hy,hz,hd,evC];repeat' (first|(apply hK2;clear hK2 K2)|apply And.intro|intro hb)))))|apply T.skip|apply T.exit|refine T.zh rfl ?_|refine T.zg rfl ?_|refine T.cond rfl (fun hc=>?_) (fun hc=>?_)|apply T.ret|simp only [ze,z8,reduceIte,Nat.reduceEqDiff]|((repeat ((fail_if_success apply hK);clear hK K));apply hK;clear hK K))
      all_goals (refine zP.ret (.inr rfl) Tryz.results56 ?_;simp only [zI,zu,zw,simprocAttr,implies_true,amz,zf,tys,];rw [hbad hw])
     | false =>
      have hw:z03 y z=false:=by simp [z03,h5,ho,hf]
      repeat' (first|refine T.zk fun K hK=>?_|apply T.block|(refine T.reg (by kernel_rfl) fun K' hK'=>?_;simp only [bz];(with_reducible repeat' (first|(apply WL.fin;apply hK';clear hK' K')|(refine WL.step fun K2 hK2=>?_;simp only [simprocAttr,implies_true,amz,zf,tys,hy,hz,hd,evC];repeat' (first|(apply hK2;clear hK2 K2)|apply And.intro|intro hb)))))|apply T.skip|apply T.exit|refine T.zh rfl ?_|refine T.zg rfl ?_|refine T.cond rfl (fun hc=>?_) (fun hc=>?_)|apply T.ret|simp only [ze,z8,reduceIte,Nat.reduceEqDiff]|((repeat ((fail_if_success apply hK);clear hK K));apply hK;clear hK K))
      refine T.comm [c0,c0,c0,c0,c0,c0,c0,c0,c0,c0,c0,c0,c0,c0,c0,c0,c0,c0,c0,c0,c0,c0,c0,c0,c0,c0,c0,c0,c0,c0,c0,c0,c0,c0,c0,c0,c0,c0,c0,c0] (by kernel_rfl) (by kernel_rfl) fun K' hK'=>?_;simp only [yl,List.zip_cons_cons,List.zip_nil_left];(repeat' (first|(with_reducible refine WC.fin ?_;apply hK';clear hK' K')|((first|(with_reducible refine WC.z0O fun K2 hK2=>?_)|(with_reducible refine WC.stepW fun K2 hK2=>?_));simp only [simprocAttr,implies_true,amz,zf,WCg,WCv,WOw,allP,dav,Chk,List.filter_cons,List.filter_nil,bne_self_eq_false,Nat.reduceBneDiff,Bool.false_eq_true,tys,hy,hz,hd,evC,h4,h5,ho,hf];(repeat' (first|(with_reducible refine hK2 _ _ ?_;clear hK2 K2)|with_reducible (first|(apply hK2;clear hK2 K2)|apply And.intro|intro hb)|(with_reducible rfl)|((with_reducible show @Eq ASt _ _);rfl) )))));all_goals ((try simp only [ze,z8,reduceIte,Nat.reduceEqDiff]);(try ((repeat ((fail_if_success apply hK);clear hK K));apply hK;clear hK K)))
      all_goals repeat' (first|refine T.zk fun K hK=>?_|apply T.block|(refine T.reg (by kernel_rfl) fun K' hK'=>?_;simp only [bz];(with_reducible repeat' (first|(apply WL.fin;apply hK';clear hK' K')|(refine WL.step fun K2 hK2=>?_;simp only [simprocAttr,implies_true,amz,zf,tys,hy,hz,hd,evC];repeat' (first|(apply hK2;clear hK2 K2)|apply And.intro|intro hb)))))|apply T.skip|apply T.exit|refine T.zh rfl ?_|refine T.zg rfl ?_|refine T.cond rfl (fun hc=>?_) (fun hc=>?_)|apply T.ret|simp only [ze,z8,reduceIte,Nat.reduceEqDiff]|((repeat ((fail_if_success apply hK);clear hK K));apply hK;clear hK K))
      all_goals (refine hgo hw _ ?_;refine zi.of' rfl ?_;simp only [wks,reduceIte,Nat.reduceEqDiff,ASt.okB,AV.okB,Nat.reduceLT,implies_true,zx (show k<1152921504606846976 by omega)])
    | false =>
     have hw:z03 y z=false:=by simp [z03,h5,ho]
     repeat' (first|refine T.zk fun K hK=>?_|apply T.block|(refine T.reg (by kernel_rfl) fun K' hK'=>?_;simp only [bz];(with_reducible repeat' (first|(apply WL.fin;apply hK';clear hK' K')|(refine WL.step fun K2 hK2=>?_;simp only [simprocAttr,implies_true,amz,zf,tys,hy,hz,hd,evC];repeat' (first|(apply hK2;clear hK2 K2)|apply And.intro|intro hb)))))|apply T.skip|apply T.exit|refine T.zh rfl ?_|refine T.zg rfl ?_|refine T.cond rfl (fun hc=>?_) (fun hc=>?_)|apply T.ret|simp only [ze,z8,reduceIte,Nat.reduceEqDiff]|((repeat ((fail_if_success apply hK);clear hK K));apply hK;clear hK K))
     refine T.comm [c0,c0,c0,c0,c0,c0,c0,c0,c0,c0,c0,c0,c0,c0,c0,c0,c0,c0,c0,c0,c0,c0,c0,c0,c0,c0,c0,c0,c0,c0,c0,c0,c0,c0,c0,c0,c0,c0,c0,c0] (by kernel_rfl) (by kernel_rfl) fun K' hK'=>?_;simp only [yl,List.zip_cons_cons,List.zip_nil_left];(repeat' (first|(with_reducible refine WC.fin ?_;apply hK';clear hK' K')|((first|(with_reducible refine WC.z0O fun K2 hK2=>?_)|(with_reducible refine WC.stepW fun K2 hK2=>?_));simp only [simprocAttr,implies_true,amz,zf,WCg,WCv,WOw,allP,dav,Chk,List.filter_cons,List.filter_nil,bne_self_eq_false,Nat.reduceBneDiff,Bool.false_eq_true,tys,hy,hz,hd,evC,h4,h5,ho];(repeat' (first|(with_reducible refine hK2 _ _ ?_;clear hK2 K2)|with_reducible (first|(apply hK2;clear hK2 K2)|apply And.intro|intro hb)|(with_reducible rfl)|((with_reducible show @Eq ASt _ _);rfl) )))));all_goals ((try simp only [ze,z8,reduceIte,Nat.reduceEqDiff]);(try ((repeat ((fail_if_success apply hK);clear hK K));apply hK;clear hK K)))
     all_goals repeat' (first|refine T.zk fun K hK=>?_|apply T.block|(refine T.reg (by kernel_rfl) fun K' hK'=>?_;simp only [bz];(with_reducible repeat' (first|(apply WL.fin;apply hK';clear hK' K')|(refine WL.step fun K2 hK2=>?_;simp only [simprocAttr,implies_true,amz,zf,tys,hy,hz,hd,evC];repeat' (first|(apply hK2;clear hK2 K2)|apply And.intro|intro hb)))))|apply T.skip|apply T.exit|refine T.zh rfl ?_|refine T.zg rfl ?_|refine T.cond rfl (fun hc=>?_) (fun hc=>?_)|apply T.ret|simp only [ze,z8,reduceIte,Nat.reduceEqDiff]|((repeat ((fail_if_success apply hK);clear hK K));apply hK;clear hK K))
     all_goals (refine hgo hw _ ?_;refine zi.of' rfl ?_;simp only [wks,reduceIte,Nat.reduceEqDiff,ASt.okB,AV.okB,Nat.reduceLT,implies_true,zx (show k<1152921504606846976 by omega)])
   | false =>
    have hw:z03 y z=false:=by simp [z03,h4,h5]
    repeat' (first|refine T.zk fun K hK=>?_|apply T.block|(refine T.reg (by kernel_rfl) fun K' hK'=>?_;simp only [bz];(with_reducible repeat' (first|(apply WL.fin;apply hK';clear hK' K')|(refine WL.step fun K2 hK2=>?_;simp only [simprocAttr,implies_true,amz,zf,tys,hy,hz,hd,evC];repeat' (first|(apply hK2;clear hK2 K2)|apply And.intro|intro hb)))))|apply T.skip|apply T.exit|refine T.zh rfl ?_|refine T.zg rfl ?_|refine T.cond rfl (fun hc=>?_) (fun hc=>?_)|apply T.ret|simp only [ze,z8,reduceIte,Nat.reduceEqDiff]|((repeat ((fail_if_success apply hK);clear hK K));apply hK;clear hK K))
    refine T.comm [c0,c0,c0,c0,c0,c0,c0,c0,c0,c0,c0,c0,c0,c0,c0,c0,c0,c0,c0,c0,c0,c0,c0,c0,c0,c0,c0,c0,c0,c0,c0,c0,c0,c0,c0,c0,c0,c0,c0,c0] (by kernel_rfl) (by kernel_rfl) fun K' hK'=>?_;simp only [yl,List.zip_cons_cons,List.zip_nil_left];(repeat' (first|(with_reducible refine WC.fin ?_;apply hK';clear hK' K')|((first|(with_reducible refine WC.z0O fun K2 hK2=>?_)|(with_reducible refine WC.stepW fun K2 hK2=>?_));simp only [simprocAttr,implies_true,amz,zf,WCg,WCv,WOw,allP,dav,Chk,List.filter_cons,List.filter_nil,bne_self_eq_false,Nat.reduceBneDiff,Bool.false_eq_true,tys,hy,hz,hd,evC,h4,h5];(repeat' (first|(with_reducible refine hK2 _ _ ?_;clear hK2 K2)|with_reducible (first|(apply hK2;clear hK2 K2)|apply And.intro|intro hb)|(with_reducible rfl)|((with_reducible show @Eq ASt _ _);rfl) )))));all_goals ((try simp only [ze,z8,reduceIte,Nat.reduceEqDiff]);(try ((repeat ((fail_if_success apply hK);clear hK K));apply hK;clear hK K)))
    all_goals repeat' (first|refine T.zk fun K hK=>?_|apply T.block|(refine T.reg (by kernel_rfl) fun K' hK'=>?_;simp only [bz];(with_reducible repeat' (first|(apply WL.fin;apply hK';clear hK' K')|(refine WL.step fun K2 hK2=>?_;simp only [simprocAttr,implies_true,amz,zf,tys,hy,hz,hd,evC];repeat' (first|(apply hK2;clear hK2 K2)|apply And.intro|intro hb)))))|apply T.skip|apply T.exit|refine T.zh rfl ?_|refine T.zg rfl ?_|refine T.cond rfl (fun hc=>?_) (fun hc=>?_)|apply T.ret|simp only [ze,z8,reduceIte,Nat.reduceEqDiff]|((repeat ((fail_if_success apply hK);clear hK K));apply hK;clear hK K))
    all_goals (refine hgo hw _ ?_;refine zi.of' rfl ?_;simp only [wks,reduceIte,Nat.reduceEqDiff,ASt.okB,AV.okB,Nat.reduceLT,implies_true,zx (show k<1152921504606846976 by omega)])
 ·have hd:decide ((k:Int)<(j:Int))=false:=by simpa using hlt
  obtain rfl:k=j:=by omega
  repeat' (first|refine T.zk fun K hK=>?_|apply T.block|(refine T.reg (by kernel_rfl) fun K' hK'=>?_;simp only [bz];(with_reducible repeat' (first|(apply WL.fin;apply hK';clear hK' K')|(refine WL.step fun K2 hK2=>?_;simp only [simprocAttr,implies_true,amz,zf,tys,hd];repeat' (first|(apply hK2;clear hK2 K2)|apply And.intro|intro hb)))))|apply T.skip|apply T.exit|refine T.zh rfl ?_|refine T.zg rfl ?_|refine T.cond rfl (fun hc=>?_) (fun hc=>?_)|apply T.ret|simp only [ze,z8,reduceIte,Nat.reduceEqDiff]|((repeat ((fail_if_success apply hK);clear hK K));apply hK;clear hK K))
  refine zP.ret (.inr rfl) Tryz.results56 ?_;simp only [zI,zu,zw,simprocAttr,implies_true,amz,zf,tys,]
  simp [atomB,hn]
def z96 (l:List Ev) (x y:Ev) (j:Nat):Bool:=(x.kind==14)&&(x.k==y.g)&&z6k l y j
def kndB (l:List Ev) (x y:Ev) (i j:Nat):Bool :=
 if x.kind==15 then (y.kind==18)&&(y.k==x.k)
 else if x.kind==17 then (y.kind==16)&&(y.k==IntKind.i64.wrap (x.k+x.n))
 else if x.kind==19 then y.kind==20
 else if x.kind==7 then (y.kind==6)||(y.kind==8)
 else if x.kind==9 then y.kind==6
 else if x.kind==10 then y.kind==11
 else if x.kind==12 then y.kind==13
 else if (x.kind==4)||(x.kind==5) then ((y.kind==3)||(y.kind==5))&&atomB l y i j
 else false
def immB (l:List Ev) (x y:Ev) (i j:Nat):Bool :=
 if z5O l x y i j||z96 l x y j then true
 else if (x.obj != y.obj)||(x.off != y.off) then false
 else kndB l x y i j
theorem imm_ok (l:List Ev) (i j:Nat) (x y:Ev) (hx:l[i]? = some x) (hy:l[j]? = some y) (hij:i<j) (hl:l.length≤1000000):zt Tryz.prog 36 [.p (.seq 9 (l.map evC)),.int i,.int j] (.bool (immB l x y i j)):=by
 have hP:=z8V l i j x y hx hy hij hl
 have hF:=first_ok l j y hy hl
 have hA:=atomic_ok l i j y hy hij hl
 refine zt.of Tryz.func36 rfl 126 rfl (by decide) (by simp [AV.okB]) ?_
 repeat' (first|refine T.zk fun K hK=>?_|apply T.block|apply T.skip|apply T.exit|refine T.zh rfl ?_|refine T.zg rfl ?_|refine T.cond rfl (fun hc=>?_) (fun hc=>?_)|apply T.ret|simp only [ze,z8,reduceIte,Nat.reduceEqDiff]|((repeat ((fail_if_success apply hK);clear hK K));apply hK;clear hK K))
 (refine T.reg (by kernel_rfl) fun K' hK'=>?_;simp only [bz];(with_reducible repeat' (first|(apply WL.fin;apply hK';clear hK' K')|(refine WL.step fun K2 hK2=>?_;simp only [simprocAttr,implies_true,amz,zf,tys,hx,hy,evC];repeat' (first|(apply hK2;clear hK2 K2)|apply And.intro|intro hb))));all_goals ((try simp only [ze,z8,reduceIte,Nat.reduceEqDiff]);(try ((repeat ((fail_if_success apply hK);clear hK K));apply hK;clear hK K))))
 repeat' (first|refine T.zk fun K hK=>?_|apply T.block|apply T.skip|apply T.exit|refine T.zh rfl ?_|refine T.zg rfl ?_|refine T.cond rfl (fun hc=>?_) (fun hc=>?_)|apply T.ret|simp only [ze,z8,reduceIte,Nat.reduceEqDiff]|((repeat ((fail_if_success apply hK);clear hK K));apply hK;clear hK K))
 (refine T.reg (by kernel_rfl) fun K' hK'=>?_;simp only [bz];(with_reducible repeat' (first|(apply WL.fin;apply hK';clear hK' K')|(refine WL.step fun K2 hK2=>?_;simp only [simprocAttr,implies_true,amz,zf,tys,hx,hy,evC];repeat' (first|(apply hK2;clear hK2 K2)|apply And.intro|intro hb))));all_goals ((try simp only [ze,z8,reduceIte,Nat.reduceEqDiff]);(try ((repeat ((fail_if_success apply hK);clear hK K));apply hK;clear hK K))))
 repeat' (first|refine T.zk fun K hK=>?_|apply T.block|apply T.skip|apply T.exit|refine T.zh rfl ?_|refine T.zg rfl ?_|refine T.cond rfl (fun hc=>?_) (fun hc=>?_)|apply T.ret|simp only [ze,z8,reduceIte,Nat.reduceEqDiff]|((repeat ((fail_if_success apply hK);clear hK K));apply hK;clear hK K))
 (refine T.reg (by kernel_rfl) fun K' hK'=>?_;simp only [bz];(with_reducible repeat' (first|(apply WL.fin;apply hK';clear hK' K')|(refine WL.step fun K2 hK2=>?_;simp only [simprocAttr,implies_true,amz,zf,tys,hx,hy,evC];repeat' (first|(apply hK2;clear hK2 K2)|apply And.intro|intro hb))));all_goals ((try simp only [ze,z8,reduceIte,Nat.reduceEqDiff]);(try ((repeat ((fail_if_success apply hK);clear hK K));apply hK;clear hK K))))
 repeat' (first|refine T.zk fun K hK=>?_|apply T.block|apply T.skip|apply T.exit|refine T.zh rfl ?_|refine T.zg rfl ?_|refine T.cond rfl (fun hc=>?_) (fun hc=>?_)|apply T.ret|simp only [ze,z8,reduceIte,Nat.reduceEqDiff]|((repeat ((fail_if_success apply hK);clear hK K));apply hK;clear hK K))
 suffices hmid : ∀ s',zi s' ⟨[(0,.p (.seq 9 (l.map evC))),(1,.int i),(2,.int j),(6,.bool false),(7,.ptr 0 0),(8,.ptr 1 0),(37,.bool (z5O l x y i j||z96 l x y j))],[(1,.boxP none 33 ((evC y).map .p)),(0,.boxP none 33 ((evC x).map .p))],126,2⟩→K s' by
  clear hK
  have hK:=hmid
  clear hmid
  cases hp:z5O l x y i j with
  | true =>
   rw [hp] at hP
   (refine T.reg (by kernel_rfl) fun K' hK'=>?_;simp only [bz];(repeat' (first|(with_reducible refine WL.fin ?_;apply hK';clear hK' K')|((with_reducible refine WL.step fun K2 hK2=>?_);simp only [simprocAttr,implies_true,amz,zf,tys,evC];(repeat' (first|with_reducible (first|(apply hK2;clear hK2 K2)|apply And.intro|intro hb)|((with_reducible first|apply zl|apply zn);case h=>exact CallV.plain (Ent.of Tryz.func54 (by kernel_rfl) rfl) (hP) (by simp [AV.okB])))))));all_goals ((try simp only [ze,z8,reduceIte,Nat.reduceEqDiff]);(try ((repeat ((fail_if_success apply hK);clear hK K));apply hK;clear hK K))))
   all_goals (refine zi.of' rfl ?_;simp only [wks,reduceIte,Nat.reduceEqDiff,ASt.okB,AV.okB,Nat.reduceLT,implies_true,evC,yl,hp,Bool.true_or])
  | false =>
   rw [hp] at hP
   cases h14:(x.kind==14) with
   | false =>
    (refine T.reg (by kernel_rfl) fun K' hK'=>?_;simp only [bz];(repeat' (first|(with_reducible refine WL.fin ?_;apply hK';clear hK' K')|((with_reducible refine WL.step fun K2 hK2=>?_);simp only [simprocAttr,implies_true,amz,zf,tys,evC,h14];(repeat' (first|with_reducible (first|(apply hK2;clear hK2 K2)|apply And.intro|intro hb)|((with_reducible first|apply zl|apply zn);case h=>exact CallV.plain (Ent.of Tryz.func54 (by kernel_rfl) rfl) (hP) (by simp [AV.okB])))))));all_goals ((try simp only [ze,z8,reduceIte,Nat.reduceEqDiff]);(try ((repeat ((fail_if_success apply hK);clear hK K));apply hK;clear hK K))))
    all_goals (refine zi.of' rfl ?_;simp only [wks,reduceIte,Nat.reduceEqDiff,ASt.okB,AV.okB,Nat.reduceLT,implies_true,evC,yl,z96,hp,h14,Bool.false_or,Bool.false_and])
   | true =>
    cases hk:(x.k==y.g) with
    | false =>
     (refine T.reg (by kernel_rfl) fun K' hK'=>?_;simp only [bz];(repeat' (first|(with_reducible refine WL.fin ?_;apply hK';clear hK' K')|((with_reducible refine WL.step fun K2 hK2=>?_);simp only [simprocAttr,implies_true,amz,zf,tys,evC,h14,hk];(repeat' (first|with_reducible (first|(apply hK2;clear hK2 K2)|apply And.intro|intro hb)|((with_reducible first|apply zl|apply zn);case h=>exact CallV.plain (Ent.of Tryz.func54 (by kernel_rfl) rfl) (hP) (by simp [AV.okB])))))));all_goals ((try simp only [ze,z8,reduceIte,Nat.reduceEqDiff]);(try ((repeat ((fail_if_success apply hK);clear hK K));apply hK;clear hK K))))
     all_goals (refine zi.of' rfl ?_;simp only [wks,reduceIte,Nat.reduceEqDiff,ASt.okB,AV.okB,Nat.reduceLT,implies_true,evC,yl,z96,hp,h14,hk,Bool.false_or,Bool.false_and,Bool.and_false])
    | true =>
     (refine T.reg (by kernel_rfl) fun K' hK'=>?_;simp only [bz];(repeat' (first|(with_reducible refine WL.fin ?_;apply hK';clear hK' K')|((with_reducible refine WL.step fun K2 hK2=>?_);simp only [simprocAttr,implies_true,amz,zf,tys,evC,h14,hk];(repeat' (first|with_reducible (first|(apply hK2;clear hK2 K2)|apply And.intro|intro hb)|((with_reducible first|apply zl|apply zn);case h=>exact CallV.plain (Ent.of Tryz.func54 (by kernel_rfl) rfl) (hP) (by simp [AV.okB]))|((with_reducible first|apply zl|apply zn);case h=>exact CallV.plain (Ent.of Tryz.func55 (by kernel_rfl) rfl) (hF) (by simp [AV.okB])))))));all_goals ((try simp only [ze,z8,reduceIte,Nat.reduceEqDiff]);(try ((repeat ((fail_if_success apply hK);clear hK K));apply hK;clear hK K))))
     all_goals (refine zi.of' rfl ?_;simp only [wks,reduceIte,Nat.reduceEqDiff,ASt.okB,AV.okB,Nat.reduceLT,implies_true,evC,yl,z96,hp,h14,hk,Bool.false_or,Bool.true_and])
 intro s' hw
 refine hK s' ?_
 refine T.weak hw ?_
 clear hK hw s'
 cases h1:(z5O l x y i j||z96 l x y j) with
 | true =>
  repeat' (first|refine T.zk fun K hK=>?_|apply T.block|(refine T.reg (by kernel_rfl) fun K' hK'=>?_;simp only [bz];(with_reducible repeat' (first|(apply WL.fin;apply hK';clear hK' K')|(refine WL.step fun K2 hK2=>?_;simp only [simprocAttr,implies_true,amz,zf,tys];repeat' (first|(apply hK2;clear hK2 K2)|apply And.intro|intro hb)))))|apply T.skip|apply T.exit|refine T.zh rfl ?_|refine T.zg rfl ?_|refine T.cond rfl (fun hc=>?_) (fun hc=>?_)|apply T.ret|simp only [ze,z8,reduceIte,Nat.reduceEqDiff]|((repeat ((fail_if_success apply hK);clear hK K));apply hK;clear hK K))
  all_goals (refine zP.ret (.inr rfl) Tryz.results36 ?_;simp only [zI,zu,zw,simprocAttr,implies_true,amz,zf,tys,])
  simp [immB,h1]
 | false =>
  cases ho:(x.obj != y.obj) with
  | true =>
   repeat' (first|refine T.zk fun K hK=>?_|apply T.block|(refine T.reg (by kernel_rfl) fun K' hK'=>?_;simp only [bz];(with_reducible repeat' (first|(apply WL.fin;apply hK';clear hK' K')|(refine WL.step fun K2 hK2=>?_;simp only [simprocAttr,implies_true,amz,zf,tys,evC,Bool.not_true,Bool.not_false,bne_self_eq_false,ho];repeat' (first|(apply hK2;clear hK2 K2)|apply And.intro|intro hb)))))|apply T.skip|apply T.exit|refine T.zh rfl ?_|refine T.zg rfl ?_|refine T.cond rfl (fun hc=>?_) (fun hc=>?_)|apply T.ret|simp only [ze,z8,reduceIte,Nat.reduceEqDiff]|((repeat ((fail_if_success apply hK);clear hK K));apply hK;clear hK K))
   all_goals (refine zP.ret (.inr rfl) Tryz.results36 ?_;simp only [zI,zu,zw,simprocAttr,implies_true,amz,zf,tys,];(try simp [immB,kndB,h1,ho]))
  | false =>
   cases hf:(x.off != y.off) with
   | true =>
    repeat' (first|refine T.zk fun K hK=>?_|apply T.block|(refine T.reg (by kernel_rfl) fun K' hK'=>?_;simp only [bz];(with_reducible repeat' (first|(apply WL.fin;apply hK';clear hK' K')|(refine WL.step fun K2 hK2=>?_;simp only [simprocAttr,implies_true,amz,zf,tys,evC,Bool.not_true,Bool.not_false,bne_self_eq_false,ho,hf];repeat' (first|(apply hK2;clear hK2 K2)|apply And.intro|intro hb)))))|apply T.skip|apply T.exit|refine T.zh rfl ?_|refine T.zg rfl ?_|refine T.cond rfl (fun hc=>?_) (fun hc=>?_)|apply T.ret|simp only [ze,z8,reduceIte,Nat.reduceEqDiff]|((repeat ((fail_if_success apply hK);clear hK K));apply hK;clear hK K))
    all_goals (refine zP.ret (.inr rfl) Tryz.results36 ?_;simp only [zI,zu,zw,simprocAttr,implies_true,amz,zf,tys,];(try simp [immB,kndB,h1,ho,hf]))
   | false =>
    have hi:immB l x y i j=kndB l x y i j:=by simp [immB,h1,ho,hf]
    rw [hi]
    cases h15:(x.kind==15) with
    | true =>
     cases y18:(y.kind==18) with
     | true =>
      repeat' (first|refine T.zk fun K hK=>?_|apply T.block|(refine T.reg (by kernel_rfl) fun K' hK'=>?_;simp only [bz];(with_reducible repeat' (first|(apply WL.fin;apply hK';clear hK' K')|(refine WL.step fun K2 hK2=>?_;simp only [simprocAttr,implies_true,amz,zf,tys,evC,Bool.not_true,Bool.not_false,bne_self_eq_false,ho,hf,h15,y18];repeat' (first|(apply hK2;clear hK2 K2)|apply And.intro|intro hb)))))|apply T.skip|apply T.exit|refine T.zh rfl ?_|refine T.zg rfl ?_|refine T.cond rfl (fun hc=>?_) (fun hc=>?_)|apply T.ret|simp only [ze,z8,reduceIte,Nat.reduceEqDiff]|((repeat ((fail_if_success apply hK);clear hK K));apply hK;clear hK K))
      all_goals (refine zP.ret (.inr rfl) Tryz.results36 ?_;simp only [zI,zu,zw,simprocAttr,implies_true,amz,zf,tys,];(try simp [immB,kndB,h1,ho,hf,h15,y18]))
     | false =>
      repeat' (first|refine T.zk fun K hK=>?_|apply T.block|(refine T.reg (by kernel_rfl) fun K' hK'=>?_;simp only [bz];(with_reducible repeat' (first|(apply WL.fin;apply hK';clear hK' K')|(refine WL.step fun K2 hK2=>?_;simp only [simprocAttr,implies_true,amz,zf,tys,evC,Bool.not_true,Bool.not_false,bne_self_eq_false,ho,hf,h15,y18];repeat' (first|(apply hK2;clear hK2 K2)|apply And.intro|intro hb)))))|apply T.skip|apply T.exit|refine T.zh rfl ?_|refine T.zg rfl ?_|refine T.cond rfl (fun hc=>?_) (fun hc=>?_)|apply T.ret|simp only [ze,z8,reduceIte,Nat.reduceEqDiff]|((repeat ((fail_if_success apply hK);clear hK K));apply hK;clear hK K))
      all_goals (refine zP.ret (.inr rfl) Tryz.results36 ?_;simp only [zI,zu,zw,simprocAttr,implies_true,amz,zf,tys,];(try simp [immB,kndB,h1,ho,hf,h15,y18]))
    | false =>
     cases h17:(x.kind==17) with
     | true =>
      cases y16:(y.kind==16) with
      | true =>
       repeat' (first|refine T.zk fun K hK=>?_|apply T.block|(refine T.reg (by kernel_rfl) fun K' hK'=>?_;simp only [bz];(with_reducible repeat' (first|(apply WL.fin;apply hK';clear hK' K')|(refine WL.step fun K2 hK2=>?_;simp only [simprocAttr,implies_true,amz,zf,tys,evC,Bool.not_true,Bool.not_false,bne_self_eq_false,ho,hf,h15,h17,y16];repeat' (first|(apply hK2;clear hK2 K2)|apply And.intro|intro hb)))))|apply T.skip|apply T.exit|refine T.zh rfl ?_|refine T.zg rfl ?_|refine T.cond rfl (fun hc=>?_) (fun hc=>?_)|apply T.ret|simp only [ze,z8,reduceIte,Nat.reduceEqDiff]|((repeat ((fail_if_success apply hK);clear hK K));apply hK;clear hK K))
       all_goals (refine zP.ret (.inr rfl) Tryz.results36 ?_;simp only [zI,zu,zw,simprocAttr,implies_true,amz,zf,tys,];(try simp [immB,kndB,h1,ho,hf,h15,h17,y16]))
      | false =>
       repeat' (first|refine T.zk fun K hK=>?_|apply T.block|(refine T.reg (by kernel_rfl) fun K' hK'=>?_;simp only [bz];(with_reducible repeat' (first|(apply WL.fin;apply hK';clear hK' K')|(refine WL.step fun K2 hK2=>?_;simp only [simprocAttr,implies_true,amz,zf,tys,evC,Bool.not_true,Bool.not_false,bne_self_eq_false,ho,hf,h15,h17,y16];repeat' (first|(apply hK2;clear hK2 K2)|apply And.intro|intro hb)))))|apply T.skip|apply T.exit|refine T.zh rfl ?_|refine T.zg rfl ?_|refine T.cond rfl (fun hc=>?_) (fun hc=>?_)|apply T.ret|simp only [ze,z8,reduceIte,Nat.reduceEqDiff]|((repeat ((fail_if_success apply hK);clear hK K));apply hK;clear hK K))
       all_goals (refine zP.ret (.inr rfl) Tryz.results36 ?_;simp only [zI,zu,zw,simprocAttr,implies_true,amz,zf,tys,];(try simp [immB,kndB,h1,ho,hf,h15,h17,y16]))
     | false =>
      cases h19:(x.kind==19) with
      | true =>
       repeat' (first|refine T.zk fun K hK=>?_|apply T.block|(refine T.reg (by kernel_rfl) fun K' hK'=>?_;simp only [bz];(with_reducible repeat' (first|(apply WL.fin;apply hK';clear hK' K')|(refine WL.step fun K2 hK2=>?_;simp only [simprocAttr,implies_true,amz,zf,tys,evC,Bool.not_true,Bool.not_false,bne_self_eq_false,ho,hf,h15,h17,h19];repeat' (first|(apply hK2;clear hK2 K2)|apply And.intro|intro hb)))))|apply T.skip|apply T.exit|refine T.zh rfl ?_|refine T.zg rfl ?_|refine T.cond rfl (fun hc=>?_) (fun hc=>?_)|apply T.ret|simp only [ze,z8,reduceIte,Nat.reduceEqDiff]|((repeat ((fail_if_success apply hK);clear hK K));apply hK;clear hK K))
       all_goals (refine zP.ret (.inr rfl) Tryz.results36 ?_;simp only [zI,zu,zw,simprocAttr,implies_true,amz,zf,tys,];(try simp [immB,kndB,h1,ho,hf,h15,h17,h19]))
      | false =>
       cases h7:(x.kind==7) with
       | true =>
        cases y6:(y.kind==6) with
        | true =>
         repeat' (first|refine T.zk fun K hK=>?_|apply T.block|(refine T.reg (by kernel_rfl) fun K' hK'=>?_;simp only [bz];(with_reducible repeat' (first|(apply WL.fin;apply hK';clear hK' K')|(refine WL.step fun K2 hK2=>?_;simp only [simprocAttr,implies_true,amz,zf,tys,evC,Bool.not_true,Bool.not_false,bne_self_eq_false,ho,hf,h15,h17,h19,h7,y6];repeat' (first|(apply hK2;clear hK2 K2)|apply And.intro|intro hb)))))|apply T.skip|apply T.exit|refine T.zh rfl ?_|refine T.zg rfl ?_|refine T.cond rfl (fun hc=>?_) (fun hc=>?_)|apply T.ret|simp only [ze,z8,reduceIte,Nat.reduceEqDiff]|((repeat ((fail_if_success apply hK);clear hK K));apply hK;clear hK K))
         all_goals (refine zP.ret (.inr rfl) Tryz.results36 ?_;simp only [zI,zu,zw,simprocAttr,implies_true,amz,zf,tys,];(try simp [immB,kndB,h1,ho,hf,h15,h17,h19,h7,y6]))
        | false =>
         repeat' (first|refine T.zk fun K hK=>?_|apply T.block|(refine T.reg (by kernel_rfl) fun K' hK'=>?_;simp only [bz];(with_reducible repeat' (first|(apply WL.fin;apply hK';clear hK' K')|(refine WL.step fun K2 hK2=>?_;simp only [simprocAttr,implies_true,amz,zf,tys,evC,Bool.not_true,Bool.not_false,bne_self_eq_false,ho,hf,h15,h17,h19,h7,y6];repeat' (first|(apply hK2;clear hK2 K2)|apply And.intro|intro hb)))))|apply T.skip|apply T.exit|refine T.zh rfl ?_|refine T.zg rfl ?_|refine T.cond rfl (fun hc=>?_) (fun hc=>?_)|apply T.ret|simp only [ze,z8,reduceIte,Nat.reduceEqDiff]|((repeat ((fail_if_success apply hK);clear hK K));apply hK;clear hK K))
         all_goals (refine zP.ret (.inr rfl) Tryz.results36 ?_;simp only [zI,zu,zw,simprocAttr,implies_true,amz,zf,tys,];(try simp [immB,kndB,h1,ho,hf,h15,h17,h19,h7,y6]))
       | false =>
        cases h9:(x.kind==9) with
        | true =>
         repeat' (first|refine T.zk fun K hK=>?_|apply T.block|(refine T.reg (by kernel_rfl) fun K' hK'=>?_;simp only [bz];(with_reducible repeat' (first|(apply WL.fin;apply hK';clear hK' K')|(refine WL.step fun K2 hK2=>?_;simp only [simprocAttr,implies_true,amz,zf,tys,evC,Bool.not_true,Bool.not_false,bne_self_eq_false,ho,hf,h15,h17,h19,h7,h9];repeat' (first|(apply hK2;clear hK2 K2)|apply And.intro|intro hb)))))|apply T.skip|apply T.exit|refine T.zh rfl ?_|refine T.zg rfl ?_|refine T.cond rfl (fun hc=>?_) (fun hc=>?_)|apply T.ret|simp only [ze,z8,reduceIte,Nat.reduceEqDiff]|((repeat ((fail_if_success apply hK);clear hK K));apply hK;clear hK K))
         all_goals (refine zP.ret (.inr rfl) Tryz.results36 ?_;simp only [zI,zu,zw,simprocAttr,implies_true,amz,zf,tys,];(try simp [immB,kndB,h1,ho,hf,h15,h17,h19,h7,h9]))
        | false =>
         cases h10:(x.kind==10) with
         | true =>
          repeat' (first|refine T.zk fun K hK=>?_|apply T.block|(refine T.reg (by kernel_rfl) fun K' hK'=>?_;simp only [bz];(with_reducible repeat' (first|(apply WL.fin;apply hK';clear hK' K')|(refine WL.step fun K2 hK2=>?_;simp only [simprocAttr,implies_true,amz,zf,tys,evC,Bool.not_true,Bool.not_false,bne_self_eq_false,ho,hf,h15,h17,h19,h7,h9,h10];repeat' (first|(apply hK2;clear hK2 K2)|apply And.intro|intro hb)))))|apply T.skip|apply T.exit|refine T.zh rfl ?_|refine T.zg rfl ?_|refine T.cond rfl (fun hc=>?_) (fun hc=>?_)|apply T.ret|simp only [ze,z8,reduceIte,Nat.reduceEqDiff]|((repeat ((fail_if_success apply hK);clear hK K));apply hK;clear hK K))
          all_goals (refine zP.ret (.inr rfl) Tryz.results36 ?_;simp only [zI,zu,zw,simprocAttr,implies_true,amz,zf,tys,];(try simp [immB,kndB,h1,ho,hf,h15,h17,h19,h7,h9,h10]))
         | false =>
          cases h12:(x.kind==12) with
          | true =>
           repeat' (first|refine T.zk fun K hK=>?_|apply T.block|(refine T.reg (by kernel_rfl) fun K' hK'=>?_;simp only [bz];(with_reducible repeat' (first|(apply WL.fin;apply hK';clear hK' K')|(refine WL.step fun K2 hK2=>?_;simp only [simprocAttr,implies_true,amz,zf,tys,evC,Bool.not_true,Bool.not_false,bne_self_eq_false,ho,hf,h15,h17,h19,h7,h9,h10,h12];repeat' (first|(apply hK2;clear hK2 K2)|apply And.intro|intro hb)))))|apply T.skip|apply T.exit|refine T.zh rfl ?_|refine T.zg rfl ?_|refine T.cond rfl (fun hc=>?_) (fun hc=>?_)|apply T.ret|simp only [ze,z8,reduceIte,Nat.reduceEqDiff]|((repeat ((fail_if_success apply hK);clear hK K));apply hK;clear hK K))
           all_goals (refine zP.ret (.inr rfl) Tryz.results36 ?_;simp only [zI,zu,zw,simprocAttr,implies_true,amz,zf,tys,];(try simp [immB,kndB,h1,ho,hf,h15,h17,h19,h7,h9,h10,h12]))
          | false =>
           cases h4:(x.kind==4) with
           | true =>
            cases y3:(y.kind==3) with
            | true =>
             repeat' (first|refine T.zk fun K hK=>?_|apply T.block|(refine T.reg (by kernel_rfl) fun K' hK'=>?_;simp only [bz];(repeat' (first|(with_reducible refine WL.fin ?_;apply hK';clear hK' K')|((with_reducible refine WL.step fun K2 hK2=>?_);simp only [simprocAttr,implies_true,amz,zf,tys,evC,Bool.not_true,Bool.not_false,bne_self_eq_false,ho,hf,h15,h17,h19,h7,h9,h10,h12,h4,y3];(repeat' (first|with_reducible (first|(apply hK2;clear hK2 K2)|apply And.intro|intro hb)|((with_reducible first|apply zl|apply zn);case h=>exact CallV.plain (Ent.of Tryz.func56 (by kernel_rfl) rfl) (hA) (by simp [AV.okB]))))))))|apply T.skip|apply T.exit|refine T.zh rfl ?_|refine T.zg rfl ?_|refine T.cond rfl (fun hc=>?_) (fun hc=>?_)|apply T.ret|simp only [ze,z8,reduceIte,Nat.reduceEqDiff]|((repeat ((fail_if_success apply hK);clear hK K));apply hK;clear hK K))
             all_goals (refine zP.ret (.inr rfl) Tryz.results36 ?_;simp only [zI,zu,zw,simprocAttr,implies_true,amz,zf,tys,];(try simp [immB,kndB,h1,ho,hf,h15,h17,h19,h7,h9,h10,h12,h4,y3]))
            | false =>
             cases y5:(y.kind==5) with
             | true =>
              repeat' (first|refine T.zk fun K hK=>?_|apply T.block|(refine T.reg (by kernel_rfl) fun K' hK'=>?_;simp only [bz];(repeat' (first|(with_reducible refine WL.fin ?_;apply hK';clear hK' K')|((with_reducible refine WL.step fun K2 hK2=>?_);simp only [simprocAttr,implies_true,amz,zf,tys,evC,Bool.not_true,Bool.not_false,bne_self_eq_false,ho,hf,h15,h17,h19,h7,h9,h10,h12,h4,y3,y5];(repeat' (first|with_reducible (first|(apply hK2;clear hK2 K2)|apply And.intro|intro hb)|((with_reducible first|apply zl|apply zn);case h=>exact CallV.plain (Ent.of Tryz.func56 (by kernel_rfl) rfl) (hA) (by simp [AV.okB]))))))))|apply T.skip|apply T.exit|refine T.zh rfl ?_|refine T.zg rfl ?_|refine T.cond rfl (fun hc=>?_) (fun hc=>?_)|apply T.ret|simp only [ze,z8,reduceIte,Nat.reduceEqDiff]|((repeat ((fail_if_success apply hK);clear hK K));apply hK;clear hK K))
              all_goals (refine zP.ret (.inr rfl) Tryz.results36 ?_;simp only [zI,zu,zw,simprocAttr,implies_true,amz,zf,tys,];(try simp [immB,kndB,h1,ho,hf,h15,h17,h19,h7,h9,h10,h12,h4,y3,y5]))
             | false =>
              repeat' (first|refine T.zk fun K hK=>?_|apply T.block|(refine T.reg (by kernel_rfl) fun K' hK'=>?_;simp only [bz];(repeat' (first|(with_reducible refine WL.fin ?_;apply hK';clear hK' K')|((with_reducible refine WL.step fun K2 hK2=>?_);simp only [simprocAttr,implies_true,amz,zf,tys,evC,Bool.not_true,Bool.not_false,bne_self_eq_false,ho,hf,h15,h17,h19,h7,h9,h10,h12,h4,y3,y5];(repeat' (first|with_reducible (first|(apply hK2;clear hK2 K2)|apply And.intro|intro hb)|((with_reducible first|apply zl|apply zn);case h=>exact CallV.plain (Ent.of Tryz.func56 (by kernel_rfl) rfl) (hA) (by simp [AV.okB]))))))))|apply T.skip|apply T.exit|refine T.zh rfl ?_|refine T.zg rfl ?_|refine T.cond rfl (fun hc=>?_) (fun hc=>?_)|apply T.ret|simp only [ze,z8,reduceIte,Nat.reduceEqDiff]|((repeat ((fail_if_success apply hK);clear hK K));apply hK;clear hK K))
              all_goals (refine zP.ret (.inr rfl) Tryz.results36 ?_;simp only [zI,zu,zw,simprocAttr,implies_true,amz,zf,tys,];(try simp [immB,kndB,h1,ho,hf,h15,h17,h19,h7,h9,h10,h12,h4,y3,y5]))
           | false =>
            cases h5:(x.kind==5) with
            | true =>
             cases y3:(y.kind==3) with
             | true =>
              repeat' (first|refine T.zk fun K hK=>?_|apply T.block|(refine T.reg (by kernel_rfl) fun K' hK'=>?_;simp only [bz];(repeat' (first|(with_reducible refine WL.fin ?_;apply hK';clear hK' K')|((with_reducible refine WL.step fun K2 hK2=>?_);simp only [simprocAttr,implies_true,amz,zf,tys,evC,Bool.not_true,Bool.not_false,bne_self_eq_false,ho,hf,h15,h17,h19,h7,h9,h10,h12,h4,h5,y3];(repeat' (first|with_reducible (first|(apply hK2;clear hK2 K2)|apply And.intro|intro hb)|((with_reducible first|apply zl|apply zn);case h=>exact CallV.plain (Ent.of Tryz.func56 (by kernel_rfl) rfl) (hA) (by simp [AV.okB]))))))))|apply T.skip|apply T.exit|refine T.zh rfl ?_|refine T.zg rfl ?_|refine T.cond rfl (fun hc=>?_) (fun hc=>?_)|apply T.ret|simp only [ze,z8,reduceIte,Nat.reduceEqDiff]|((repeat ((fail_if_success apply hK);clear hK K));apply hK;clear hK K))
              all_goals (refine zP.ret (.inr rfl) Tryz.results36 ?_;simp only [zI,zu,zw,simprocAttr,implies_true,amz,zf,tys,];(try simp [immB,kndB,h1,ho,hf,h15,h17,h19,h7,h9,h10,h12,h4,h5,y3]))
             | false =>
              cases y5:(y.kind==5) with
              | true =>
               repeat' (first|refine T.zk fun K hK=>?_|apply T.block|(refine T.reg (by kernel_rfl) fun K' hK'=>?_;simp only [bz];(repeat' (first|(with_reducible refine WL.fin ?_;apply hK';clear hK' K')|((with_reducible refine WL.step fun K2 hK2=>?_);simp only [simprocAttr,implies_true,amz,zf,tys,evC,Bool.not_true,Bool.not_false,bne_self_eq_false,ho,hf,h15,h17,h19,h7,h9,h10,h12,h4,h5,y3,y5];(repeat' (first|with_reducible (first|(apply hK2;clear hK2 K2)|apply And.intro|intro hb)|((with_reducible first|apply zl|apply zn);case h=>exact CallV.plain (Ent.of Tryz.func56 (by kernel_rfl) rfl) (hA) (by simp [AV.okB]))))))))|apply T.skip|apply T.exit|refine T.zh rfl ?_|refine T.zg rfl ?_|refine T.cond rfl (fun hc=>?_) (fun hc=>?_)|apply T.ret|simp only [ze,z8,reduceIte,Nat.reduceEqDiff]|((repeat ((fail_if_success apply hK);clear hK K));apply hK;clear hK K))
               all_goals (refine zP.ret (.inr rfl) Tryz.results36 ?_;simp only [zI,zu,zw,simprocAttr,implies_true,amz,zf,tys,];(try simp [immB,kndB,h1,ho,hf,h15,h17,h19,h7,h9,h10,h12,h4,h5,y3,y5]))
              | false =>
               repeat' (first|refine T.zk fun K hK=>?_|apply T.block|(refine T.reg (by kernel_rfl) fun K' hK'=>?_;simp only [bz];(repeat' (first|(with_reducible refine WL.fin ?_;apply hK';clear hK' K')|((with_reducible refine WL.step fun K2 hK2=>?_);simp only [simprocAttr,implies_true,amz,zf,tys,evC,Bool.not_true,Bool.not_false,bne_self_eq_false,ho,hf,h15,h17,h19,h7,h9,h10,h12,h4,h5,y3,y5];(repeat' (first|with_reducible (first|(apply hK2;clear hK2 K2)|apply And.intro|intro hb)|((with_reducible first|apply zl|apply zn);case h=>exact CallV.plain (Ent.of Tryz.func56 (by kernel_rfl) rfl) (hA) (by simp [AV.okB]))))))))|apply T.skip|apply T.exit|refine T.zh rfl ?_|refine T.zg rfl ?_|refine T.cond rfl (fun hc=>?_) (fun hc=>?_)|apply T.ret|simp only [ze,z8,reduceIte,Nat.reduceEqDiff]|((repeat ((fail_if_success apply hK);clear hK K));apply hK;clear hK K))
               all_goals (refine zP.ret (.inr rfl) Tryz.results36 ?_;simp only [zI,zu,zw,simprocAttr,implies_true,amz,zf,tys,];(try simp [immB,kndB,h1,ho,hf,h15,h17,h19,h7,h9,h10,h12,h4,h5,y3,y5]))
            | false =>
             repeat' (first|refine T.zk fun K hK=>?_|apply T.block|(refine T.reg (by kernel_rfl) fun K' hK'=>?_;simp only [bz];(with_reducible repeat' (first|(apply WL.fin;apply hK';clear hK' K')|(refine WL.step fun K2 hK2=>?_;simp only [simprocAttr,implies_true,amz,zf,tys,evC,Bool.not_true,Bool.not_false,bne_self_eq_false,ho,hf,h15,h17,h19,h7,h9,h10,h12,h4,h5];repeat' (first|(apply hK2;clear hK2 K2)|apply And.intro|intro hb)))))|apply T.skip|apply T.exit|refine T.zh rfl ?_|refine T.zg rfl ?_|refine T.cond rfl (fun hc=>?_) (fun hc=>?_)|apply T.ret|simp only [ze,z8,reduceIte,Nat.reduceEqDiff]|((repeat ((fail_if_success apply hK);clear hK K));apply hK;clear hK K))
             all_goals (refine zP.ret (.inr rfl) Tryz.results36 ?_;simp only [zI,zu,zw,simprocAttr,implies_true,amz,zf,tys,];(try simp [immB,kndB,h1,ho,hf,h15,h17,h19,h7,h9,h10,h12,h4,h5]))
end Go.Proofs.YtbkkginjfnjffaaGreatDoor
