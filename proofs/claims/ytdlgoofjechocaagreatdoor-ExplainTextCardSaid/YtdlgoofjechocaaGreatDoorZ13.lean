/- Texts Um, Un, Uo, Up, Uq, Vg. -/
import Derived.Test.YtdlgoofjechocaaGreatDoorZ12
set_option maxHeartbeats 32000000
set_option maxRecDepth 100000
set_option linter.unusedSimpArgs false
set_option linter.unusedVariables false
namespace Go.Proofs.YtdlgoofjechocaaGreatDoor
open Go.RowKit Go.Sort
def rsnN (o:Bool) (ev:List Nat):AV := .agg [.p (.val (.bool o)),.p (.seq 1 (rowI ev))]
theorem chC_snoc {l:List Ev} {j k:Nat} {out:List Nat} {C:List Nat} (h2 : 2≤zU l j k) (h:out++chT l j (zU l j k-1) k=C):(out ++ [nxtC l j k])++chT l j (zU l j (nxtC l j k)-1) (nxtC l j k)=C:=by
 rw [← h,chT_step h2,List.append_assoc];rfl
theorem z5O (l:List Ev) (i j:Int) (hl:l.length≤100000):zx Tryz.prog 7 [.p (.seq 9 (l.map evC)),.int i,.int j] (.tup [rsnN (expO l i j) (expE l i j),.int (expX l i j)]):=by
 have hn:=z4v l i j hl
 have hlm:(l.map evC).length=l.length:=by simp
 cases hp:plcB l i j with
 | false =>
  have e1:expO l i j=false:=by simp [expO,hp]
  have e2:expE l i j = []:=by simp [expE,hp]
  have e3:expX l i j=1:=by simp [expX,hp]
  rw [hp] at hn
  simp only [Bool.false_eq_true,if_false] at hn
  rw [e1,e2,e3]
  refine zx.of Tryz.func7 rfl 80 rfl (by decide) (by simp [AV.okB,rsnN]) ?_
  repeat' (first|refine T.zh fun K hK=>?_|apply T.block|(refine T.reg (by kernel_rfl) fun K' hK'=>?_;simp only [bz];(repeat' (first|(with_reducible refine WL.fin ?_;apply hK';clear hK' K')|((with_reducible refine WL.step fun K2 hK2=>?_);simp only [simprocAttr,az,hlm,Bool.not_false];(repeat' (first|with_reducible (first|(apply hK2;clear hK2 K2)|apply And.intro|intro hb)|((with_reducible first|apply zl|apply zm);case h=>exact CallV.plain (Ent.of Tryz.func17 (by kernel_rfl) rfl) (hn) (by simp [AV.okB]))))))))|apply T.skip|apply T.exit|refine T.zg rfl ?_|refine T.zf rfl ?_|refine T.cond rfl (fun hc=>?_) (fun hc=>?_)|apply T.ret|simp only [zb,za,reduceIte,Nat.reduceEqDiff]|((repeat ((fail_if_success apply hK);clear hK K));apply hK;clear hK K))
  refine zH.retW (.inr rfl) Tryz.results7 (s':=⟨[(6,.ptr 0 0),(7,.int 1)],[(0,.boxP none 25 [.bool false,.p (.seq 1 [])])],80,1⟩) (zk.trans (zk.boxle _ 0 none 25 _ [.bool false,.p (.seq 1 [])] rfl rfl fun j x hx=>?_) (by refine zk.of' rfl ?_;simp only [wks,reduceIte,Nat.reduceEqDiff,ASt.okB,AV.okB,Nat.reduceLT,implies_true,zF,List.map_cons,List.map_nil])) ?_
  ·rcases j with _|_|j <;> cases hx <;> first|exact ⟨_,rfl,AVle.refl _⟩|exact ⟨_,rfl,AVle.nil _⟩
  ·simp only [zw,zt,zq,simprocAttr,az,rsnN,rowI,List.map_nil]
 | true =>
  have hpp:=z2K.1 hp
  obtain ⟨I,rfl⟩ : ∃ I:Nat,i=I:=⟨i.toNat,by have:=hpp.2.1;omega⟩
  obtain ⟨J,rfl⟩ : ∃ J:Nat,j=J:=⟨j.toNat,by have:=hpp.2.1;have:=hpp.2.2.1;omega⟩
  have hIJ:I<J:=by have:=hpp.2.2.1;omega
  have hJl:J<l.length:=by have:=hpp.2.2.2;omega
  have e3:expX l I J=0:=by simp [expX,hp]
  rw [hp] at hn
  simp only [if_true] at hn
  rw [e3]
  have hd:=dist_ok l I J hl hIJ hJl
  have hI0:(0:Int)≤(I:Int):=by omega
  have hIl:I<l.length:=by omega
  refine zx.of Tryz.func7 rfl 80 rfl (by decide) (by simp [AV.okB,rsnN]) ?_
  repeat' (first|refine T.zh fun K hK=>?_|apply T.block|apply T.skip|apply T.exit|refine T.zg rfl ?_|refine T.zf rfl ?_|refine T.cond rfl (fun hc=>?_) (fun hc=>?_)|apply T.ret|simp only [zb,za,reduceIte,Nat.reduceEqDiff]|((repeat ((fail_if_success apply hK);clear hK K));apply hK;clear hK K))
  (refine T.reg (by kernel_rfl) fun K' hK'=>?_;simp only [bz];(with_reducible repeat' (first|(apply WL.fin;apply hK';clear hK' K')|(refine WL.step fun K2 hK2=>?_;simp only [simprocAttr,az];repeat' (first|(apply hK2;clear hK2 K2)|apply And.intro|intro hb))));all_goals ((try simp only [zb,za,reduceIte,Nat.reduceEqDiff]);(try ((repeat ((fail_if_success apply hK);clear hK K));apply hK;clear hK K))))
  repeat' (first|refine T.zh fun K hK=>?_|apply T.block|apply T.skip|apply T.exit|refine T.zg rfl ?_|refine T.zf rfl ?_|refine T.cond rfl (fun hc=>?_) (fun hc=>?_)|apply T.ret|simp only [zb,za,reduceIte,Nat.reduceEqDiff]|((repeat ((fail_if_success apply hK);clear hK K));apply hK;clear hK K))
  (refine T.reg (by kernel_rfl) fun K' hK'=>?_;simp only [bz];(repeat' (first|(with_reducible refine WL.fin ?_;apply hK';clear hK' K')|((with_reducible refine WL.step fun K2 hK2=>?_);simp only [simprocAttr,az,hlm];(repeat' (first|with_reducible (first|(apply hK2;clear hK2 K2)|apply And.intro|intro hb)|((with_reducible first|apply zl|apply zm);case h=>exact CallV.plain (Ent.of Tryz.func17 (by kernel_rfl) rfl) (hn) (by simp [AV.okB])))))));all_goals ((try simp only [zb,za,reduceIte,Nat.reduceEqDiff]);(try ((repeat ((fail_if_success apply hK);clear hK K));apply hK;clear hK K))))
  repeat' (first|refine T.zh fun K hK=>?_|apply T.block|apply T.skip|apply T.exit|refine T.zg rfl ?_|refine T.zf rfl ?_|refine T.cond rfl (fun hc=>?_) (fun hc=>?_)|apply T.ret|simp only [zb,za,reduceIte,Nat.reduceEqDiff]|((repeat ((fail_if_success apply hK);clear hK K));apply hK;clear hK K))
  (refine T.reg (by kernel_rfl) fun K' hK'=>?_;simp only [bz];(with_reducible repeat' (first|(apply WL.fin;apply hK';clear hK' K')|(refine WL.step fun K2 hK2=>?_;simp only [simprocAttr,az,Bool.not_true];repeat' (first|(apply hK2;clear hK2 K2)|apply And.intro|intro hb))));all_goals ((try simp only [zb,za,reduceIte,Nat.reduceEqDiff]);(try ((repeat ((fail_if_success apply hK);clear hK K));apply hK;clear hK K))))
  repeat' (first|refine T.zh fun K hK=>?_|apply T.block|apply T.skip|apply T.exit|refine T.zg rfl ?_|refine T.zf rfl ?_|refine T.cond rfl (fun hc=>?_) (fun hc=>?_)|apply T.ret|simp only [zb,za,reduceIte,Nat.reduceEqDiff]|((repeat ((fail_if_success apply hK);clear hK K));apply hK;clear hK K))
  (refine T.reg (by kernel_rfl) fun K' hK'=>?_;simp only [bz];(repeat' (first|(with_reducible refine WL.fin ?_;apply hK';clear hK' K')|((with_reducible refine WL.step fun K2 hK2=>?_);simp only [simprocAttr,az,hI0];(repeat' (first|with_reducible (first|(apply hK2;clear hK2 K2)|apply And.intro|intro hb)|((with_reducible refine zM 0 _ _ [] (Ent.of Tryz.func18 (by kernel_rfl) rfl) (hd) ?_ ?_ ?_);(focus ((refine ⟨Nat.le_of_ble_eq_true rfl,?_,?_⟩ <;> simp only [pz,reduceIte,Nat.reduceEqDiff,AV.okB,Nat.reduceLT,]);done));(focus (simp [AV.okB];done));rintro hp' r ⟨rfl,g,hg,rfl⟩;refine ⟨by simp,?_⟩;simp only [cz,ASt.zR,AO.keep,Nat.reduceLeDiff,reduceIte,Nat.reduceEqDiff,]))))));all_goals ((try simp only [zb,za,reduceIte,Nat.reduceEqDiff]);(try ((repeat ((fail_if_success apply hK);clear hK K));apply hK;clear hK K))))
  repeat' (first|refine T.zh fun K hK=>?_|apply T.block|apply T.skip|apply T.exit|refine T.zg rfl ?_|refine T.zf rfl ?_|refine T.cond rfl (fun hc=>?_) (fun hc=>?_)|apply T.ret|simp only [zb,za,reduceIte,Nat.reduceEqDiff]|((repeat ((fail_if_success apply hK);clear hK K));apply hK;clear hK K))
  clear hd hn
  obtain ⟨n,hnl⟩ : ∃ n,n=l.length:=⟨_,rfl⟩
  have hgi:=hg.hit
  have haP:=fun k (h:k<l.length)=>aftP_at (l:=l) h
  have haL:=aftP_len l
  by_cases hv : 0<zU l J I
  ·have e1:expO l I J=true:=by simp [expO,hp,hv]
   have e2:expE l I J=chC l I J:=by simp [expE,hp,hv]
   have hgp : 0<g I:=by rw [hgi];exact hv
   have hd1:decide (dsF g I<0)=false:=decide_eq_false (by simp only [dsF];omega)
   rw [e1,e2]
   have hm1 : 1≤maxLen:=by unfold maxLen;omega
   have hcl:=chC_len hv
   have hvl:=z5n (l:=l) (j:=J) (d:=J-I) (k:=I) (Nat.le_refl _) (Nat.le_of_lt hIJ)
   (refine T.reg (by kernel_rfl) fun K' hK'=>?_;simp only [bz];(with_reducible repeat' (first|(apply WL.fin;apply hK';clear hK' K')|(refine WL.step fun K2 hK2=>?_;simp only [simprocAttr,az,hI0,hIl,Int.toNat_natCast,z0f,z0w _ hIl,hd1];repeat' (first|(apply hK2;clear hK2 K2)|apply And.intro|intro hb))));all_goals ((try simp only [zb,za,reduceIte,Nat.reduceEqDiff]);(try ((repeat ((fail_if_success apply hK);clear hK K));apply hK;clear hK K))))
   repeat' (first|refine T.zh fun K hK=>?_|apply T.block|apply T.skip|apply T.exit|refine T.zg rfl ?_|refine T.zf rfl ?_|refine T.cond rfl (fun hc=>?_) (fun hc=>?_)|apply T.ret|simp only [zb,za,reduceIte,Nat.reduceEqDiff]|((repeat ((fail_if_success apply hK);clear hK K));apply hK;clear hK K))
   refine T.regO (d1 := 54) (d2 := 55) (av := .int I) 23 1 #[(0,.tmp 54)] 3 1 8 [[.val (.int .i64 I)]] (by kernel_rfl) rfl rfl rfl rfl (show 54<80 by decide) (show 55<80 by decide) ?_ rfl ?_ ?_ fun K' hK'=>?_
   ·simp only [List.map_cons,List.map_nil,simprocAttr,az]
   ·simp only [List.map_cons,List.map_nil,hm1,simprocAttr,az]
   ·simp only [tys]
   simp only [z0R,frOf,List.map_cons,List.map_nil,ASt.add,qJ,Nat.reduceAdd]
   (repeat' (first|(with_reducible refine WL.fin ?_;apply hK';clear hK' K')|(with_reducible refine WD.fin ?_)|((with_reducible first|refine WL.step fun K2 hK2=>?_|refine WD.step fun K2 hK2=>?_);simp only [simprocAttr,az];(repeat' with_reducible (first|(apply hK2;clear hK2 K2)|apply And.intro|intro hb)))))
   all_goals ((try simp only [zb,za,reduceIte,Nat.reduceEqDiff]);(try ((repeat ((fail_if_success apply hK);clear hK K));apply hK;clear hK K)))
   repeat' (first|refine T.zh fun K hK=>?_|apply T.block|apply T.skip|apply T.exit|refine T.zg rfl ?_|refine T.zf rfl ?_|refine T.cond rfl (fun hc=>?_) (fun hc=>?_)|apply T.ret|simp only [zb,za,reduceIte,Nat.reduceEqDiff]|((repeat ((fail_if_success apply hK);clear hK K));apply hK;clear hK K))
   (refine T.reg (by kernel_rfl) fun K' hK'=>?_;simp only [bz];(with_reducible repeat' (first|(apply WL.fin;apply hK';clear hK' K')|(refine WL.step fun K2 hK2=>?_;simp only [simprocAttr,az];repeat' (first|(apply hK2;clear hK2 K2)|apply And.intro|intro hb))));all_goals ((try simp only [zb,za,reduceIte,Nat.reduceEqDiff]);(try ((repeat ((fail_if_success apply hK);clear hK K));apply hK;clear hK K))))
   repeat' (first|refine T.zh fun K hK=>?_|apply T.block|apply T.skip|apply T.exit|refine T.zg rfl ?_|refine T.zf rfl ?_|refine T.cond rfl (fun hc=>?_) (fun hc=>?_)|apply T.ret|simp only [zb,za,reduceIte,Nat.reduceEqDiff]|((repeat ((fail_if_success apply hK);clear hK K));apply hK;clear hK K))
   refine T.weak (zk.dat _ 1 none 23 [.seq 1 (rowF l.length (dsF g))] rfl) ?_;simp only [AV.z7Q,AV.z8j,AV.z8Y,AV.dat_pre,AV.dat_p,AV.dat_elt,AV.z9u,AV.z95,AV.dat_fn,AV.dat_agg,AV.dat_tup,AO.dat,List.map_cons,List.map_nil,List.filter_cons,List.filter_nil,bne_self_eq_false,Nat.reduceBneDiff,Bool.false_eq_true,reduceIte,Nat.reduceEqDiff,]
   refine T.weak (zk.upN _ 10 (by simp)) ?_
   refine T.weak (zk.ren _ 0 5) ?_;simp only [ASt.ren,AV.ql,AV.qZ,AV.qH,AV.z0n,AV.z1Q,AV.z0k,AV.qI,AV.qG,AV.z1a,AV.z0m,AV.z0l,AO.z0t,AO.qK,AO.z0C,AO.z0z,List.map_cons,List.map_nil,List.filter_cons,List.filter_nil,zy,qP,reduceIte,Nat.reduceEqDiff,Nat.reduceLT,Nat.reduceBneDiff,bne_self_eq_false,Bool.and_true,Bool.and_false,Bool.true_and,Bool.false_and,Bool.and_self,Bool.false_eq_true,ne_eq,not_false_eq_true,not_true_eq_false,and_self,and_true,true_and,and_false,]
   refine T.weak (zk.ren _ 3 0) ?_;simp only [ASt.ren,AV.ql,AV.qZ,AV.qH,AV.z0n,AV.z1Q,AV.z0k,AV.qI,AV.qG,AV.z1a,AV.z0m,AV.z0l,AO.z0t,AO.qK,AO.z0C,AO.z0z,List.map_cons,List.map_nil,List.filter_cons,List.filter_nil,zy,qP,reduceIte,Nat.reduceEqDiff,Nat.reduceLT,Nat.reduceBneDiff,bne_self_eq_false,Bool.and_true,Bool.and_false,Bool.true_and,Bool.false_and,Bool.and_self,Bool.false_eq_true,ne_eq,not_false_eq_true,not_true_eq_false,and_self,and_true,true_and,and_false,]
   refine T.qC (fun p:Nat × List Nat=>⟨[(2,.int J),(6,.ptr 5 0),(9,.p (.seq 1 (aftP l))),(11,.elt [.seq 1 (rowF l.length (dsF g))] 0),(14,.own 2),(15,.ptr 0 0)],[(0,.boxP none 3 [.int p.1]),(2,.row 3 1 (rowI p.2)),(5,.boxP none 25 [.bool false,.p (.val nilV)])],80,10⟩)
    (fun p => 1≤zU l J p.1∧(p.1=I∨zU l J p.1<g I)∧p.2++chT l J (zU l J p.1-1) p.1=chC l I J∧p.1≤J) (fun p=>zU l J p.1) (I,[I]) ⟨hv,.inl rfl,rfl,Nat.le_of_lt hIJ⟩ (by refine zk.of' rfl ?_;simp only [wks,reduceIte,Nat.reduceEqDiff,ASt.okB,AV.okB,Nat.reduceLT,implies_true,rowI,List.map_cons,List.map_nil]) ?_
   rintro ⟨k,out⟩ ⟨hk1,hkg0,hch,hkJ⟩ KL hKL
   simp only at hk1 hkg0 hch hkJ hKL ⊢
   have hkg:zU l J k≤g I:=by
    rcases hkg0 with e|e
    ·rw [e,hgi];exact Nat.le_refl _
    ·omega
   have hol:out.length≤200000:=by
    have:=congrArg List.length hch
    rw [List.length_append,hcl] at this
    omega
   by_cases hkj:k=J
   ·have hd2:((k:Int) != (J:Int))=false:=by rw [hkj];simp
    have hout:out=chC l I J:=by
     rw [← hch,hkj,z1n];simp [chT]
    repeat' (first|refine T.zh fun K hK=>?_|apply T.block|apply T.skip|apply T.exit|refine T.zg rfl ?_|refine T.zf rfl ?_|refine T.cond rfl (fun hc=>?_) (fun hc=>?_)|apply T.ret|simp only [zb,za,reduceIte,Nat.reduceEqDiff]|((repeat ((fail_if_success apply hK);clear hK K));apply hK;clear hK K))
    (refine T.reg (by kernel_rfl) fun K' hK'=>?_;simp only [bz];(with_reducible repeat' (first|(apply WL.fin;apply hK';clear hK' K')|(refine WL.step fun K2 hK2=>?_;simp only [simprocAttr,az,hd2];repeat' (first|(apply hK2;clear hK2 K2)|apply And.intro|intro hb))));all_goals ((try simp only [zb,za,reduceIte,Nat.reduceEqDiff]);(try ((repeat ((fail_if_success apply hK);clear hK K));apply hK;clear hK K))))
    repeat' (first|refine T.zh fun K hK=>?_|apply T.block|apply T.skip|apply T.exit|refine T.zg rfl ?_|refine T.zf rfl ?_|refine T.cond rfl (fun hc=>?_) (fun hc=>?_)|apply T.ret|simp only [zb,za,reduceIte,Nat.reduceEqDiff]|((repeat ((fail_if_success apply hK);clear hK K));apply hK;clear hK K))
    refine T.weak (zk.frz _ 2) ?_;simp only [ASt.frz,List.filter_cons,List.filter_nil,bne_self_eq_false,Nat.reduceBneDiff,Bool.false_eq_true,simprocAttr,implies_true,amz,]
    repeat' (first|refine T.zh fun K hK=>?_|apply T.block|(refine T.reg (by kernel_rfl) fun K' hK'=>?_;simp only [bz];(with_reducible repeat' (first|(apply WL.fin;apply hK';clear hK' K')|(refine WL.step fun K2 hK2=>?_;simp only [simprocAttr,az];repeat' (first|(apply hK2;clear hK2 K2)|apply And.intro|intro hb)))))|apply T.skip|apply T.exit|refine T.zg rfl ?_|refine T.zf rfl ?_|refine T.cond rfl (fun hc=>?_) (fun hc=>?_)|apply T.ret|simp only [zb,za,reduceIte,Nat.reduceEqDiff]|((repeat ((fail_if_success apply hK);clear hK K));apply hK;clear hK K))
    refine zH.ret (.inr rfl) Tryz.results7 ?_;simp only [zw,zt,zq,simprocAttr,az,hout,rsnN,e1,e2]
   ·have hd2:((k:Int) != (J:Int))=true:=by simp;omega
    have h2 : 2≤zU l J k:=by
     by_cases e:zU l J k=1
     ·exact absurd (z6p e) hkj
     ·omega
    have hgk:g k=zU l J k:=by
     rcases hkg0 with e|e
     ·rw [e];exact hgi
     ·obtain ⟨v,hv2⟩ : ∃ v,zU l J k=v+1:=⟨zU l J k-1,by omega⟩
      have:=z09 l J k
      rw [hv2] at this
      rw [hv2];exact hg.yes hgp k v (by omega) this
    obtain ⟨q,hq1,hq2⟩:=ix_next hg hgk hkg h2 hJl hl
    have hkl:k<l.length:=by omega
    have haP:=haP k hkl
    have hk0:(0:Int)≤(k:Int):=by omega
    have hq0:(0:Int)≤(q:Int):=by omega
    have m1:=z3p hq2
    have hlen:(aftL l k).length≤l.length:=z8b _ _
    have hmem : ∀ a ∈ aftL l k,a<l.length:=fun a ha=>by
     simp only [aftL,rgF,List.mem_filter,List.mem_range] at ha
     exact ha.1
    have hn1:=z3j h2
    have hn2:=z7e h2
    have hsn:=chC_snoc h2 hch
    generalize nxtC l J k=y at m1 hn1 hn2 hsn
    have hrs:=z1k out y
    have hb3:(rowI out).length+1≤maxLen:=by rw [z04];unfold maxLen;omega
    have hb4:((rowI out).length+1)*8≤140737488355328:=by rw [z04];omega
    repeat' (first|refine T.zh fun K hK=>?_|apply T.block|apply T.skip|apply T.exit|refine T.zg rfl ?_|refine T.zf rfl ?_|refine T.cond rfl (fun hc=>?_) (fun hc=>?_)|apply T.ret|simp only [zb,za,reduceIte,Nat.reduceEqDiff]|((repeat ((fail_if_success apply hK);clear hK K));apply hK;clear hK K))
    (refine T.reg (by kernel_rfl) fun K' hK'=>?_;simp only [bz];(with_reducible repeat' (first|(apply WL.fin;apply hK';clear hK' K')|(refine WL.step fun K2 hK2=>?_;simp only [simprocAttr,az,hd2];repeat' (first|(apply hK2;clear hK2 K2)|apply And.intro|intro hb))));all_goals ((try simp only [zb,za,reduceIte,Nat.reduceEqDiff]);(try ((repeat ((fail_if_success apply hK);clear hK K));apply hK;clear hK K))))
    repeat' (first|refine T.zh fun K hK=>?_|apply T.block|apply T.skip|apply T.exit|refine T.zg rfl ?_|refine T.zf rfl ?_|refine T.cond rfl (fun hc=>?_) (fun hc=>?_)|apply T.ret|simp only [zb,za,reduceIte,Nat.reduceEqDiff]|((repeat ((fail_if_success apply hK);clear hK K));apply hK;clear hK K))
    refine T.pin 0 _ rfl fun bb=>?_;simp only [zF,AO.pin,List.map_cons,List.map_nil,reduceIte,Nat.reduceEqDiff]
    have hix:=indexF_ok bb l.length k (dsF g) (aftL l k) hmem hkl (by omega)
    rw [hq1] at hix
    (refine T.reg (by kernel_rfl) fun K' hK'=>?_;simp only [bz];(repeat' (first|(with_reducible refine WL.fin ?_;apply hK';clear hK' K')|((with_reducible refine WL.step fun K2 hK2=>?_);simp only [simprocAttr,az,hk0,Int.toNat_natCast,haP];(repeat' (first|with_reducible (first|(apply hK2;clear hK2 K2)|apply And.intro|intro hb)|((with_reducible refine zM 1 _ _ [0] (Ent.of Tryz.func19 (by kernel_rfl) rfl) (hix) ?_ ?_ ?_);(focus ((refine ⟨Nat.le_of_ble_eq_true rfl,?_,?_⟩ <;> simp only [pz,reduceIte,Nat.reduceEqDiff,AV.okB,Nat.reduceLT,]);done));(focus (simp [AV.okB];done));rintro hp' r ⟨rfl,rfl⟩;refine ⟨by simp [Kept,zy,AO.handle],?_⟩;simp only [cz,ASt.zR,AO.keep,Nat.reduceLeDiff,reduceIte,Nat.reduceEqDiff,]))))));all_goals ((try simp only [zb,za,reduceIte,Nat.reduceEqDiff]);(try ((repeat ((fail_if_success apply hK);clear hK K));apply hK;clear hK K))))
    repeat' (first|refine T.zh fun K hK=>?_|apply T.block|apply T.skip|apply T.exit|refine T.zg rfl ?_|refine T.zf rfl ?_|refine T.cond rfl (fun hc=>?_) (fun hc=>?_)|apply T.ret|simp only [zb,za,reduceIte,Nat.reduceEqDiff]|((repeat ((fail_if_success apply hK);clear hK K));apply hK;clear hK K))
    (refine T.reg (by kernel_rfl) fun K' hK'=>?_;simp only [bz];(with_reducible repeat' (first|(apply WL.fin;apply hK';clear hK' K')|(refine WL.step fun K2 hK2=>?_;simp only [simprocAttr,az,hk0,hq0,Int.toNat_natCast,haP,m1];repeat' (first|(apply hK2;clear hK2 K2)|apply And.intro|intro hb))));all_goals ((try simp only [zb,za,reduceIte,Nat.reduceEqDiff]);(try ((repeat ((fail_if_success apply hK);clear hK K));apply hK;clear hK K))))
    repeat' (first|refine T.zh fun K hK=>?_|apply T.block|apply T.skip|apply T.exit|refine T.zg rfl ?_|refine T.zf rfl ?_|refine T.cond rfl (fun hc=>?_) (fun hc=>?_)|apply T.ret|simp only [zb,za,reduceIte,Nat.reduceEqDiff]|((repeat ((fail_if_success apply hK);clear hK K));apply hK;clear hK K))
    (refine T.reg (by kernel_rfl) fun K' hK'=>?_;simp only [bz];(with_reducible repeat' (first|(apply WL.fin;apply hK';clear hK' K')|(refine WL.step fun K2 hK2=>?_;simp only [simprocAttr,az,hm1,hb3,hb4,hrs,List.length_cons,List.length_nil,Nat.zero_add];repeat' (first|(apply hK2;clear hK2 K2)|apply And.intro|intro hb))));all_goals ((try simp only [zb,za,reduceIte,Nat.reduceEqDiff]);(try ((repeat ((fail_if_success apply hK);clear hK K));apply hK;clear hK K))))
    repeat' (first|refine T.zh fun K hK=>?_|apply T.block|(refine T.reg (by kernel_rfl) fun K' hK'=>?_;simp only [bz];(with_reducible repeat' (first|(apply WL.fin;apply hK';clear hK' K')|(refine WL.step fun K2 hK2=>?_;simp only [simprocAttr,az];repeat' (first|(apply hK2;clear hK2 K2)|apply And.intro|intro hb)))))|apply T.skip|apply T.exit|refine T.zg rfl ?_|refine T.zf rfl ?_|refine T.cond rfl (fun hc=>?_) (fun hc=>?_)|apply T.ret|simp only [zb,za,reduceIte,Nat.reduceEqDiff]|((repeat ((fail_if_success apply hK);clear hK K));apply hK;clear hK K))
    refine hKL _ (y,out ++ [y]) ?_ ⟨by simp only;omega,.inr (by simp only;omega),hsn,hn2⟩ (by simp only;omega)
    exact (zk.ren _ 10 0).trans (by refine zk.of' rfl ?_;simp only [wks,reduceIte,Nat.reduceEqDiff,ASt.okB,AV.okB,Nat.reduceLT,implies_true,ASt.ren,AV.ql,AV.qZ,AV.qH,AV.z0n,AV.z1Q,AV.z0k,AV.qI,AV.qG,AV.z1a,AV.z0m,AV.z0l,AO.z0t,AO.qK,AO.z0C,AO.z0z,List.map_cons,List.map_nil,List.filter_cons,List.filter_nil,zy,qP,Nat.reduceBneDiff,bne_self_eq_false,Bool.and_false,Bool.false_and,Bool.false_eq_true,ne_eq,not_false_eq_true,not_true_eq_false,and_self,and_false,])
  ·have e1:expO l I J=false:=by simp [expO,hp,hv]
   have e2:expE l I J=z4j l J:=by simp [expE,hp,hv]
   have hg0:g I=0:=by omega
   have hd1:decide (dsF g I<0)=true:=decide_eq_true (by simp only [dsF];omega)
   rw [e1,e2]
   repeat' (first|refine T.zh fun K hK=>?_|apply T.block|(refine T.reg (by kernel_rfl) fun K' hK'=>?_;simp only [bz];(with_reducible repeat' (first|(apply WL.fin;apply hK';clear hK' K')|(refine WL.step fun K2 hK2=>?_;simp only [simprocAttr,az,hI0,hIl,Int.toNat_natCast,z0f,z0w _ hIl,hd1,hlm];repeat' (first|(apply hK2;clear hK2 K2)|apply And.intro|intro hb)))))|apply T.skip|apply T.exit|refine T.zg rfl ?_|refine T.zf rfl ?_|refine T.cond rfl (fun hc=>?_) (fun hc=>?_)|apply T.ret|simp only [zb,za,reduceIte,Nat.reduceEqDiff]|((repeat ((fail_if_success apply hK);clear hK K));apply hK;clear hK K))
   have hcn:z4j l J=rgF (fun a=>decide (0<g a)) l.length:=by
    rw [← cone_eq,cone_rgF hpp.1 hJl]
    refine z3P fun a ha=>?_
    rw [z4H hJl,hg.cone hg0]
   refine T.weak (zk.z7c _ 12 3 1 (show 12<80 by decide) rfl) ?_;simp only [ASt.add,qJ,Nat.reduceAdd]
   refine T.qC (fun k:Nat=>⟨[(0,.p (.seq 9 (l.map evC))),(6,.ptr 0 0),(11,.ptr 1 0),(12,.own 2),(38,.int l.length),(39,.int k)],[(2,.row 3 1 (rowI (rgF (fun a=>decide (0<g a)) k))),(1,.boxP none 23 [.p (.seq 1 (rowF l.length (dsF g)))]),(0,.boxP none 25 [.bool false,.p (.val nilV)])],80,3⟩) (fun k=>k≤l.length) (fun k=>l.length-k) 0 (Nat.zero_le _) (by refine zk.of' rfl ?_;simp only [wks,reduceIte,Nat.reduceEqDiff,ASt.okB,AV.okB,Nat.reduceLT,implies_true,Int.natCast_zero,z98,nilI]) ?_
   intro k hk KL hKL
   by_cases hkn:k<l.length
   ·have hd:decide ((k:Int)<(l.length:Int))=true:=by simpa using hkn
    have hk0:(0:Int)≤(k:Int):=by omega
    have hsc:=z1c (fun a=>decide (0<g a)) k
    have hrl:=z8b (fun a=>decide (0<g a)) k
    cases hgk:decide (0<g k) with
    | true =>
     have hd2:decide ((0:Int)≤dsF g k)=true:=decide_eq_true (by have:=of_decide_eq_true hgk;simp only [dsF];omega)
     rw [hgk,if_pos rfl] at hsc
     have hm1 : 1≤maxLen:=by unfold maxLen;omega
     have hb3:(rowI (rgF (fun a=>decide (0<g a)) k)).length+1≤maxLen:=by rw [z04];unfold maxLen;omega
     have hb4:((rowI (rgF (fun a=>decide (0<g a)) k)).length+1)*8≤140737488355328:=by rw [z04];omega
     have hrs:=z1k (rgF (fun a=>decide (0<g a)) k) k
     repeat' (first|refine T.zh fun K hK=>?_|apply T.block|(refine T.reg (by kernel_rfl) fun K' hK'=>?_;simp only [bz];(with_reducible repeat' (first|(apply WL.fin;apply hK';clear hK' K')|(refine WL.step fun K2 hK2=>?_;simp only [simprocAttr,az,hd,hk0,Int.toNat_natCast,z0f,hkn,z0w _ hkn,hd2,hm1,hb3,hb4,hrs,List.length_cons,List.length_nil,Nat.zero_add];repeat' (first|(apply hK2;clear hK2 K2)|apply And.intro|intro hb)))))|apply T.skip|apply T.exit|refine T.zg rfl ?_|refine T.zf rfl ?_|refine T.cond rfl (fun hc=>?_) (fun hc=>?_)|apply T.ret|simp only [zb,za,reduceIte,Nat.reduceEqDiff]|((repeat ((fail_if_success apply hK);clear hK K));apply hK;clear hK K))
     refine hKL _ (k+1) ?_ hkn (by omega)
     rw [hsc]
     refine zk.of' rfl ?_;simp only [wks,reduceIte,Nat.reduceEqDiff,ASt.okB,AV.okB,Nat.reduceLT,implies_true,zu (show k<1152921504606846976 by omega)]
    | false =>
     have hd2:decide ((0:Int)≤dsF g k)=false:=decide_eq_false (by have:=of_decide_eq_false hgk;simp only [dsF];omega)
     rw [hgk,if_neg (by simp),List.append_nil] at hsc
     repeat' (first|refine T.zh fun K hK=>?_|apply T.block|(refine T.reg (by kernel_rfl) fun K' hK'=>?_;simp only [bz];(with_reducible repeat' (first|(apply WL.fin;apply hK';clear hK' K')|(refine WL.step fun K2 hK2=>?_;simp only [simprocAttr,az,hd,hk0,Int.toNat_natCast,z0f,hkn,z0w _ hkn,hd2];repeat' (first|(apply hK2;clear hK2 K2)|apply And.intro|intro hb)))))|apply T.skip|apply T.exit|refine T.zg rfl ?_|refine T.zf rfl ?_|refine T.cond rfl (fun hc=>?_) (fun hc=>?_)|apply T.ret|simp only [zb,za,reduceIte,Nat.reduceEqDiff]|((repeat ((fail_if_success apply hK);clear hK K));apply hK;clear hK K))
     refine hKL _ (k+1) ?_ hkn (by omega)
     rw [hsc]
     refine zk.of' rfl ?_;simp only [wks,reduceIte,Nat.reduceEqDiff,ASt.okB,AV.okB,Nat.reduceLT,implies_true,zu (show k<1152921504606846976 by omega)]
   ·have hd:decide ((k:Int)<(l.length:Int))=false:=by simpa using hkn
    have hke:k=l.length:=by omega
    repeat' (first|refine T.zh fun K hK=>?_|apply T.block|apply T.skip|apply T.exit|refine T.zg rfl ?_|refine T.zf rfl ?_|refine T.cond rfl (fun hc=>?_) (fun hc=>?_)|apply T.ret|simp only [zb,za,reduceIte,Nat.reduceEqDiff]|((repeat ((fail_if_success apply hK);clear hK K));apply hK;clear hK K))
    (refine T.reg (by kernel_rfl) fun K' hK'=>?_;simp only [bz];(with_reducible repeat' (first|(apply WL.fin;apply hK';clear hK' K')|(refine WL.step fun K2 hK2=>?_;simp only [simprocAttr,az,hd];repeat' (first|(apply hK2;clear hK2 K2)|apply And.intro|intro hb))));all_goals ((try simp only [zb,za,reduceIte,Nat.reduceEqDiff]);(try ((repeat ((fail_if_success apply hK);clear hK K));apply hK;clear hK K))))
    repeat' (first|refine T.zh fun K hK=>?_|apply T.block|apply T.skip|apply T.exit|refine T.zg rfl ?_|refine T.zf rfl ?_|refine T.cond rfl (fun hc=>?_) (fun hc=>?_)|apply T.ret|simp only [zb,za,reduceIte,Nat.reduceEqDiff]|((repeat ((fail_if_success apply hK);clear hK K));apply hK;clear hK K))
    refine T.weak (zk.frz _ 2) ?_;simp only [ASt.frz,List.filter_cons,List.filter_nil,bne_self_eq_false,Nat.reduceBneDiff,Bool.false_eq_true,simprocAttr,implies_true,amz,]
    rw [hke]
    repeat' (first|refine T.zh fun K hK=>?_|apply T.block|(refine T.reg (by kernel_rfl) fun K' hK'=>?_;simp only [bz];(with_reducible repeat' (first|(apply WL.fin;apply hK';clear hK' K')|(refine WL.step fun K2 hK2=>?_;simp only [simprocAttr,az];repeat' (first|(apply hK2;clear hK2 K2)|apply And.intro|intro hb)))))|apply T.skip|apply T.exit|refine T.zg rfl ?_|refine T.zf rfl ?_|refine T.cond rfl (fun hc=>?_) (fun hc=>?_)|apply T.ret|simp only [zb,za,reduceIte,Nat.reduceEqDiff]|((repeat ((fail_if_success apply hK);clear hK K));apply hK;clear hK K))
    refine zH.ret (.inr rfl) Tryz.results7 ?_;simp only [zw,zt,zq,simprocAttr,az,rsnN,e1,e2,hcn]
def rowT (n:Nat) (f:Nat→Bool):List (List PV):=(List.range n).map fun a => [PV.val (.bool (f a))]
theorem z01 (n:Nat) (f:Nat→Bool):(rowT n f).length=n:=by simp [rowT]
theorem z2l {n a:Nat} (f:Nat→Bool) (h:a<n):(rowT n f)[a]? = some [PV.val (.bool (f a))]:=by
 unfold rowT;rw [List.getElem?_map,List.getElem?_range h];rfl
theorem z9y {n:Nat} {f g:Nat→Bool} (h : ∀ a,a<n→f a=g a):rowT n f=rowT n g:=by
 unfold rowT
 exact List.map_congr_left fun a ha=>by rw [h a (List.mem_range.1 ha)]
def upT (f:Nat→Bool) (a:Nat) (v:Bool):Nat→Bool:=fun q=>if q=a then v else f q
theorem rowT_set {n a:Nat} (f:Nat→Bool) (v:Bool) (h:a<n):(rowT n f).set a [PV.val (.bool v)]=rowT n (upT f a v):=by
 apply List.ext_getElem?
 intro q
 rw [List.getElem?_set]
 by_cases hq:q<n
 ·rw [z2l _ hq,z2l _ hq]
  unfold upT
  by_cases e:a=q
  ·subst e;rw [if_pos rfl,if_pos (by rw [z01];exact h),if_pos rfl]
  ·rw [if_neg e,if_neg (fun h=>e h.symm)]
 ·have e : ¬ a=q:=by omega
  rw [if_neg e,List.getElem?_eq_none (by rw [z01];omega),List.getElem?_eq_none (by rw [z01];omega)]
def inT (s:List Int):Nat→Bool:=fun q=>s.contains (q:Int)
theorem z1s {s:List Int} {q:Nat} : inT s q=true↔(q:Int) ∈ s:=by simp [inT]
theorem z4G (n:Nat):rowT n (inT [])=List.replicate n [PV.val (.bool false)]:=by
 simp [rowT,inT,List.map_const']
theorem z7J {n:Nat} (s:List Int) {x:Int} (h0 : 0≤x) (h1:x<(n:Int)):(rowT n (inT s)).set x.toNat [PV.val (.bool true)]=rowT n (inT (s ++ [x])):=by
 rw [rowT_set _ _ (by omega)]
 refine z9y fun q _=>?_
 unfold upT
 by_cases e:q=x.toNat
 ·rw [if_pos e,eq_comm,z1s,List.mem_append,List.mem_singleton];right;omega
 ·rw [if_neg e,Bool.eq_iff_iff,z1s,z1s,List.mem_append,List.mem_singleton]
  constructor
  ·exact .inl
  ·rintro (h|h)
   ·exact h
   ·omega
theorem rowI_Z (r:List Nat):rowI r=rowZ (zs r):=by simp [rowI,rowZ,zs]
theorem rowZ_take (ev:List Int) (k:Nat):(rowZ ev).take k=rowZ (ev.take k):=by simp [rowZ,List.map_take]
theorem z1U {α:Type} {l:List α} {k:Nat} {x : α} (h:l[k]? = some x):l.take (k+1)=l.take k ++ [x]:=by rw [List.take_add_one,h];rfl
theorem befZ {l:List Ev} {a:Int} {k:Nat} : (zs (befL l k)).contains a=true ↔ ∃ m:Nat,a=m∧m<k∧immL l m k=true:=by
 rw [List.contains_iff_mem]
 constructor
 ·intro h
  obtain ⟨n,h1,h2⟩:=z5X h
  exact ⟨n,h2,z2h.1 h1⟩
 ·rintro ⟨m,rfl,h⟩
  exact z9m (z2h.2 h)
theorem z2y {k:Nat} (h : 0<k) (h2:k<1152921504606846976):IntKind.i64.wrap ((k:Int)-1)=((k-1:Nat):Int):=by
 rw [z4h (by omega) (by omega)];omega
theorem fits_ok (l:List Ev) (i j:Int) (o:Bool) (ev:List Int) (hl:l.length≤100000) (hel:ev.length≤100000):zx Tryz.prog 9 [.p (.seq 9 (l.map evC)),.int i,.int j,rsnA o ev] (.bool (chkB l i j o ev)):=by
 have hn:=z4v l i j hl
 have hlm:(l.map evC).length=l.length:=by simp
 have hzl:=z1C ev
 refine zx.of Tryz.func9 rfl 182 rfl (by decide) (by simp [AV.okB,rsnA]) ?_
 simp only [rsnA]
 cases hp:plcB l i j with
 | false =>
  rw [hp] at hn
  simp only [Bool.false_eq_true,if_false] at hn
  have hB:chkB l i j o ev=false:=zZ fun h=>by have:=z2K.2 h.plc;rw [hp] at this;cases this
  repeat' (first|refine T.zh fun K hK=>?_|apply T.block|(refine T.reg (by kernel_rfl) fun K' hK'=>?_;simp only [bz];(repeat' (first|(with_reducible refine WL.fin ?_;apply hK';clear hK' K')|((with_reducible refine WL.step fun K2 hK2=>?_);simp only [simprocAttr,az,hlm,Bool.not_false];(repeat' (first|with_reducible (first|(apply hK2;clear hK2 K2)|apply And.intro|intro hb)|((with_reducible first|apply zl|apply zm);case h=>exact CallV.plain (Ent.of Tryz.func17 (by kernel_rfl) rfl) (hn) (by simp [AV.okB]))))))))|apply T.skip|apply T.exit|refine T.zg rfl ?_|refine T.zf rfl ?_|refine T.cond rfl (fun hc=>?_) (fun hc=>?_)|apply T.ret|simp only [zb,za,reduceIte,Nat.reduceEqDiff]|((repeat ((fail_if_success apply hK);clear hK K));apply hK;clear hK K))
  all_goals (refine zH.ret (.inr rfl) Tryz.results9 ?_;simp only [zw,zt,zq,simprocAttr,az,hB])
 | true =>
  have hpp:=z2K.1 hp
  obtain ⟨I,rfl⟩ : ∃ I:Nat,i=I:=⟨i.toNat,by have:=hpp.2.1;omega⟩
  obtain ⟨J,rfl⟩ : ∃ J:Nat,j=J:=⟨j.toNat,by have:=hpp.2.1;have:=hpp.2.2.1;omega⟩
  have hIJ:I<J:=by have:=hpp.2.2.1;omega
  have hJl:J<l.length:=by have:=hpp.2.2.2;omega
  rw [hp] at hn
  simp only [if_true] at hn
  by_cases he0:ev.length=0
  ·have hd0:((ev.length:Int)==0)=true:=by rw [he0];rfl
   have hB:chkB l I J o ev=false:=zZ fun h=>by
    cases o with
    | true=>have h1:=(List.getElem?_eq_some_iff.1 (h.fst rfl)).1;omega
    | false=>have h1:=h.hasJ rfl;rw [List.length_eq_zero_iff.1 he0] at h1;cases h1
   repeat' (first|refine T.zh fun K hK=>?_|apply T.block|(refine T.reg (by kernel_rfl) fun K' hK'=>?_;simp only [bz];(repeat' (first|(with_reducible refine WL.fin ?_;apply hK';clear hK' K')|((with_reducible refine WL.step fun K2 hK2=>?_);simp only [simprocAttr,az,hlm,hzl,hd0,Bool.not_true];(repeat' (first|with_reducible (first|(apply hK2;clear hK2 K2)|apply And.intro|intro hb)|((with_reducible first|apply zl|apply zm);case h=>exact CallV.plain (Ent.of Tryz.func17 (by kernel_rfl) rfl) (hn) (by simp [AV.okB]))))))))|apply T.skip|apply T.exit|refine T.zg rfl ?_|refine T.zf rfl ?_|refine T.cond rfl (fun hc=>?_) (fun hc=>?_)|apply T.ret|simp only [zb,za,reduceIte,Nat.reduceEqDiff]|((repeat ((fail_if_success apply hK);clear hK K));apply hK;clear hK K))
   all_goals (refine zH.ret (.inr rfl) Tryz.results9 ?_;simp only [zw,zt,zq,simprocAttr,az,hB])
  have hd0:((ev.length:Int)==0)=false:=by rw [beq_eq_false_iff_ne];omega
  repeat' (first|refine T.zh fun K hK=>?_|apply T.block|(refine T.reg (by kernel_rfl) fun K' hK'=>?_;simp only [bz];(repeat' (first|(with_reducible refine WL.fin ?_;apply hK';clear hK' K')|((with_reducible refine WL.step fun K2 hK2=>?_);simp only [simprocAttr,az,hlm,hzl,hd0,Bool.not_true];(repeat' (first|with_reducible (first|(apply hK2;clear hK2 K2)|apply And.intro|intro hb)|((with_reducible first|apply zl|apply zm);case h=>exact CallV.plain (Ent.of Tryz.func17 (by kernel_rfl) rfl) (hn) (by simp [AV.okB]))))))))|apply T.skip|apply T.exit|refine T.zg rfl ?_|refine T.zf rfl ?_|refine T.cond rfl (fun hc=>?_) (fun hc=>?_)|apply T.ret|simp only [zb,za,reduceIte,Nat.reduceEqDiff]|((repeat ((fail_if_success apply hK);clear hK K));apply hK;clear hK K))
  clear hn
  obtain ⟨n,hnl⟩ : ∃ n,n=l.length:=⟨_,rfl⟩
  have hbl:=z9t l
  have hba:=fun k (h:k<l.length)=>befP_at (l:=l) h
  rw [← hnl] at hbl
  generalize befP l=BP at hbl hba
  refine T.qC (fun k:Nat=>⟨[(0,.p (.seq 9 (l.map evC))),(1,.int I),(2,.int J),(7,.ptr 0 0),(9,.p (.seq 1 BP)),(43,.p (.seq 1 (rowZ ev))),(44,.int ev.length),(45,.int k)],[(0,.boxP none 25 [.bool o,.p (.seq 1 (rowZ ev))])],182,1⟩) (fun k=>k≤ev.length ∧ ∀ x ∈ ev.take k,0≤x∧x<(l.length:Int)) (fun k=>ev.length-k) 0 ⟨Nat.zero_le _,by simp⟩ (by refine zk.of' rfl ?_;simp only [wks,reduceIte,Nat.reduceEqDiff,ASt.okB,AV.okB,Nat.reduceLT,implies_true,Int.natCast_zero]) ?_
  rintro k ⟨hk,hrg⟩ KL hKL
  by_cases hkn:k<ev.length
  ·have hd:decide ((k:Int)<(ev.length:Int))=true:=by simpa using hkn
   have hk0:(0:Int)≤(k:Int):=by omega
   obtain ⟨x,hx⟩:=zQ hkn
   have m1:=qR hx
   have hts:=z1U hx
   have hxm:=List.mem_of_getElem? hx
   by_cases hb : 0≤x∧x<(l.length:Int)
   ·have d1:decide (x<0)=false:=by simp;omega
    have d2:decide ((l.length:Int)≤x)=false:=by simp;omega
    repeat' (first|refine T.zh fun K hK=>?_|apply T.block|(refine T.reg (by kernel_rfl) fun K' hK'=>?_;simp only [bz];(with_reducible repeat' (first|(apply WL.fin;apply hK';clear hK' K')|(refine WL.step fun K2 hK2=>?_;simp only [simprocAttr,az,hlm,hd,hk0,Int.toNat_natCast,m1,d1,d2];repeat' (first|(apply hK2;clear hK2 K2)|apply And.intro|intro hb)))))|apply T.skip|apply T.exit|refine T.zg rfl ?_|refine T.zf rfl ?_|refine T.cond rfl (fun hc=>?_) (fun hc=>?_)|apply T.ret|simp only [zb,za,reduceIte,Nat.reduceEqDiff]|((repeat ((fail_if_success apply hK);clear hK K));apply hK;clear hK K))
    refine hKL _ (k+1) ?_ ⟨hkn,fun y hy=>?_⟩ (by omega)
    ·refine zk.of' rfl ?_;simp only [wks,reduceIte,Nat.reduceEqDiff,ASt.okB,AV.okB,Nat.reduceLT,implies_true,zu (show k<1152921504606846976 by omega)]
    ·rw [hts,List.mem_append,List.mem_singleton] at hy
     rcases hy with hy|rfl
     ·exact hrg y hy
     ·exact hb
   ·have hB:chkB l I J o ev=false:=zZ fun h=>hb (h.rng x hxm)
    cases d1:decide (x<0) with
    | true =>
     repeat' (first|refine T.zh fun K hK=>?_|apply T.block|(refine T.reg (by kernel_rfl) fun K' hK'=>?_;simp only [bz];(with_reducible repeat' (first|(apply WL.fin;apply hK';clear hK' K')|(refine WL.step fun K2 hK2=>?_;simp only [simprocAttr,az,hlm,hd,hk0,Int.toNat_natCast,m1,d1];repeat' (first|(apply hK2;clear hK2 K2)|apply And.intro|intro hb)))))|apply T.skip|apply T.exit|refine T.zg rfl ?_|refine T.zf rfl ?_|refine T.cond rfl (fun hc=>?_) (fun hc=>?_)|apply T.ret|simp only [zb,za,reduceIte,Nat.reduceEqDiff]|((repeat ((fail_if_success apply hK);clear hK K));apply hK;clear hK K))
     all_goals (refine zH.ret (.inr rfl) Tryz.results9 ?_;simp only [zw,zt,zq,simprocAttr,az,hB])
    | false =>
     have d2:decide ((l.length:Int)≤x)=true:=by have:=of_decide_eq_false d1;simp;omega
     repeat' (first|refine T.zh fun K hK=>?_|apply T.block|(refine T.reg (by kernel_rfl) fun K' hK'=>?_;simp only [bz];(with_reducible repeat' (first|(apply WL.fin;apply hK';clear hK' K')|(refine WL.step fun K2 hK2=>?_;simp only [simprocAttr,az,hlm,hd,hk0,Int.toNat_natCast,m1,d1,d2];repeat' (first|(apply hK2;clear hK2 K2)|apply And.intro|intro hb)))))|apply T.skip|apply T.exit|refine T.zg rfl ?_|refine T.zf rfl ?_|refine T.cond rfl (fun hc=>?_) (fun hc=>?_)|apply T.ret|simp only [zb,za,reduceIte,Nat.reduceEqDiff]|((repeat ((fail_if_success apply hK);clear hK K));apply hK;clear hK K))
     all_goals (refine zH.ret (.inr rfl) Tryz.results9 ?_;simp only [zw,zt,zq,simprocAttr,az,hB])
  have hd:decide ((k:Int)<(ev.length:Int))=false:=by simpa using hkn
  rw [show k=ev.length by omega,List.take_length] at hrg
  repeat' (first|refine T.zh fun K hK=>?_|apply T.block|apply T.skip|apply T.exit|refine T.zg rfl ?_|refine T.zf rfl ?_|refine T.cond rfl (fun hc=>?_) (fun hc=>?_)|apply T.ret|simp only [zb,za,reduceIte,Nat.reduceEqDiff]|((repeat ((fail_if_success apply hK);clear hK K));apply hK;clear hK K))
  (refine T.reg (by kernel_rfl) fun K' hK'=>?_;simp only [bz];(with_reducible repeat' (first|(apply WL.fin;apply hK';clear hK' K')|(refine WL.step fun K2 hK2=>?_;simp only [simprocAttr,az,hd];repeat' (first|(apply hK2;clear hK2 K2)|apply And.intro|intro hb))));all_goals ((try simp only [zb,za,reduceIte,Nat.reduceEqDiff]);(try ((repeat ((fail_if_success apply hK);clear hK K));apply hK;clear hK K))))
  cases o with
  | true =>
   have hsub:=z2y (show 0<ev.length by omega) (show ev.length<1152921504606846976 by omega)
   have hl0:(0:Int)≤((ev.length-1:Nat):Int):=by omega
   have hle:((ev.length-1:Nat):Int)≤(ev.length:Int):=by omega
   have htk:=rowZ_take ev (ev.length-1)
   have htl:(ev.take (ev.length-1)).length=ev.length-1:=by rw [List.length_take];omega
   have hzl2:=z1C (ev.take (ev.length-1))
   rw [htl] at hzl2
   repeat' (first|refine T.zh fun K hK=>?_|apply T.block|(refine T.reg (by kernel_rfl) fun K' hK'=>?_;simp only [bz];(with_reducible repeat' (first|(apply WL.fin;apply hK';clear hK' K')|(refine WL.step fun K2 hK2=>?_;simp only [simprocAttr,az,hzl,hsub,hl0,Int.toNat_natCast,hle,htk,hzl2,List.drop_zero];repeat' (first|(apply hK2;clear hK2 K2)|apply And.intro|intro hb)))))|apply T.skip|apply T.exit|refine T.zg rfl ?_|refine T.zf rfl ?_|refine T.cond rfl (fun hc=>?_) (fun hc=>?_)|apply T.ret|simp only [zb,za,reduceIte,Nat.reduceEqDiff]|((repeat ((fail_if_success apply hK);clear hK K));apply hK;clear hK K))
   refine T.qC (fun k:Nat=>⟨[(1,.int I),(2,.int J),(7,.ptr 0 0),(9,.p (.seq 1 BP)),(14,.int (ev.length-1:Nat)),(67,.p (.seq 1 (rowZ (ev.take (ev.length-1))))),(68,.int (ev.length-1:Nat)),(69,.int k)],[(0,.boxP none 25 [.bool true,.p (.seq 1 (rowZ ev))])],182,1⟩) (fun k=>k≤ev.length-1 ∧ ∀ q a b,q<k→ev[q]? = some a→ev[q+1]? = some b→(zs (befL l b.toNat)).contains a=true) (fun k=>ev.length-k) 0 ⟨Nat.zero_le _,fun q a b hq=>by omega⟩ (by refine zk.of' rfl ?_;simp only [wks,reduceIte,Nat.reduceEqDiff,ASt.okB,AV.okB,Nat.reduceLT,implies_true,Int.natCast_zero]) ?_
   rintro k ⟨hk,hch⟩ KL hKL
   by_cases hkn:k<ev.length-1
   ·have hd:decide ((k:Int)<((ev.length-1:Nat):Int))=true:=by simp;omega
    have hk0:(0:Int)≤(k:Int):=by omega
    have hk1:(0:Int)≤((k+1:Nat):Int):=by omega
    obtain ⟨x,hx⟩:=zQ (show k<ev.length by omega)
    obtain ⟨y,hy⟩:=zQ (show k+1<ev.length by omega)
    have hx2:(ev.take (ev.length-1))[k]? = some x:=by rw [List.getElem?_take,if_pos hkn];exact hx
    have m1:=qR hx2
    have m2:=qR hy
    have hyr:=hrg y (List.mem_of_getElem? hy)
    have hb1:=hba y.toNat (by omega)
    have hbl:=z6x l y.toNat
    rw [rowI_Z] at hb1
    have hc:=z8x (zs (befL l y.toNat)) x (by simp only [zs,List.length_map];omega)
    cases hcb:(zs (befL l y.toNat)).contains x with
    | true =>
     rw [hcb] at hc
     repeat' (first|refine T.zh fun K hK=>?_|apply T.block|(refine T.reg (by kernel_rfl) fun K' hK'=>?_;simp only [bz];(repeat' (first|(with_reducible refine WL.fin ?_;apply hK';clear hK' K')|((with_reducible refine WL.step fun K2 hK2=>?_);simp only [simprocAttr,az,hd,hk0,hk1,Int.toNat_natCast,m1,m2,hyr.1,hb1,zu (show k<1152921504606846976 by omega),Bool.not_true];(repeat' (first|with_reducible (first|(apply hK2;clear hK2 K2)|apply And.intro|intro hb)|((with_reducible first|apply zl|apply zm);case h=>exact CallV.plain (Ent.of Tryz.func22 (by kernel_rfl) rfl) (hc) (by simp [AV.okB]))))))))|apply T.skip|apply T.exit|refine T.zg rfl ?_|refine T.zf rfl ?_|refine T.cond rfl (fun hc=>?_) (fun hc=>?_)|apply T.ret|simp only [zb,za,reduceIte,Nat.reduceEqDiff]|((repeat ((fail_if_success apply hK);clear hK K));apply hK;clear hK K))
     refine hKL _ (k+1) ?_ ⟨hkn,fun q a b hq ha hb=>?_⟩ (by omega)
     ·refine zk.of' rfl ?_;simp only [wks,reduceIte,Nat.reduceEqDiff,ASt.okB,AV.okB,Nat.reduceLT,implies_true,]
     ·by_cases e:q=k
      ·subst e
       rw [hx] at ha;rw [hy] at hb
       cases ha;cases hb;exact hcb
      ·exact hch q a b (by omega) ha hb
    | false =>
     rw [hcb] at hc
     have hB:chkB l I J true ev=false:=zZ fun h=>by
      have h1:=h.inc k x y hx hy
      have h2:=h.imm rfl k x y hx hy
      have h3:=hrg x (List.mem_of_getElem? hx)
      have h4:(zs (befL l y.toNat)).contains x=true:=befZ.2 ⟨x.toNat,by omega,by omega,h2⟩
      rw [hcb] at h4;cases h4
     repeat' (first|refine T.zh fun K hK=>?_|apply T.block|(refine T.reg (by kernel_rfl) fun K' hK'=>?_;simp only [bz];(repeat' (first|(with_reducible refine WL.fin ?_;apply hK';clear hK' K')|((with_reducible refine WL.step fun K2 hK2=>?_);simp only [simprocAttr,az,hd,hk0,hk1,Int.toNat_natCast,m1,m2,hyr.1,hb1,zu (show k<1152921504606846976 by omega),Bool.not_false];(repeat' (first|with_reducible (first|(apply hK2;clear hK2 K2)|apply And.intro|intro hb)|((with_reducible first|apply zl|apply zm);case h=>exact CallV.plain (Ent.of Tryz.func22 (by kernel_rfl) rfl) (hc) (by simp [AV.okB]))))))))|apply T.skip|apply T.exit|refine T.zg rfl ?_|refine T.zf rfl ?_|refine T.cond rfl (fun hc=>?_) (fun hc=>?_)|apply T.ret|simp only [zb,za,reduceIte,Nat.reduceEqDiff]|((repeat ((fail_if_success apply hK);clear hK K));apply hK;clear hK K))
     all_goals (refine zH.ret (.inr rfl) Tryz.results9 ?_;simp only [zw,zt,zq,simprocAttr,az,hB])
   have hd:decide ((k:Int)<((ev.length-1:Nat):Int))=false:=by simp;omega
   obtain ⟨x,hx⟩:=zQ (show 0<ev.length by omega)
   obtain ⟨y,hy⟩:=zQ (show ev.length-1<ev.length by omega)
   have m1:=qR hx
   have m2:=qR hy
   have ht0:(0:Int).toNat=0:=rfl
   have hB:chkB l I J true ev=((x==(I:Int))&&(y==(J:Int))):=by
    rw [Bool.eq_iff_iff,z6K,Bool.and_eq_true,beq_iff_eq,beq_iff_eq]
    constructor
    ·intro h
     have h1:=h.fst rfl
     have h2:=h.lst rfl
     rw [hx] at h1;rw [hy] at h2
     cases h1;cases h2;exact ⟨rfl,rfl⟩
    ·rintro ⟨rfl,rfl⟩
     have key : ∀ q a b,ev[q]? = some a→ev[q+1]? = some b→a<b∧immL l a.toNat b.toNat=true:=fun q a b ha hb=>by
      have hq:=(List.getElem?_eq_some_iff.1 hb).1
      obtain ⟨m,rfl,h1,h2⟩:=befZ.1 (hch q a b (by omega) ha hb)
      exact ⟨by omega,by rw [Int.toNat_natCast];exact h2⟩
     exact ⟨hpp,hrg,fun q a b ha hb=>(key q a b ha hb).1,fun _=>hx,fun _=>hy,fun _ q a b ha hb=>(key q a b ha hb).2,fun h=>(by cases h),fun h=>(by cases h),fun h=>(by cases h)⟩
   cases e1:(x==(I:Int)) <;> cases e2:(y==(J:Int))
   all_goals (rw [e1,e2] at hB)
   all_goals (repeat' (first|refine T.zh fun K hK=>?_|apply T.block|(refine T.reg (by kernel_rfl) fun K' hK'=>?_;simp only [bz];(with_reducible repeat' (first|(apply WL.fin;apply hK';clear hK' K')|(refine WL.step fun K2 hK2=>?_;simp only [simprocAttr,az,hd,ht0,hl0,Int.toNat_natCast,m1,m2,e1,e2];repeat' (first|(apply hK2;clear hK2 K2)|apply And.intro|intro hb)))))|apply T.skip|apply T.exit|refine T.zg rfl ?_|refine T.zf rfl ?_|refine T.cond rfl (fun hc=>?_) (fun hc=>?_)|apply T.ret|simp only [zb,za,reduceIte,Nat.reduceEqDiff]|((repeat ((fail_if_success apply hK);clear hK K));apply hK;clear hK K)))
   all_goals (refine zH.ret (.inr rfl) Tryz.results9 ?_;simp only [zw,zt,zq,simprocAttr,az,hB,Bool.and_true,Bool.and_false])
  | false =>
   have hml:n≤maxLen:=by unfold maxLen;omega
   have hmb:n≤140737488355328:=by omega
   have hI0:(0:Int)≤(I:Int):=by omega
   have hJ0:(0:Int)≤(J:Int):=by omega
   rw [← hnl] at hlm
   repeat' (first|refine T.zh fun K hK=>?_|apply T.block|(refine T.reg (by kernel_rfl) fun K' hK'=>?_;simp only [bz];(with_reducible repeat' (first|(apply WL.fin;apply hK';clear hK' K')|(refine WL.step fun K2 hK2=>?_;simp only [simprocAttr,az,hlm,hzl,hml,hmb,Nat.one_mul,Int.toNat_natCast];repeat' (first|(apply hK2;clear hK2 K2)|apply And.intro|intro hb)))))|apply T.skip|apply T.exit|refine T.zg rfl ?_|refine T.zf rfl ?_|refine T.cond rfl (fun hc=>?_) (fun hc=>?_)|apply T.ret|simp only [zb,za,reduceIte,Nat.reduceEqDiff]|((repeat ((fail_if_success apply hK);clear hK K));apply hK;clear hK K))
   refine T.qC (fun k:Nat=>⟨[(0,.p (.seq 9 (l.map evC))),(1,.int I),(2,.int J),(7,.ptr 0 0),(9,.p (.seq 1 BP)),(17,.own 1),(106,.p (.seq 1 (rowZ ev))),(107,.int ev.length),(108,.int k)],[(0,.boxP none 25 [.bool false,.p (.seq 1 (rowZ ev))]),(1,.row 4 1 (rowT n (inT (ev.take k))))],182,2⟩) (fun k=>k≤ev.length ∧ ∀ q a b,q+1<k→ev[q]? = some a→ev[q+1]? = some b→a<b) (fun k=>ev.length-k) 0 ⟨Nat.zero_le _,fun q a b hq=>by omega⟩ (by refine zk.of' rfl ?_;simp only [wks,reduceIte,Nat.reduceEqDiff,ASt.okB,AV.okB,Nat.reduceLT,implies_true,Int.natCast_zero,List.take_zero,z4G]) ?_
   rintro k ⟨hk,hinc⟩ KL hKL
   by_cases hkn:k<ev.length
   ·have hd:decide ((k:Int)<(ev.length:Int))=true:=by simpa using hkn
    have hk0:(0:Int)≤(k:Int):=by omega
    obtain ⟨x,hx⟩:=zQ hkn
    have m1:=qR hx
    have hxr:=hrg x (List.mem_of_getElem? hx)
    have hst:=z7J (n:=n) (ev.take k) hxr.1 (by omega)
    rw [← z1U hx] at hst
    have hxn:x.toNat<n:=by omega
    by_cases hkz:k=0
    ·have hd2:decide ((0:Int)<(k:Int))=false:=by rw [hkz];rfl
     repeat' (first|refine T.zh fun K hK=>?_|apply T.block|(refine T.reg (by kernel_rfl) fun K' hK'=>?_;simp only [bz];(with_reducible repeat' (first|(apply WL.fin;apply hK';clear hK' K')|(refine WL.step fun K2 hK2=>?_;simp only [simprocAttr,az,hd,hk0,Int.toNat_natCast,m1,hd2,hxr.1,z01,hxn,z2l _ hxn,hst];repeat' (first|(apply hK2;clear hK2 K2)|apply And.intro|intro hb)))))|apply T.skip|apply T.exit|refine T.zg rfl ?_|refine T.zf rfl ?_|refine T.cond rfl (fun hc=>?_) (fun hc=>?_)|apply T.ret|simp only [zb,za,reduceIte,Nat.reduceEqDiff]|((repeat ((fail_if_success apply hK);clear hK K));apply hK;clear hK K))
     refine hKL _ (k+1) ?_ ⟨hkn,fun q a b hq=>by omega⟩ (by omega)
     refine zk.of' rfl ?_;simp only [wks,reduceIte,Nat.reduceEqDiff,ASt.okB,AV.okB,Nat.reduceLT,implies_true,zu (show k<1152921504606846976 by omega)]
    ·have hd2:decide ((0:Int)<(k:Int))=true:=by simp;omega
     have hwp:=z2y (show 0<k by omega) (show k<1152921504606846976 by omega)
     have hp0:(0:Int)≤((k-1:Nat):Int):=by omega
     obtain ⟨y,hy⟩:=zQ (show k-1<ev.length by omega)
     have m2:=qR hy
     have hx3:ev[(k-1)+1]? = some x:=by rw [show k-1+1=k by omega];exact hx
     cases hd3:decide (x≤y) with
     | true =>
      have hB:chkB l I J false ev=false:=zZ fun h=>by
       have h1:=h.inc (k-1) y x hy hx3
       have h2:=of_decide_eq_true hd3
       omega
      repeat' (first|refine T.zh fun K hK=>?_|apply T.block|(refine T.reg (by kernel_rfl) fun K' hK'=>?_;simp only [bz];(with_reducible repeat' (first|(apply WL.fin;apply hK';clear hK' K')|(refine WL.step fun K2 hK2=>?_;simp only [simprocAttr,az,hd,hk0,hp0,hwp,Int.toNat_natCast,m1,m2,hd2,hd3];repeat' (first|(apply hK2;clear hK2 K2)|apply And.intro|intro hb)))))|apply T.skip|apply T.exit|refine T.zg rfl ?_|refine T.zf rfl ?_|refine T.cond rfl (fun hc=>?_) (fun hc=>?_)|apply T.ret|simp only [zb,za,reduceIte,Nat.reduceEqDiff]|((repeat ((fail_if_success apply hK);clear hK K));apply hK;clear hK K))
      all_goals (refine zH.ret (.inr rfl) Tryz.results9 ?_;simp only [zw,zt,zq,simprocAttr,az,hB])
     | false =>
      repeat' (first|refine T.zh fun K hK=>?_|apply T.block|(refine T.reg (by kernel_rfl) fun K' hK'=>?_;simp only [bz];(with_reducible repeat' (first|(apply WL.fin;apply hK';clear hK' K')|(refine WL.step fun K2 hK2=>?_;simp only [simprocAttr,az,hd,hk0,hp0,hwp,Int.toNat_natCast,m1,m2,hd2,hd3,hxr.1,z01,hxn,z2l _ hxn,hst];repeat' (first|(apply hK2;clear hK2 K2)|apply And.intro|intro hb)))))|apply T.skip|apply T.exit|refine T.zg rfl ?_|refine T.zf rfl ?_|refine T.cond rfl (fun hc=>?_) (fun hc=>?_)|apply T.ret|simp only [zb,za,reduceIte,Nat.reduceEqDiff]|((repeat ((fail_if_success apply hK);clear hK K));apply hK;clear hK K))
      refine hKL _ (k+1) ?_ ⟨hkn,fun q a b hq ha hb=>?_⟩ (by omega)
      ·refine zk.of' rfl ?_;simp only [wks,reduceIte,Nat.reduceEqDiff,ASt.okB,AV.okB,Nat.reduceLT,implies_true,zu (show k<1152921504606846976 by omega)]
      ·by_cases e:q=k-1
       ·subst e
        rw [hy] at ha;rw [hx3] at hb
        cases ha;cases hb
        have h2:=of_decide_eq_false hd3
        omega
       ·exact hinc q a b (by omega) ha hb
   have hd:decide ((k:Int)<(ev.length:Int))=false:=by simpa using hkn
   have hke:k=ev.length:=by omega
   rw [hke,List.take_length]
   rw [hke] at hd
   have hin : ∀ q a b,ev[q]? = some a→ev[q+1]? = some b→a<b:=fun q a b ha hb=>hinc q a b (by have:=(List.getElem?_eq_some_iff.1 hb).1;omega) ha hb
   have hIn:I<n:=by omega
   have hJn:J<n:=by omega
   have mI:=z2l (inT ev) hIn
   have mJ:=z2l (inT ev) hJn
   cases hcI:inT ev I with
   | true =>
    have hB:chkB l I J false ev=false:=zZ fun h=>h.noI rfl (z1s.1 hcI)
    rw [hcI] at mI
    repeat' (first|refine T.zh fun K hK=>?_|apply T.block|(refine T.reg (by kernel_rfl) fun K' hK'=>?_;simp only [bz];(with_reducible repeat' (first|(apply WL.fin;apply hK';clear hK' K')|(refine WL.step fun K2 hK2=>?_;simp only [simprocAttr,az,hd,hI0,Int.toNat_natCast,z01,hIn,mI];repeat' (first|(apply hK2;clear hK2 K2)|apply And.intro|intro hb)))))|apply T.skip|apply T.exit|refine T.zg rfl ?_|refine T.zf rfl ?_|refine T.cond rfl (fun hc=>?_) (fun hc=>?_)|apply T.ret|simp only [zb,za,reduceIte,Nat.reduceEqDiff]|((repeat ((fail_if_success apply hK);clear hK K));apply hK;clear hK K))
    all_goals (refine zH.ret (.inr rfl) Tryz.results9 ?_;simp only [zw,zt,zq,simprocAttr,az,hB])
   | false =>
    rw [hcI] at mI
    cases hcJ:inT ev J with
    | false =>
     have hB:chkB l I J false ev=false:=zZ fun h=>by have:=z1s.2 (h.hasJ rfl);rw [hcJ] at this;cases this
     rw [hcJ] at mJ
     repeat' (first|refine T.zh fun K hK=>?_|apply T.block|(refine T.reg (by kernel_rfl) fun K' hK'=>?_;simp only [bz];(with_reducible repeat' (first|(apply WL.fin;apply hK';clear hK' K')|(refine WL.step fun K2 hK2=>?_;simp only [simprocAttr,az,hd,hI0,hJ0,Int.toNat_natCast,z01,hIn,hJn,mI,mJ,Bool.not_false];repeat' (first|(apply hK2;clear hK2 K2)|apply And.intro|intro hb)))))|apply T.skip|apply T.exit|refine T.zg rfl ?_|refine T.zf rfl ?_|refine T.cond rfl (fun hc=>?_) (fun hc=>?_)|apply T.ret|simp only [zb,za,reduceIte,Nat.reduceEqDiff]|((repeat ((fail_if_success apply hK);clear hK K));apply hK;clear hK K))
     all_goals (refine zH.ret (.inr rfl) Tryz.results9 ?_;simp only [zw,zt,zq,simprocAttr,az,hB])
    | true =>
     rw [hcJ] at mJ
     repeat' (first|refine T.zh fun K hK=>?_|apply T.block|(refine T.reg (by kernel_rfl) fun K' hK'=>?_;simp only [bz];(with_reducible repeat' (first|(apply WL.fin;apply hK';clear hK' K')|(refine WL.step fun K2 hK2=>?_;simp only [simprocAttr,az,hd,hI0,hJ0,Int.toNat_natCast,z01,hIn,hJn,mI,mJ,Bool.not_true,hlm,hzl,hml,hmb,Nat.one_mul];repeat' (first|(apply hK2;clear hK2 K2)|apply And.intro|intro hb)))))|apply T.skip|apply T.exit|refine T.zg rfl ?_|refine T.zf rfl ?_|refine T.cond rfl (fun hc=>?_) (fun hc=>?_)|apply T.ret|simp only [zb,za,reduceIte,Nat.reduceEqDiff]|((repeat ((fail_if_success apply hK);clear hK K));apply hK;clear hK K))
     refine T.qC (fun p:Nat × (Nat→Bool)=>⟨[(7,.ptr 0 0),(9,.p (.seq 1 BP)),(17,.own 1),(20,.suf 2 1 0),(144,.p (.seq 1 (rowZ ev))),(145,.int ev.length),(146,.int p.1)],[(0,.boxP none 25 [.bool false,.p (.seq 1 (rowZ ev))]),(1,.row 4 1 (rowT n (inT ev))),(2,.row 4 1 (rowT n p.2))],182,3⟩) (fun p=>p.1≤ev.length ∧ ∀ x ∈ ev.take p.1,∀ m:Nat,(m:Int)<x→immL l m x.toNat=true→(m:Int) ∈ ev) (fun p=>ev.length-p.1) (0,inT []) ⟨Nat.zero_le _,by simp⟩ (by refine zk.of' rfl ?_;simp only [wks,reduceIte,Nat.reduceEqDiff,ASt.okB,AV.okB,Nat.reduceLT,implies_true,Int.natCast_zero,z4G,AVle.ownSuf]) ?_
     rintro ⟨c,f⟩ ⟨hc,hcl⟩ KL3 hKL3
     simp only at hc hcl hKL3 ⊢
     by_cases hcn:c<ev.length
     ·have hd4:decide ((c:Int)<(ev.length:Int))=true:=by simpa using hcn
      have hc0:(0:Int)≤(c:Int):=by omega
      obtain ⟨x,hx⟩:=zQ hcn
      have m1:=qR hx
      have hts:=z1U hx
      have hxr:=hrg x (List.mem_of_getElem? hx)
      have hxl:x.toNat<l.length:=by omega
      have hb1:=hba x.toNat hxl
      have hrl:=z04 (befL l x.toNat)
      have hbk:=z6x l x.toNat
      have hn0 : 0<n:=by omega
      have hrep:List.replicate n [PV.val (.bool false)]=rowT n (inT []):=(z4G n).symm
      repeat' (first|refine T.zh fun K hK=>?_|apply T.block|(refine T.reg (by kernel_rfl) fun K' hK'=>?_;simp only [bz];(with_reducible repeat' (first|(apply WL.fin;apply hK';clear hK' K')|(refine WL.step fun K2 hK2=>?_;simp only [simprocAttr,az,hd4,hc0,Int.toNat_natCast,m1,z01,hn0,List.take_zero,List.nil_append,Nat.sub_zero,hxr.1,hb1,hrl];repeat' (first|(apply hK2;clear hK2 K2)|apply And.intro|intro hb)))))|apply T.skip|apply T.exit|refine T.zg rfl ?_|refine T.zf rfl ?_|refine T.cond rfl (fun hc=>?_) (fun hc=>?_)|apply T.ret|simp only [zb,za,reduceIte,Nat.reduceEqDiff]|((repeat ((fail_if_success apply hK);clear hK K));apply hK;clear hK K))
      obtain ⟨S,hS⟩ : ∃ S,S=befL l x.toNat:=⟨_,rfl⟩
      rw [← hS] at hb1 hrl hbk
      have hSn : ∀ p ∈ S,p<n:=fun p hp=>by rw [hS] at hp;have:=(z2h.1 hp).1;omega
      refine T.weak (s':=⟨[(7,.ptr 0 0),(9,.p (.seq 1 BP)),(17,.own 1),(20,.suf 2 1 0),(144,.p (.seq 1 (rowZ ev))),(145,.int ev.length),(146,.int c),(154,.p (.seq 1 (rowI S))),(155,.int S.length),(156,.int (0:Nat))],[(0,.boxP none 25 [.bool false,.p (.seq 1 (rowZ ev))]),(1,.row 4 1 (rowT n (inT ev))),(2,.row 4 1 (rowT n (inT [])))],182,3⟩) (by refine zk.of' rfl ?_;simp only [wks,reduceIte,Nat.reduceEqDiff,ASt.okB,AV.okB,Nat.reduceLT,implies_true,Int.natCast_zero,z4G,hS]) ?_
      refine T.qC (fun q:Nat=>⟨[(7,.ptr 0 0),(9,.p (.seq 1 BP)),(17,.own 1),(20,.suf 2 1 0),(144,.p (.seq 1 (rowZ ev))),(145,.int ev.length),(146,.int c),(154,.p (.seq 1 (rowI S))),(155,.int S.length),(156,.int q)],[(0,.boxP none 25 [.bool false,.p (.seq 1 (rowZ ev))]),(1,.row 4 1 (rowT n (inT ev))),(2,.row 4 1 (rowT n (inT (zs (S.take q)))))],182,3⟩) (fun q=>q≤S.length) (fun q=>S.length-q) 0 (Nat.zero_le _) (by refine zk.of' rfl ?_;simp only [wks,reduceIte,Nat.reduceEqDiff,ASt.okB,AV.okB,Nat.reduceLT,implies_true,List.take_zero,zs,List.map_nil]) ?_
      intro q hq KL4 hKL4
      by_cases hqn:q<S.length
      ·have hd5:decide ((q:Int)<(S.length:Int))=true:=by simpa using hqn
       have hq0:(0:Int)≤(q:Int):=by omega
       obtain ⟨p,hp⟩:=zQ hqn
       have p1:=z3p hp
       have hpn:=hSn p (List.mem_of_getElem? hp)
       have hp0:(0:Int)≤(p:Int):=by omega
       have hst:(rowT n (inT (zs (S.take q)))).set p [PV.val (.bool true)]=rowT n (inT (zs (S.take (q+1)))):=by
        have h1:=z7J (n:=n) (zs (S.take q)) (x:=(p:Int)) hp0 (by omega)
        rw [Int.toNat_natCast] at h1
        rw [h1,z1U hp]
        simp [zs]
       repeat' (first|refine T.zh fun K hK=>?_|apply T.block|(refine T.reg (by kernel_rfl) fun K' hK'=>?_;simp only [bz];(with_reducible repeat' (first|(apply WL.fin;apply hK';clear hK' K')|(refine WL.step fun K2 hK2=>?_;simp only [simprocAttr,az,hd5,hq0,hp0,Int.toNat_natCast,p1,z01,Nat.add_zero,Nat.zero_add,Nat.sub_zero,hpn,z2l _ hpn,hst];repeat' (first|(apply hK2;clear hK2 K2)|apply And.intro|intro hb)))))|apply T.skip|apply T.exit|refine T.zg rfl ?_|refine T.zf rfl ?_|refine T.cond rfl (fun hc=>?_) (fun hc=>?_)|apply T.ret|simp only [zb,za,reduceIte,Nat.reduceEqDiff]|((repeat ((fail_if_success apply hK);clear hK K));apply hK;clear hK K))
       refine hKL4 _ (q+1) ?_ hqn (by omega)
       refine zk.of' rfl ?_;simp only [wks,reduceIte,Nat.reduceEqDiff,ASt.okB,AV.okB,Nat.reduceLT,implies_true,zu (show q<1152921504606846976 by omega)]
      have hd5:decide ((q:Int)<(S.length:Int))=false:=by simpa using hqn
      rw [show q=S.length by omega] at hd5 ⊢
      rw [List.take_length]
      have hrn:=z01 n (inT (zs S))
      repeat' (first|refine T.zh fun K hK=>?_|apply T.block|apply T.skip|apply T.exit|refine T.zg rfl ?_|refine T.zf rfl ?_|refine T.cond rfl (fun hc=>?_) (fun hc=>?_)|apply T.ret|simp only [zb,za,reduceIte,Nat.reduceEqDiff]|((repeat ((fail_if_success apply hK);clear hK K));apply hK;clear hK K))
      (refine T.reg (by kernel_rfl) fun K' hK'=>?_;simp only [bz];(with_reducible repeat' (first|(apply WL.fin;apply hK';clear hK' K')|(refine WL.step fun K2 hK2=>?_;simp only [simprocAttr,az,hd5];repeat' (first|(apply hK2;clear hK2 K2)|apply And.intro|intro hb))));all_goals ((try simp only [zb,za,reduceIte,Nat.reduceEqDiff]);(try ((repeat ((fail_if_success apply hK);clear hK K));apply hK;clear hK K))))
      repeat' (first|refine T.zh fun K hK=>?_|apply T.block|apply T.skip|apply T.exit|refine T.zg rfl ?_|refine T.zf rfl ?_|refine T.cond rfl (fun hc=>?_) (fun hc=>?_)|apply T.ret|simp only [zb,za,reduceIte,Nat.reduceEqDiff]|((repeat ((fail_if_success apply hK);clear hK K));apply hK;clear hK K))
      (refine T.reg (by kernel_rfl) fun K' hK'=>?_;simp only [bz];(with_reducible repeat' (first|(apply WL.fin;apply hK';clear hK' K')|(refine WL.step fun K2 hK2=>?_;simp only [simprocAttr,az,hrn,hn0,Option.map_some,Nat.sub_zero,Nat.zero_le];repeat' (first|(apply hK2;clear hK2 K2)|apply And.intro|intro hb))));all_goals ((try simp only [zb,za,reduceIte,Nat.reduceEqDiff]);(try ((repeat ((fail_if_success apply hK);clear hK K));apply hK;clear hK K))))
      repeat' (first|refine T.zh fun K hK=>?_|apply T.block|apply T.skip|apply T.exit|refine T.zg rfl ?_|refine T.zf rfl ?_|refine T.cond rfl (fun hc=>?_) (fun hc=>?_)|apply T.ret|simp only [zb,za,reduceIte,Nat.reduceEqDiff]|((repeat ((fail_if_success apply hK);clear hK K));apply hK;clear hK K))
      refine T.qC (fun q:Nat=>⟨[(7,.ptr 0 0),(9,.p (.seq 1 BP)),(17,.own 1),(20,.suf 2 1 0),(144,.p (.seq 1 (rowZ ev))),(145,.int ev.length),(146,.int c),(165,.int n),(166,.int q)],[(0,.boxP none 25 [.bool false,.p (.seq 1 (rowZ ev))]),(1,.row 4 1 (rowT n (inT ev))),(2,.row 4 1 (rowT n (inT (zs S))))],182,3⟩) (fun q=>q≤n ∧ ∀ m:Nat,m<q→m ∈ S→(m:Int) ∈ ev) (fun q=>n-q) 0 ⟨Nat.zero_le _,fun m hm=>by omega⟩ (by refine zk.of' rfl ?_;simp only [wks,reduceIte,Nat.reduceEqDiff,ASt.okB,AV.okB,Nat.reduceLT,implies_true,Int.natCast_zero]) ?_
      rintro q ⟨hq,hcq⟩ KL5 hKL5
      by_cases hqn:q<n
      ·have hd6:decide ((q:Int)<(n:Int))=true:=by simpa using hqn
       have hq0:(0:Int)≤(q:Int):=by omega
       have q1:=z2l (inT (zs S)) hqn
       have q2:=z2l (inT ev) hqn
       have hwq:=zu (show q<1152921504606846976 by omega)
       cases c1:inT (zs S) q with
       | false =>
        rw [c1] at q1
        repeat' (first|refine T.zh fun K hK=>?_|apply T.block|(refine T.reg (by kernel_rfl) fun K' hK'=>?_;simp only [bz];(with_reducible repeat' (first|(apply WL.fin;apply hK';clear hK' K')|(refine WL.step fun K2 hK2=>?_;simp only [simprocAttr,az,hd6,hq0,Int.toNat_natCast,q1,z01,Nat.add_zero,Nat.zero_add,Nat.sub_zero,hqn];repeat' (first|(apply hK2;clear hK2 K2)|apply And.intro|intro hb)))))|apply T.skip|apply T.exit|refine T.zg rfl ?_|refine T.zf rfl ?_|refine T.cond rfl (fun hc=>?_) (fun hc=>?_)|apply T.ret|simp only [zb,za,reduceIte,Nat.reduceEqDiff]|((repeat ((fail_if_success apply hK);clear hK K));apply hK;clear hK K))
        refine hKL5 _ (q+1) ?_ ⟨hqn,fun m hm hmS=>?_⟩ (by omega)
        ·refine zk.of' rfl ?_;simp only [wks,reduceIte,Nat.reduceEqDiff,ASt.okB,AV.okB,Nat.reduceLT,implies_true,hwq]
        ·by_cases e:m=q
         ·subst e
          have:=z1s.2 (z9m hmS)
          rw [c1] at this;cases this
         ·exact hcq m (by omega) hmS
       | true =>
        rw [c1] at q1
        cases c2:inT ev q with
        | true =>
         rw [c2] at q2
         repeat' (first|refine T.zh fun K hK=>?_|apply T.block|(refine T.reg (by kernel_rfl) fun K' hK'=>?_;simp only [bz];(with_reducible repeat' (first|(apply WL.fin;apply hK';clear hK' K')|(refine WL.step fun K2 hK2=>?_;simp only [simprocAttr,az,hd6,hq0,Int.toNat_natCast,q1,q2,z01,Nat.add_zero,Nat.zero_add,Nat.sub_zero,hqn,Bool.not_true];repeat' (first|(apply hK2;clear hK2 K2)|apply And.intro|intro hb)))))|apply T.skip|apply T.exit|refine T.zg rfl ?_|refine T.zf rfl ?_|refine T.cond rfl (fun hc=>?_) (fun hc=>?_)|apply T.ret|simp only [zb,za,reduceIte,Nat.reduceEqDiff]|((repeat ((fail_if_success apply hK);clear hK K));apply hK;clear hK K))
         refine hKL5 _ (q+1) ?_ ⟨hqn,fun m hm hmS=>?_⟩ (by omega)
         ·refine zk.of' rfl ?_;simp only [wks,reduceIte,Nat.reduceEqDiff,ASt.okB,AV.okB,Nat.reduceLT,implies_true,hwq]
         ·by_cases e:m=q
          ·subst e;exact z1s.1 c2
          ·exact hcq m (by omega) hmS
        | false =>
         have hB:chkB l I J false ev=false:=zZ fun h=>by
          obtain ⟨m,h1,h2⟩:=z5X (z1s.1 c1)
          have h3:q=m:=by omega
          subst h3
          rw [hS] at h1
          obtain ⟨h4,h5⟩:=z2h.1 h1
          have h6:=z1s.2 (h.cls rfl x (List.mem_of_getElem? hx) q (by omega) h5)
          rw [c2] at h6;cases h6
         rw [c2] at q2
         repeat' (first|refine T.zh fun K hK=>?_|apply T.block|(refine T.reg (by kernel_rfl) fun K' hK'=>?_;simp only [bz];(with_reducible repeat' (first|(apply WL.fin;apply hK';clear hK' K')|(refine WL.step fun K2 hK2=>?_;simp only [simprocAttr,az,hd6,hq0,Int.toNat_natCast,q1,q2,z01,Nat.add_zero,Nat.zero_add,Nat.sub_zero,hqn,Bool.not_false];repeat' (first|(apply hK2;clear hK2 K2)|apply And.intro|intro hb)))))|apply T.skip|apply T.exit|refine T.zg rfl ?_|refine T.zf rfl ?_|refine T.cond rfl (fun hc=>?_) (fun hc=>?_)|apply T.ret|simp only [zb,za,reduceIte,Nat.reduceEqDiff]|((repeat ((fail_if_success apply hK);clear hK K));apply hK;clear hK K))
         all_goals (refine zH.ret (.inr rfl) Tryz.results9 ?_;simp only [zw,zt,zq,simprocAttr,az,hB])
      have hd6:decide ((q:Int)<(n:Int))=false:=by simpa using hqn
      repeat' (first|refine T.zh fun K hK=>?_|apply T.block|(refine T.reg (by kernel_rfl) fun K' hK'=>?_;simp only [bz];(with_reducible repeat' (first|(apply WL.fin;apply hK';clear hK' K')|(refine WL.step fun K2 hK2=>?_;simp only [simprocAttr,az,hd6];repeat' (first|(apply hK2;clear hK2 K2)|apply And.intro|intro hb)))))|apply T.skip|apply T.exit|refine T.zg rfl ?_|refine T.zf rfl ?_|refine T.cond rfl (fun hc=>?_) (fun hc=>?_)|apply T.ret|simp only [zb,za,reduceIte,Nat.reduceEqDiff]|((repeat ((fail_if_success apply hK);clear hK K));apply hK;clear hK K))
      refine hKL3 _ (c+1,inT (zs S)) ?_ ⟨hcn,fun y hy m hm him=>?_⟩ (by simp only;omega)
      ·refine zk.of' rfl ?_;simp only [wks,reduceIte,Nat.reduceEqDiff,ASt.okB,AV.okB,Nat.reduceLT,implies_true,zu (show c<1152921504606846976 by omega)]
      ·simp only at hy
       rw [hts,List.mem_append,List.mem_singleton] at hy
       rcases hy with hy|rfl
       ·exact hcl y hy m hm him
       ·exact hcq m (by omega) (by rw [hS];exact z2h.2 ⟨by omega,him⟩)
     have hd4:decide ((c:Int)<(ev.length:Int))=false:=by simpa using hcn
     have hB:chkB l I J false ev=true:=z3J (by
      rw [show c=ev.length by omega,List.take_length] at hcl
      exact ⟨hpp,hrg,hin,fun h=>(by cases h),fun h=>(by cases h),fun h=>(by cases h),fun _ h=>(by have:=z1s.2 h;rw [hcI] at this;cases this),fun _=>z1s.1 hcJ,fun _=>hcl⟩)
     repeat' (first|refine T.zh fun K hK=>?_|apply T.block|(refine T.reg (by kernel_rfl) fun K' hK'=>?_;simp only [bz];(with_reducible repeat' (first|(apply WL.fin;apply hK';clear hK' K')|(refine WL.step fun K2 hK2=>?_;simp only [simprocAttr,az,hd4];repeat' (first|(apply hK2;clear hK2 K2)|apply And.intro|intro hb)))))|apply T.skip|apply T.exit|refine T.zg rfl ?_|refine T.zf rfl ?_|refine T.cond rfl (fun hc=>?_) (fun hc=>?_)|apply T.ret|simp only [zb,za,reduceIte,Nat.reduceEqDiff]|((repeat ((fail_if_success apply hK);clear hK K));apply hK;clear hK K))
     all_goals (refine zH.ret (.inr rfl) Tryz.results9 ?_;simp only [zw,zt,zq,simprocAttr,az,hB])
theorem immZ_ok {l:List Ev} (hl:l.length≤100000) {a b:Nat} (hab:a<b) (hb:b<l.length):zx Tryz.prog 29 [.p (.seq 9 (l.map evC)),.int a,.int b] (.bool (immL l a b)):=by
 obtain ⟨x,hx⟩:=zQ (show a<l.length by omega)
 obtain ⟨y,hy⟩:=zQ hb
 have h:=imm_ok l a b x y hx hy hab (by omega)
 have e:immL l a b=immB l x y a b:=by unfold immL;rw [hx,hy]
 rw [e];exact h
theorem same_ok (o:Bool) (r:List Nat) (hr:r.length≤1000000000000):zx Tryz.prog 8 [rsnN o r,rsnN o r] (.bool true):=by
 have hs:=z8d r hr
 refine zx.of Tryz.func8 rfl 17 rfl (by decide) (by simp [AV.okB,rsnN]) ?_
 simp only [rsnN]
 have ht:(o==o)=true:=by simp
 repeat' (first|refine T.zh fun K hK=>?_|apply T.block|(refine T.reg (by kernel_rfl) fun K' hK'=>?_;simp only [bz];(repeat' (first|(with_reducible refine WL.fin ?_;apply hK';clear hK' K')|((with_reducible refine WL.step fun K2 hK2=>?_);simp only [simprocAttr,az,ht];(repeat' (first|with_reducible (first|(apply hK2;clear hK2 K2)|apply And.intro|intro hb)|((with_reducible first|apply zl|apply zm);case h=>exact CallV.plain (Ent.of Tryz.func21 (by kernel_rfl) rfl) (hs) (by simp [AV.okB]))))))))|apply T.skip|apply T.exit|refine T.zg rfl ?_|refine T.zf rfl ?_|refine T.cond rfl (fun hc=>?_) (fun hc=>?_)|apply T.ret|simp only [zb,za,reduceIte,Nat.reduceEqDiff]|((repeat ((fail_if_success apply hK);clear hK K));apply hK;clear hK K))
 refine zH.ret (.inr rfl) Tryz.results8 ?_;simp only [zw,zt,zq,simprocAttr,az,]
theorem immI_ok {l:List Ev} (hl:l.length≤100000) {a b:Int} (h0 : 0≤a) (hab:a<b) (hb:b<(l.length:Int)):zx Tryz.prog 29 [.p (.seq 9 (l.map evC)),.int a,.int b] (.bool (immL l a.toNat b.toNat)):=by
 have h:=immZ_ok hl (show a.toNat<b.toNat by omega) (show b.toNat<l.length by omega)
 rw [show ((a.toNat:Nat):Int)=a by omega,show ((b.toNat:Nat):Int)=b by omega] at h
 exact h
theorem fitsT_ok (l:List Ev) (i j:Int) (o:Bool) (ev:List Int) (hl:l.length≤100000) (hel:ev.length≤100000):zx Tryz.prog 14 [.p (.seq 9 (l.map evC)),.int i,.int j,rsnA o ev] (.bool (chkB l i j o ev)):=by
 have hn:=place_ok l i j hl
 have hlm:(l.map evC).length=l.length:=by simp
 have hzl:=z1C ev
 refine zx.of Tryz.func14 rfl 144 rfl (by decide) (by simp [AV.okB,rsnA]) ?_
 simp only [rsnA]
 cases hp:plcB l i j with
 | false =>
  rw [hp] at hn
  have hB:chkB l i j o ev=false:=zZ fun h=>by have:=z2K.2 h.plc;rw [hp] at this;cases this
  repeat' (first|refine T.zh fun K hK=>?_|apply T.block|(refine T.reg (by kernel_rfl) fun K' hK'=>?_;simp only [bz];(repeat' (first|(with_reducible refine WL.fin ?_;apply hK';clear hK' K')|((with_reducible refine WL.step fun K2 hK2=>?_);simp only [simprocAttr,az,hlm,Bool.not_false];(repeat' (first|with_reducible (first|(apply hK2;clear hK2 K2)|apply And.intro|intro hb)|((with_reducible first|apply zl|apply zm);case h=>exact CallV.plain (Ent.of Tryz.func28 (by kernel_rfl) rfl) (hn) (by simp [AV.okB]))))))))|apply T.skip|apply T.exit|refine T.zg rfl ?_|refine T.zf rfl ?_|refine T.cond rfl (fun hc=>?_) (fun hc=>?_)|apply T.ret|simp only [zb,za,reduceIte,Nat.reduceEqDiff]|((repeat ((fail_if_success apply hK);clear hK K));apply hK;clear hK K))
  all_goals (refine zH.ret (.inr rfl) Tryz.results14 ?_;simp only [zw,zt,zq,simprocAttr,az,hB])
 | true =>
  have hpp:=z2K.1 hp
  obtain ⟨I,rfl⟩ : ∃ I:Nat,i=I:=⟨i.toNat,by have:=hpp.2.1;omega⟩
  obtain ⟨J,rfl⟩ : ∃ J:Nat,j=J:=⟨j.toNat,by have:=hpp.2.1;have:=hpp.2.2.1;omega⟩
  have hIJ:I<J:=by have:=hpp.2.2.1;omega
  have hJl:J<l.length:=by have:=hpp.2.2.2;omega
  rw [hp] at hn
  repeat' (first|refine T.zh fun K hK=>?_|apply T.block|(refine T.reg (by kernel_rfl) fun K' hK'=>?_;simp only [bz];(repeat' (first|(with_reducible refine WL.fin ?_;apply hK';clear hK' K')|((with_reducible refine WL.step fun K2 hK2=>?_);simp only [simprocAttr,az,hlm,hzl,Bool.not_true];(repeat' (first|with_reducible (first|(apply hK2;clear hK2 K2)|apply And.intro|intro hb)|((with_reducible first|apply zl|apply zm);case h=>exact CallV.plain (Ent.of Tryz.func28 (by kernel_rfl) rfl) (hn) (by simp [AV.okB]))))))))|apply T.skip|apply T.exit|refine T.zg rfl ?_|refine T.zf rfl ?_|refine T.cond rfl (fun hc=>?_) (fun hc=>?_)|apply T.ret|simp only [zb,za,reduceIte,Nat.reduceEqDiff]|((repeat ((fail_if_success apply hK);clear hK K));apply hK;clear hK K))
  clear hn
  refine T.qC (fun k:Nat=>⟨[(0,.p (.seq 9 (l.map evC))),(1,.int I),(2,.int J),(7,.ptr 0 0),(9,.int k)],[(0,.boxP none 25 [.bool o,.p (.seq 1 (rowZ ev))])],144,1⟩) (fun k=>k≤ev.length∧(∀ x ∈ ev.take k,0≤x∧x<(l.length:Int)) ∧ ∀ q a b,q+1<k→ev[q]? = some a→ev[q+1]? = some b→a<b) (fun k=>ev.length-k) 0 ⟨Nat.zero_le _,by simp,fun q a b hq=>by omega⟩ (by refine zk.of' rfl ?_;simp only [wks,reduceIte,Nat.reduceEqDiff,ASt.okB,AV.okB,Nat.reduceLT,implies_true,Int.natCast_zero]) ?_
  rintro k ⟨hk,hrg,hinc⟩ KL hKL
  by_cases hkn:k<ev.length
  ·have hd:decide ((k:Int)<(ev.length:Int))=true:=by simpa using hkn
   have hk0:(0:Int)≤(k:Int):=by omega
   obtain ⟨x,hx⟩:=zQ hkn
   have m1:=qR hx
   have hts:=z1U hx
   have hxm:=List.mem_of_getElem? hx
   by_cases hb : 0≤x∧x<(l.length:Int)
   ·have d1:decide (x<0)=false:=by simp;omega
    have d2:decide ((l.length:Int)≤x)=false:=by simp;omega
    have hrg2 : ∀ y ∈ ev.take (k+1),0≤y∧y<(l.length:Int):=fun y hy=>by
     rw [hts,List.mem_append,List.mem_singleton] at hy
     rcases hy with hy|rfl
     ·exact hrg y hy
     ·exact hb
    by_cases hkz:k=0
    ·have hd2:decide ((0:Int)<(k:Int))=false:=by rw [hkz];rfl
     repeat' (first|refine T.zh fun K hK=>?_|apply T.block|apply T.skip|apply T.exit|refine T.zg rfl ?_|refine T.zf rfl ?_|refine T.cond rfl (fun hc=>?_) (fun hc=>?_)|apply T.ret|simp only [zb,za,reduceIte,Nat.reduceEqDiff]|((repeat ((fail_if_success apply hK);clear hK K));apply hK;clear hK K))
     (refine T.reg (by kernel_rfl) fun K' hK'=>?_;simp only [bz];(with_reducible repeat' (first|(apply WL.fin;apply hK';clear hK' K')|(refine WL.step fun K2 hK2=>?_;simp only [simprocAttr,az,hlm,hzl,hd];repeat' (first|(apply hK2;clear hK2 K2)|apply And.intro|intro hb))));all_goals ((try simp only [zb,za,reduceIte,Nat.reduceEqDiff]);(try ((repeat ((fail_if_success apply hK);clear hK K));apply hK;clear hK K))))
     repeat' (first|refine T.zh fun K hK=>?_|apply T.block|apply T.skip|apply T.exit|refine T.zg rfl ?_|refine T.zf rfl ?_|refine T.cond rfl (fun hc=>?_) (fun hc=>?_)|apply T.ret|simp only [zb,za,reduceIte,Nat.reduceEqDiff]|((repeat ((fail_if_success apply hK);clear hK K));apply hK;clear hK K))
     refine T.comm [c0,c0,c0,c0,c0,c0,c0,c0,c0,c0,c0,c0,c0,c0,c0,c0,c0,c0,c0,c0,c0,c0,c0,c0,c0,c0,c0,c0,c0,c0,c0,c0,c0,c0] (by kernel_rfl) (by kernel_rfl) fun K' hK'=>?_;simp only [List.map_cons,List.map_nil,List.zip_cons_cons,List.zip_nil_left];(repeat' (first|(with_reducible refine WC.fin ?_;apply hK';clear hK' K')|((first|(with_reducible refine WC.z0Q fun K2 hK2=>?_)|(with_reducible refine WC.stepW fun K2 hK2=>?_));simp only [simprocAttr,implies_true,amz,WCg,WCv,WOw,allP,dav,Chk,List.filter_cons,List.filter_nil,bne_self_eq_false,Nat.reduceBneDiff,Bool.false_eq_true,tys,hlm,hk0,Int.toNat_natCast,m1,d1,d2,hd2];(repeat' (first|(with_reducible refine hK2 _ _ ?_;clear hK2 K2)|with_reducible (first|(apply hK2;clear hK2 K2)|apply And.intro|intro hb)|(with_reducible rfl)|((with_reducible show @Eq ASt _ _);rfl) )))));all_goals ((try simp only [zb,za,reduceIte,Nat.reduceEqDiff]);(try ((repeat ((fail_if_success apply hK);clear hK K));apply hK;clear hK K)))
     repeat' (first|refine T.zh fun K hK=>?_|apply T.block|(refine T.reg (by kernel_rfl) fun K' hK'=>?_;simp only [bz];(with_reducible repeat' (first|(apply WL.fin;apply hK';clear hK' K')|(refine WL.step fun K2 hK2=>?_;simp only [simprocAttr,az];repeat' (first|(apply hK2;clear hK2 K2)|apply And.intro|intro hb)))))|apply T.skip|apply T.exit|refine T.zg rfl ?_|refine T.zf rfl ?_|refine T.cond rfl (fun hc=>?_) (fun hc=>?_)|apply T.ret|simp only [zb,za,reduceIte,Nat.reduceEqDiff]|((repeat ((fail_if_success apply hK);clear hK K));apply hK;clear hK K))
     refine hKL _ (k+1) ?_ ⟨hkn,hrg2,fun q a b hq=>by omega⟩ (by omega)
     refine zk.of' rfl ?_;simp only [wks,reduceIte,Nat.reduceEqDiff,ASt.okB,AV.okB,Nat.reduceLT,implies_true,zu (show k<1152921504606846976 by omega)]
    ·have hd2:decide ((0:Int)<(k:Int))=true:=by simp;omega
     have hwp:=z2y (show 0<k by omega) (show k<1152921504606846976 by omega)
     have hp0:(0:Int)≤((k-1:Nat):Int):=by omega
     obtain ⟨y,hy⟩:=zQ (show k-1<ev.length by omega)
     have m2:=qR hy
     have hx3:ev[(k-1)+1]? = some x:=by rw [show k-1+1=k by omega];exact hx
     cases hd3:decide (x≤y) with
     | true =>
      have hB:chkB l I J o ev=false:=zZ fun h=>by
       have h1:=h.inc (k-1) y x hy hx3
       have h2:=of_decide_eq_true hd3
       omega
      repeat' (first|refine T.zh fun K hK=>?_|apply T.block|apply T.skip|apply T.exit|refine T.zg rfl ?_|refine T.zf rfl ?_|refine T.cond rfl (fun hc=>?_) (fun hc=>?_)|apply T.ret|simp only [zb,za,reduceIte,Nat.reduceEqDiff]|((repeat ((fail_if_success apply hK);clear hK K));apply hK;clear hK K))
      (refine T.reg (by kernel_rfl) fun K' hK'=>?_;simp only [bz];(with_reducible repeat' (first|(apply WL.fin;apply hK';clear hK' K')|(refine WL.step fun K2 hK2=>?_;simp only [simprocAttr,az,hlm,hzl,hd];repeat' (first|(apply hK2;clear hK2 K2)|apply And.intro|intro hb))));all_goals ((try simp only [zb,za,reduceIte,Nat.reduceEqDiff]);(try ((repeat ((fail_if_success apply hK);clear hK K));apply hK;clear hK K))))
      repeat' (first|refine T.zh fun K hK=>?_|apply T.block|apply T.skip|apply T.exit|refine T.zg rfl ?_|refine T.zf rfl ?_|refine T.cond rfl (fun hc=>?_) (fun hc=>?_)|apply T.ret|simp only [zb,za,reduceIte,Nat.reduceEqDiff]|((repeat ((fail_if_success apply hK);clear hK K));apply hK;clear hK K))
      refine T.comm [c0,c0,c0,c0,c0,c0,c0,c0,c0,c0,c0,c0,c0,c0,c0,c0,c0,c0,c0,c0,c0,c0,c0,c0,c0,c0,c0,c0,c0,c0,c0,c0,c0,c0] (by kernel_rfl) (by kernel_rfl) fun K' hK'=>?_;simp only [List.map_cons,List.map_nil,List.zip_cons_cons,List.zip_nil_left];(repeat' (first|(with_reducible refine WC.fin ?_;apply hK';clear hK' K')|((first|(with_reducible refine WC.z0Q fun K2 hK2=>?_)|(with_reducible refine WC.stepW fun K2 hK2=>?_));simp only [simprocAttr,implies_true,amz,WCg,WCv,WOw,allP,dav,Chk,List.filter_cons,List.filter_nil,bne_self_eq_false,Nat.reduceBneDiff,Bool.false_eq_true,tys,hlm,hk0,hp0,hwp,Int.toNat_natCast,m1,m2,d1,d2,hd2,hd3];(repeat' (first|(with_reducible refine hK2 _ _ ?_;clear hK2 K2)|with_reducible (first|(apply hK2;clear hK2 K2)|apply And.intro|intro hb)|(with_reducible rfl)|((with_reducible show @Eq ASt _ _);rfl) )))));all_goals ((try simp only [zb,za,reduceIte,Nat.reduceEqDiff]);(try ((repeat ((fail_if_success apply hK);clear hK K));apply hK;clear hK K)))
      repeat' (first|refine T.zh fun K hK=>?_|apply T.block|(refine T.reg (by kernel_rfl) fun K' hK'=>?_;simp only [bz];(with_reducible repeat' (first|(apply WL.fin;apply hK';clear hK' K')|(refine WL.step fun K2 hK2=>?_;simp only [simprocAttr,az];repeat' (first|(apply hK2;clear hK2 K2)|apply And.intro|intro hb)))))|apply T.skip|apply T.exit|refine T.zg rfl ?_|refine T.zf rfl ?_|refine T.cond rfl (fun hc=>?_) (fun hc=>?_)|apply T.ret|simp only [zb,za,reduceIte,Nat.reduceEqDiff]|((repeat ((fail_if_success apply hK);clear hK K));apply hK;clear hK K))
      all_goals (refine zH.ret (.inr rfl) Tryz.results14 ?_;simp only [zw,zt,zq,simprocAttr,az,hB])
     | false =>
      repeat' (first|refine T.zh fun K hK=>?_|apply T.block|apply T.skip|apply T.exit|refine T.zg rfl ?_|refine T.zf rfl ?_|refine T.cond rfl (fun hc=>?_) (fun hc=>?_)|apply T.ret|simp only [zb,za,reduceIte,Nat.reduceEqDiff]|((repeat ((fail_if_success apply hK);clear hK K));apply hK;clear hK K))
      (refine T.reg (by kernel_rfl) fun K' hK'=>?_;simp only [bz];(with_reducible repeat' (first|(apply WL.fin;apply hK';clear hK' K')|(refine WL.step fun K2 hK2=>?_;simp only [simprocAttr,az,hlm,hzl,hd];repeat' (first|(apply hK2;clear hK2 K2)|apply And.intro|intro hb))));all_goals ((try simp only [zb,za,reduceIte,Nat.reduceEqDiff]);(try ((repeat ((fail_if_success apply hK);clear hK K));apply hK;clear hK K))))
      repeat' (first|refine T.zh fun K hK=>?_|apply T.block|apply T.skip|apply T.exit|refine T.zg rfl ?_|refine T.zf rfl ?_|refine T.cond rfl (fun hc=>?_) (fun hc=>?_)|apply T.ret|simp only [zb,za,reduceIte,Nat.reduceEqDiff]|((repeat ((fail_if_success apply hK);clear hK K));apply hK;clear hK K))
      refine T.comm [c0,c0,c0,c0,c0,c0,c0,c0,c0,c0,c0,c0,c0,c0,c0,c0,c0,c0,c0,c0,c0,c0,c0,c0,c0,c0,c0,c0,c0,c0,c0,c0,c0,c0] (by kernel_rfl) (by kernel_rfl) fun K' hK'=>?_;simp only [List.map_cons,List.map_nil,List.zip_cons_cons,List.zip_nil_left];(repeat' (first|(with_reducible refine WC.fin ?_;apply hK';clear hK' K')|((first|(with_reducible refine WC.z0Q fun K2 hK2=>?_)|(with_reducible refine WC.stepW fun K2 hK2=>?_));simp only [simprocAttr,implies_true,amz,WCg,WCv,WOw,allP,dav,Chk,List.filter_cons,List.filter_nil,bne_self_eq_false,Nat.reduceBneDiff,Bool.false_eq_true,tys,hlm,hk0,hp0,hwp,Int.toNat_natCast,m1,m2,d1,d2,hd2,hd3];(repeat' (first|(with_reducible refine hK2 _ _ ?_;clear hK2 K2)|with_reducible (first|(apply hK2;clear hK2 K2)|apply And.intro|intro hb)|(with_reducible rfl)|((with_reducible show @Eq ASt _ _);rfl) )))));all_goals ((try simp only [zb,za,reduceIte,Nat.reduceEqDiff]);(try ((repeat ((fail_if_success apply hK);clear hK K));apply hK;clear hK K)))
      repeat' (first|refine T.zh fun K hK=>?_|apply T.block|(refine T.reg (by kernel_rfl) fun K' hK'=>?_;simp only [bz];(with_reducible repeat' (first|(apply WL.fin;apply hK';clear hK' K')|(refine WL.step fun K2 hK2=>?_;simp only [simprocAttr,az];repeat' (first|(apply hK2;clear hK2 K2)|apply And.intro|intro hb)))))|apply T.skip|apply T.exit|refine T.zg rfl ?_|refine T.zf rfl ?_|refine T.cond rfl (fun hc=>?_) (fun hc=>?_)|apply T.ret|simp only [zb,za,reduceIte,Nat.reduceEqDiff]|((repeat ((fail_if_success apply hK);clear hK K));apply hK;clear hK K))
      refine hKL _ (k+1) ?_ ⟨hkn,hrg2,fun q a b hq ha hb=>?_⟩ (by omega)
      ·refine zk.of' rfl ?_;simp only [wks,reduceIte,Nat.reduceEqDiff,ASt.okB,AV.okB,Nat.reduceLT,implies_true,zu (show k<1152921504606846976 by omega)]
      ·by_cases e:q=k-1
       ·subst e
        rw [hy] at ha;rw [hx3] at hb
        cases ha;cases hb
        have h2:=of_decide_eq_false hd3
        omega
       ·exact hinc q a b (by omega) ha hb
   ·have hB:chkB l I J o ev=false:=zZ fun h=>hb (h.rng x hxm)
    cases d1:decide (x<0) with
    | true =>
     repeat' (first|refine T.zh fun K hK=>?_|apply T.block|apply T.skip|apply T.exit|refine T.zg rfl ?_|refine T.zf rfl ?_|refine T.cond rfl (fun hc=>?_) (fun hc=>?_)|apply T.ret|simp only [zb,za,reduceIte,Nat.reduceEqDiff]|((repeat ((fail_if_success apply hK);clear hK K));apply hK;clear hK K))
     (refine T.reg (by kernel_rfl) fun K' hK'=>?_;simp only [bz];(with_reducible repeat' (first|(apply WL.fin;apply hK';clear hK' K')|(refine WL.step fun K2 hK2=>?_;simp only [simprocAttr,az,hlm,hzl,hd];repeat' (first|(apply hK2;clear hK2 K2)|apply And.intro|intro hb))));all_goals ((try simp only [zb,za,reduceIte,Nat.reduceEqDiff]);(try ((repeat ((fail_if_success apply hK);clear hK K));apply hK;clear hK K))))
     repeat' (first|refine T.zh fun K hK=>?_|apply T.block|apply T.skip|apply T.exit|refine T.zg rfl ?_|refine T.zf rfl ?_|refine T.cond rfl (fun hc=>?_) (fun hc=>?_)|apply T.ret|simp only [zb,za,reduceIte,Nat.reduceEqDiff]|((repeat ((fail_if_success apply hK);clear hK K));apply hK;clear hK K))
     refine T.comm [c0,c0,c0,c0,c0,c0,c0,c0,c0,c0,c0,c0,c0,c0,c0,c0,c0,c0,c0,c0,c0,c0,c0,c0,c0,c0,c0,c0,c0,c0,c0,c0,c0,c0] (by kernel_rfl) (by kernel_rfl) fun K' hK'=>?_;simp only [List.map_cons,List.map_nil,List.zip_cons_cons,List.zip_nil_left];(repeat' (first|(with_reducible refine WC.fin ?_;apply hK';clear hK' K')|((first|(with_reducible refine WC.z0Q fun K2 hK2=>?_)|(with_reducible refine WC.stepW fun K2 hK2=>?_));simp only [simprocAttr,implies_true,amz,WCg,WCv,WOw,allP,dav,Chk,List.filter_cons,List.filter_nil,bne_self_eq_false,Nat.reduceBneDiff,Bool.false_eq_true,tys,hlm,hk0,Int.toNat_natCast,m1,d1];(repeat' (first|(with_reducible refine hK2 _ _ ?_;clear hK2 K2)|with_reducible (first|(apply hK2;clear hK2 K2)|apply And.intro|intro hb)|(with_reducible rfl)|((with_reducible show @Eq ASt _ _);rfl) )))));all_goals ((try simp only [zb,za,reduceIte,Nat.reduceEqDiff]);(try ((repeat ((fail_if_success apply hK);clear hK K));apply hK;clear hK K)))
     repeat' (first|refine T.zh fun K hK=>?_|apply T.block|(refine T.reg (by kernel_rfl) fun K' hK'=>?_;simp only [bz];(with_reducible repeat' (first|(apply WL.fin;apply hK';clear hK' K')|(refine WL.step fun K2 hK2=>?_;simp only [simprocAttr,az];repeat' (first|(apply hK2;clear hK2 K2)|apply And.intro|intro hb)))))|apply T.skip|apply T.exit|refine T.zg rfl ?_|refine T.zf rfl ?_|refine T.cond rfl (fun hc=>?_) (fun hc=>?_)|apply T.ret|simp only [zb,za,reduceIte,Nat.reduceEqDiff]|((repeat ((fail_if_success apply hK);clear hK K));apply hK;clear hK K))
     all_goals (refine zH.ret (.inr rfl) Tryz.results14 ?_;simp only [zw,zt,zq,simprocAttr,az,hB])
    | false =>
     have d2:decide ((l.length:Int)≤x)=true:=by have:=of_decide_eq_false d1;simp;omega
     repeat' (first|refine T.zh fun K hK=>?_|apply T.block|apply T.skip|apply T.exit|refine T.zg rfl ?_|refine T.zf rfl ?_|refine T.cond rfl (fun hc=>?_) (fun hc=>?_)|apply T.ret|simp only [zb,za,reduceIte,Nat.reduceEqDiff]|((repeat ((fail_if_success apply hK);clear hK K));apply hK;clear hK K))
     (refine T.reg (by kernel_rfl) fun K' hK'=>?_;simp only [bz];(with_reducible repeat' (first|(apply WL.fin;apply hK';clear hK' K')|(refine WL.step fun K2 hK2=>?_;simp only [simprocAttr,az,hlm,hzl,hd];repeat' (first|(apply hK2;clear hK2 K2)|apply And.intro|intro hb))));all_goals ((try simp only [zb,za,reduceIte,Nat.reduceEqDiff]);(try ((repeat ((fail_if_success apply hK);clear hK K));apply hK;clear hK K))))
     repeat' (first|refine T.zh fun K hK=>?_|apply T.block|apply T.skip|apply T.exit|refine T.zg rfl ?_|refine T.zf rfl ?_|refine T.cond rfl (fun hc=>?_) (fun hc=>?_)|apply T.ret|simp only [zb,za,reduceIte,Nat.reduceEqDiff]|((repeat ((fail_if_success apply hK);clear hK K));apply hK;clear hK K))
     refine T.comm [c0,c0,c0,c0,c0,c0,c0,c0,c0,c0,c0,c0,c0,c0,c0,c0,c0,c0,c0,c0,c0,c0,c0,c0,c0,c0,c0,c0,c0,c0,c0,c0,c0,c0] (by kernel_rfl) (by kernel_rfl) fun K' hK'=>?_;simp only [List.map_cons,List.map_nil,List.zip_cons_cons,List.zip_nil_left];(repeat' (first|(with_reducible refine WC.fin ?_;apply hK';clear hK' K')|((first|(with_reducible refine WC.z0Q fun K2 hK2=>?_)|(with_reducible refine WC.stepW fun K2 hK2=>?_));simp only [simprocAttr,implies_true,amz,WCg,WCv,WOw,allP,dav,Chk,List.filter_cons,List.filter_nil,bne_self_eq_false,Nat.reduceBneDiff,Bool.false_eq_true,tys,hlm,hk0,Int.toNat_natCast,m1,d1,d2];(repeat' (first|(with_reducible refine hK2 _ _ ?_;clear hK2 K2)|with_reducible (first|(apply hK2;clear hK2 K2)|apply And.intro|intro hb)|(with_reducible rfl)|((with_reducible show @Eq ASt _ _);rfl) )))));all_goals ((try simp only [zb,za,reduceIte,Nat.reduceEqDiff]);(try ((repeat ((fail_if_success apply hK);clear hK K));apply hK;clear hK K)))
     repeat' (first|refine T.zh fun K hK=>?_|apply T.block|(refine T.reg (by kernel_rfl) fun K' hK'=>?_;simp only [bz];(with_reducible repeat' (first|(apply WL.fin;apply hK';clear hK' K')|(refine WL.step fun K2 hK2=>?_;simp only [simprocAttr,az];repeat' (first|(apply hK2;clear hK2 K2)|apply And.intro|intro hb)))))|apply T.skip|apply T.exit|refine T.zg rfl ?_|refine T.zf rfl ?_|refine T.cond rfl (fun hc=>?_) (fun hc=>?_)|apply T.ret|simp only [zb,za,reduceIte,Nat.reduceEqDiff]|((repeat ((fail_if_success apply hK);clear hK K));apply hK;clear hK K))
     all_goals (refine zH.ret (.inr rfl) Tryz.results14 ?_;simp only [zw,zt,zq,simprocAttr,az,hB])
  have hd:decide ((k:Int)<(ev.length:Int))=false:=by simpa using hkn
  have hke:k=ev.length:=by omega
  rw [hke,List.take_length] at hrg
  have hin : ∀ q a b,ev[q]? = some a→ev[q+1]? = some b→a<b:=fun q a b ha hb=>hinc q a b (by have:=(List.getElem?_eq_some_iff.1 hb).1;omega) ha hb
  clear hinc hke hk hkn
  cases o with
  | true =>
   by_cases he0:ev.length=0
   ·have hd0:((ev.length:Int)==0)=true:=by rw [he0];rfl
    have hB:chkB l I J true ev=false:=zZ fun h=>by
     have h1:=(List.getElem?_eq_some_iff.1 (h.fst rfl)).1;omega
    repeat' (first|refine T.zh fun K hK=>?_|apply T.block|(refine T.reg (by kernel_rfl) fun K' hK'=>?_;simp only [bz];(with_reducible repeat' (first|(apply WL.fin;apply hK';clear hK' K')|(refine WL.step fun K2 hK2=>?_;simp only [simprocAttr,az,hlm,hzl,hd,hd0];repeat' (first|(apply hK2;clear hK2 K2)|apply And.intro|intro hb)))))|apply T.skip|apply T.exit|refine T.zg rfl ?_|refine T.zf rfl ?_|refine T.cond rfl (fun hc=>?_) (fun hc=>?_)|apply T.ret|simp only [zb,za,reduceIte,Nat.reduceEqDiff]|((repeat ((fail_if_success apply hK);clear hK K));apply hK;clear hK K))
    all_goals (refine zH.ret (.inr rfl) Tryz.results14 ?_;simp only [zw,zt,zq,simprocAttr,az,hB])
   have hd0:((ev.length:Int)==0)=false:=by rw [beq_eq_false_iff_ne];omega
   have hsub:=z2y (show 0<ev.length by omega) (show ev.length<1152921504606846976 by omega)
   have hl0:(0:Int)≤((ev.length-1:Nat):Int):=by omega
   obtain ⟨x,hx⟩:=zQ (show 0<ev.length by omega)
   obtain ⟨y,hy⟩:=zQ (show ev.length-1<ev.length by omega)
   have m1:=qR hx
   have m2:=qR hy
   have ht0:(0:Int).toNat=0:=rfl
   cases e1:(x != (I:Int)) with
   | true =>
    have hB:chkB l I J true ev=false:=zZ fun h=>by
     have h1:=h.fst rfl
     rw [hx] at h1;cases h1;simp at e1
    repeat' (first|refine T.zh fun K hK=>?_|apply T.block|(refine T.reg (by kernel_rfl) fun K' hK'=>?_;simp only [bz];(with_reducible repeat' (first|(apply WL.fin;apply hK';clear hK' K')|(refine WL.step fun K2 hK2=>?_;simp only [simprocAttr,az,hlm,hzl,hd,hd0,ht0,m1,e1];repeat' (first|(apply hK2;clear hK2 K2)|apply And.intro|intro hb)))))|apply T.skip|apply T.exit|refine T.zg rfl ?_|refine T.zf rfl ?_|refine T.cond rfl (fun hc=>?_) (fun hc=>?_)|apply T.ret|simp only [zb,za,reduceIte,Nat.reduceEqDiff]|((repeat ((fail_if_success apply hK);clear hK K));apply hK;clear hK K))
    all_goals (refine zH.ret (.inr rfl) Tryz.results14 ?_;simp only [zw,zt,zq,simprocAttr,az,hB])
   | false =>
    cases e2:(y != (J:Int)) with
    | true =>
     have hB:chkB l I J true ev=false:=zZ fun h=>by
      have h1:=h.lst rfl
      rw [hy] at h1;cases h1;simp at e2
     repeat' (first|refine T.zh fun K hK=>?_|apply T.block|(refine T.reg (by kernel_rfl) fun K' hK'=>?_;simp only [bz];(with_reducible repeat' (first|(apply WL.fin;apply hK';clear hK' K')|(refine WL.step fun K2 hK2=>?_;simp only [simprocAttr,az,hlm,hzl,hd,hd0,ht0,hsub,hl0,Int.toNat_natCast,m1,m2,e1,e2];repeat' (first|(apply hK2;clear hK2 K2)|apply And.intro|intro hb)))))|apply T.skip|apply T.exit|refine T.zg rfl ?_|refine T.zf rfl ?_|refine T.cond rfl (fun hc=>?_) (fun hc=>?_)|apply T.ret|simp only [zb,za,reduceIte,Nat.reduceEqDiff]|((repeat ((fail_if_success apply hK);clear hK K));apply hK;clear hK K))
     all_goals (refine zH.ret (.inr rfl) Tryz.results14 ?_;simp only [zw,zt,zq,simprocAttr,az,hB])
    | false =>
     have hxI:x=(I:Int):=by simpa using e1
     have hyJ:y=(J:Int):=by simpa using e2
     repeat' (first|refine T.zh fun K hK=>?_|apply T.block|(refine T.reg (by kernel_rfl) fun K' hK'=>?_;simp only [bz];(with_reducible repeat' (first|(apply WL.fin;apply hK';clear hK' K')|(refine WL.step fun K2 hK2=>?_;simp only [simprocAttr,az,hlm,hzl,hd,hd0,ht0,hsub,hl0,Int.toNat_natCast,m1,m2,e1,e2];repeat' (first|(apply hK2;clear hK2 K2)|apply And.intro|intro hb)))))|apply T.skip|apply T.exit|refine T.zg rfl ?_|refine T.zf rfl ?_|refine T.cond rfl (fun hc=>?_) (fun hc=>?_)|apply T.ret|simp only [zb,za,reduceIte,Nat.reduceEqDiff]|((repeat ((fail_if_success apply hK);clear hK K));apply hK;clear hK K))
     refine T.qC (fun k:Nat=>⟨[(0,.p (.seq 9 (l.map evC))),(7,.ptr 0 0),(10,.int ev.length),(11,.int k)],[(0,.boxP none 25 [.bool true,.p (.seq 1 (rowZ ev))])],144,1⟩) (fun k => 1≤k∧k≤ev.length ∧ ∀ q a b,q+1<k→ev[q]? = some a→ev[q+1]? = some b→immL l a.toNat b.toNat=true) (fun k=>ev.length-k) 1 ⟨Nat.le_refl _,by omega,fun q a b hq=>by omega⟩ (by refine zk.of' rfl ?_;simp only [wks,reduceIte,Nat.reduceEqDiff,ASt.okB,AV.okB,Nat.reduceLT,implies_true,Int.natCast_one]) ?_
     rintro c ⟨hc1,hc,him⟩ KL2 hKL2
     by_cases hcn:c<ev.length
     ·have hd2:decide ((c:Int)<(ev.length:Int))=true:=by simpa using hcn
      have hc0:(0:Int)≤(c:Int):=by omega
      have hwp:=z2y (show 0<c by omega) (show c<1152921504606846976 by omega)
      have hp0:(0:Int)≤((c-1:Nat):Int):=by omega
      obtain ⟨a,ha⟩:=zQ (show c-1<ev.length by omega)
      obtain ⟨b,hb⟩:=zQ hcn
      have n1:=qR ha
      have n2:=qR hb
      have hb3:ev[(c-1)+1]? = some b:=by rw [show c-1+1=c by omega];exact hb
      have hab:=hin (c-1) a b ha hb3
      have hcall:=immI_ok hl (hrg a (List.mem_of_getElem? ha)).1 hab (hrg b (List.mem_of_getElem? hb)).2
      cases hi:immL l a.toNat b.toNat with
      | true =>
       rw [hi] at hcall
       repeat' (first|refine T.zh fun K hK=>?_|apply T.block|apply T.skip|apply T.exit|refine T.zg rfl ?_|refine T.zf rfl ?_|refine T.cond rfl (fun hc=>?_) (fun hc=>?_)|apply T.ret|simp only [zb,za,reduceIte,Nat.reduceEqDiff]|((repeat ((fail_if_success apply hK);clear hK K));apply hK;clear hK K))
       (refine T.reg (by kernel_rfl) fun K' hK'=>?_;simp only [bz];(with_reducible repeat' (first|(apply WL.fin;apply hK';clear hK' K')|(refine WL.step fun K2 hK2=>?_;simp only [simprocAttr,az,hd2];repeat' (first|(apply hK2;clear hK2 K2)|apply And.intro|intro hb))));all_goals ((try simp only [zb,za,reduceIte,Nat.reduceEqDiff]);(try ((repeat ((fail_if_success apply hK);clear hK K));apply hK;clear hK K))))
       repeat' (first|refine T.zh fun K hK=>?_|apply T.block|apply T.skip|apply T.exit|refine T.zg rfl ?_|refine T.zf rfl ?_|refine T.cond rfl (fun hc=>?_) (fun hc=>?_)|apply T.ret|simp only [zb,za,reduceIte,Nat.reduceEqDiff]|((repeat ((fail_if_success apply hK);clear hK K));apply hK;clear hK K))
       refine T.drw 12 (by kernel_rfl) (by kernel_rfl) fun K' hK'=>?_;simp only [List.map_cons,List.map_nil];(repeat' (first|(with_reducible refine WL.fin ?_;apply hK';clear hK' K')|(with_reducible refine WD.fin ?_)|((with_reducible first|refine WL.step fun K2 hK2=>?_|refine WD.step fun K2 hK2=>?_);simp only [simprocAttr,az,hc0,hp0,hwp,Int.toNat_natCast,n1,n2,Bool.not_true];(repeat' (first|with_reducible (first|(apply hK2;clear hK2 K2)|apply And.intro|intro hb)|((with_reducible first|apply zl|apply zm);case h=>exact CallV.plain (Ent.of Tryz.func29 (by kernel_rfl) rfl) (hcall) (by simp [AV.okB])))))));all_goals ((try simp only [zb,za,reduceIte,Nat.reduceEqDiff]);(try ((repeat ((fail_if_success apply hK);clear hK K));apply hK;clear hK K)))
       repeat' (first|refine T.zh fun K hK=>?_|apply T.block|(refine T.reg (by kernel_rfl) fun K' hK'=>?_;simp only [bz];(with_reducible repeat' (first|(apply WL.fin;apply hK';clear hK' K')|(refine WL.step fun K2 hK2=>?_;simp only [simprocAttr,az];repeat' (first|(apply hK2;clear hK2 K2)|apply And.intro|intro hb)))))|apply T.skip|apply T.exit|refine T.zg rfl ?_|refine T.zf rfl ?_|refine T.cond rfl (fun hc=>?_) (fun hc=>?_)|apply T.ret|simp only [zb,za,reduceIte,Nat.reduceEqDiff]|((repeat ((fail_if_success apply hK);clear hK K));apply hK;clear hK K))
       refine hKL2 _ (c+1) ?_ ⟨by omega,hcn,fun q u v hq hu hv=>?_⟩ (by omega)
       ·refine zk.of' rfl ?_;simp only [wks,reduceIte,Nat.reduceEqDiff,ASt.okB,AV.okB,Nat.reduceLT,implies_true,zu (show c<1152921504606846976 by omega)]
       ·by_cases e:q=c-1
        ·subst e
         rw [ha] at hu;rw [hb3] at hv
         cases hu;cases hv;exact hi
        ·exact him q u v (by omega) hu hv
      | false =>
       have hB:chkB l I J true ev=false:=zZ fun h=>by
        have h1:=h.imm rfl (c-1) a b ha hb3
        rw [hi] at h1;cases h1
       rw [hi] at hcall
       repeat' (first|refine T.zh fun K hK=>?_|apply T.block|apply T.skip|apply T.exit|refine T.zg rfl ?_|refine T.zf rfl ?_|refine T.cond rfl (fun hc=>?_) (fun hc=>?_)|apply T.ret|simp only [zb,za,reduceIte,Nat.reduceEqDiff]|((repeat ((fail_if_success apply hK);clear hK K));apply hK;clear hK K))
       (refine T.reg (by kernel_rfl) fun K' hK'=>?_;simp only [bz];(with_reducible repeat' (first|(apply WL.fin;apply hK';clear hK' K')|(refine WL.step fun K2 hK2=>?_;simp only [simprocAttr,az,hd2];repeat' (first|(apply hK2;clear hK2 K2)|apply And.intro|intro hb))));all_goals ((try simp only [zb,za,reduceIte,Nat.reduceEqDiff]);(try ((repeat ((fail_if_success apply hK);clear hK K));apply hK;clear hK K))))
       repeat' (first|refine T.zh fun K hK=>?_|apply T.block|apply T.skip|apply T.exit|refine T.zg rfl ?_|refine T.zf rfl ?_|refine T.cond rfl (fun hc=>?_) (fun hc=>?_)|apply T.ret|simp only [zb,za,reduceIte,Nat.reduceEqDiff]|((repeat ((fail_if_success apply hK);clear hK K));apply hK;clear hK K))
       refine T.drw 12 (by kernel_rfl) (by kernel_rfl) fun K' hK'=>?_;simp only [List.map_cons,List.map_nil];(repeat' (first|(with_reducible refine WL.fin ?_;apply hK';clear hK' K')|(with_reducible refine WD.fin ?_)|((with_reducible first|refine WL.step fun K2 hK2=>?_|refine WD.step fun K2 hK2=>?_);simp only [simprocAttr,az,hc0,hp0,hwp,Int.toNat_natCast,n1,n2,Bool.not_false];(repeat' (first|with_reducible (first|(apply hK2;clear hK2 K2)|apply And.intro|intro hb)|((with_reducible first|apply zl|apply zm);case h=>exact CallV.plain (Ent.of Tryz.func29 (by kernel_rfl) rfl) (hcall) (by simp [AV.okB])))))));all_goals ((try simp only [zb,za,reduceIte,Nat.reduceEqDiff]);(try ((repeat ((fail_if_success apply hK);clear hK K));apply hK;clear hK K)))
       repeat' (first|refine T.zh fun K hK=>?_|apply T.block|(refine T.reg (by kernel_rfl) fun K' hK'=>?_;simp only [bz];(with_reducible repeat' (first|(apply WL.fin;apply hK';clear hK' K')|(refine WL.step fun K2 hK2=>?_;simp only [simprocAttr,az];repeat' (first|(apply hK2;clear hK2 K2)|apply And.intro|intro hb)))))|apply T.skip|apply T.exit|refine T.zg rfl ?_|refine T.zf rfl ?_|refine T.cond rfl (fun hc=>?_) (fun hc=>?_)|apply T.ret|simp only [zb,za,reduceIte,Nat.reduceEqDiff]|((repeat ((fail_if_success apply hK);clear hK K));apply hK;clear hK K))
       all_goals (refine zH.ret (.inr rfl) Tryz.results14 ?_;simp only [zw,zt,zq,simprocAttr,az,hB])
     have hd2:decide ((c:Int)<(ev.length:Int))=false:=by simpa using hcn
     have hB:chkB l I J true ev=true:=z3J ⟨hpp,hrg,hin,fun _=>by rw [hx,hxI],fun _=>by rw [hy,hyJ],fun _ q a b ha hb=>him q a b (by have:=(List.getElem?_eq_some_iff.1 hb).1;omega) ha hb,fun h=>(by cases h),fun h=>(by cases h),fun h=>(by cases h)⟩
     repeat' (first|refine T.zh fun K hK=>?_|apply T.block|(refine T.reg (by kernel_rfl) fun K' hK'=>?_;simp only [bz];(with_reducible repeat' (first|(apply WL.fin;apply hK';clear hK' K')|(refine WL.step fun K2 hK2=>?_;simp only [simprocAttr,az,hd2];repeat' (first|(apply hK2;clear hK2 K2)|apply And.intro|intro hb)))))|apply T.skip|apply T.exit|refine T.zg rfl ?_|refine T.zf rfl ?_|refine T.cond rfl (fun hc=>?_) (fun hc=>?_)|apply T.ret|simp only [zb,za,reduceIte,Nat.reduceEqDiff]|((repeat ((fail_if_success apply hK);clear hK K));apply hK;clear hK K))
     all_goals (refine zH.ret (.inr rfl) Tryz.results14 ?_;simp only [zw,zt,zq,simprocAttr,az,hB])
  | false =>
   have hci:=has_ok ev I (by omega)
   have hcj:=has_ok ev J (by omega)
   cases cI:ev.contains (I:Int) with
   | true =>
    have hB:chkB l I J false ev=false:=zZ fun h=>h.noI rfl (List.contains_iff_mem.1 cI)
    rw [cI] at hci
    repeat' (first|refine T.zh fun K hK=>?_|apply T.block|(refine T.reg (by kernel_rfl) fun K' hK'=>?_;simp only [bz];(repeat' (first|(with_reducible refine WL.fin ?_;apply hK';clear hK' K')|((with_reducible refine WL.step fun K2 hK2=>?_);simp only [simprocAttr,az,hlm,hzl,hd];(repeat' (first|with_reducible (first|(apply hK2;clear hK2 K2)|apply And.intro|intro hb)|((with_reducible first|apply zl|apply zm);case h=>exact CallV.plain (Ent.of Tryz.func30 (by kernel_rfl) rfl) (hci) (by simp [AV.okB]))))))))|apply T.skip|apply T.exit|refine T.zg rfl ?_|refine T.zf rfl ?_|refine T.cond rfl (fun hc=>?_) (fun hc=>?_)|apply T.ret|simp only [zb,za,reduceIte,Nat.reduceEqDiff]|((repeat ((fail_if_success apply hK);clear hK K));apply hK;clear hK K))
    all_goals (refine zH.ret (.inr rfl) Tryz.results14 ?_;simp only [zw,zt,zq,simprocAttr,az,hB])
   | false =>
    rw [cI] at hci
    cases cJ:ev.contains (J:Int) with
    | false =>
     have hB:chkB l I J false ev=false:=zZ fun h=>by have:=List.contains_iff_mem.2 (h.hasJ rfl);rw [cJ] at this;cases this
     rw [cJ] at hcj
     repeat' (first|refine T.zh fun K hK=>?_|apply T.block|(refine T.reg (by kernel_rfl) fun K' hK'=>?_;simp only [bz];(repeat' (first|(with_reducible refine WL.fin ?_;apply hK';clear hK' K')|((with_reducible refine WL.step fun K2 hK2=>?_);simp only [simprocAttr,az,hlm,hzl,hd,Bool.not_false];(repeat' (first|with_reducible (first|(apply hK2;clear hK2 K2)|apply And.intro|intro hb)|((with_reducible first|apply zl|apply zm);case h=>exact CallV.plain (Ent.of Tryz.func30 (by kernel_rfl) rfl) (hci) (by simp [AV.okB]))|((with_reducible first|apply zl|apply zm);case h=>exact CallV.plain (Ent.of Tryz.func30 (by kernel_rfl) rfl) (hcj) (by simp [AV.okB]))))))))|apply T.skip|apply T.exit|refine T.zg rfl ?_|refine T.zf rfl ?_|refine T.cond rfl (fun hc=>?_) (fun hc=>?_)|apply T.ret|simp only [zb,za,reduceIte,Nat.reduceEqDiff]|((repeat ((fail_if_success apply hK);clear hK K));apply hK;clear hK K))
     all_goals (refine zH.ret (.inr rfl) Tryz.results14 ?_;simp only [zw,zt,zq,simprocAttr,az,hB])
    | true =>
     rw [cJ] at hcj
     repeat' (first|refine T.zh fun K hK=>?_|apply T.block|(refine T.reg (by kernel_rfl) fun K' hK'=>?_;simp only [bz];(repeat' (first|(with_reducible refine WL.fin ?_;apply hK';clear hK' K')|((with_reducible refine WL.step fun K2 hK2=>?_);simp only [simprocAttr,az,hlm,hzl,hd,Bool.not_true];(repeat' (first|with_reducible (first|(apply hK2;clear hK2 K2)|apply And.intro|intro hb)|((with_reducible first|apply zl|apply zm);case h=>exact CallV.plain (Ent.of Tryz.func30 (by kernel_rfl) rfl) (hci) (by simp [AV.okB]))|((with_reducible first|apply zl|apply zm);case h=>exact CallV.plain (Ent.of Tryz.func30 (by kernel_rfl) rfl) (hcj) (by simp [AV.okB]))))))))|apply T.skip|apply T.exit|refine T.zg rfl ?_|refine T.zf rfl ?_|refine T.cond rfl (fun hc=>?_) (fun hc=>?_)|apply T.ret|simp only [zb,za,reduceIte,Nat.reduceEqDiff]|((repeat ((fail_if_success apply hK);clear hK K));apply hK;clear hK K))
     refine T.qC (fun c:Nat=>⟨[(0,.p (.seq 9 (l.map evC))),(7,.ptr 0 0),(10,.int ev.length),(12,.int c)],[(0,.boxP none 25 [.bool false,.p (.seq 1 (rowZ ev))])],144,1⟩) (fun c=>c≤ev.length ∧ ∀ x ∈ ev.take c,∀ m:Nat,(m:Int)<x→immL l m x.toNat=true→(m:Int) ∈ ev) (fun c=>ev.length-c) 0 ⟨Nat.zero_le _,by simp⟩ (by refine zk.of' rfl ?_;simp only [wks,reduceIte,Nat.reduceEqDiff,ASt.okB,AV.okB,Nat.reduceLT,implies_true,Int.natCast_zero]) ?_
     rintro c ⟨hc,hcl⟩ KL2 hKL2
     by_cases hcn:c<ev.length
     ·have hd2:decide ((c:Int)<(ev.length:Int))=true:=by simpa using hcn
      have hc0:(0:Int)≤(c:Int):=by omega
      obtain ⟨x,hx⟩:=zQ hcn
      have m1:=qR hx
      have hts:=z1U hx
      have hxr:=hrg x (List.mem_of_getElem? hx)
      repeat' (first|refine T.zh fun K hK=>?_|apply T.block|(refine T.reg (by kernel_rfl) fun K' hK'=>?_;simp only [bz];(with_reducible repeat' (first|(apply WL.fin;apply hK';clear hK' K')|(refine WL.step fun K2 hK2=>?_;simp only [simprocAttr,az,hd2];repeat' (first|(apply hK2;clear hK2 K2)|apply And.intro|intro hb)))))|apply T.skip|apply T.exit|refine T.zg rfl ?_|refine T.zf rfl ?_|refine T.cond rfl (fun hc=>?_) (fun hc=>?_)|apply T.ret|simp only [zb,za,reduceIte,Nat.reduceEqDiff]|((repeat ((fail_if_success apply hK);clear hK K));apply hK;clear hK K))
      refine T.qC (fun q:Nat=>⟨[(0,.p (.seq 9 (l.map evC))),(7,.ptr 0 0),(10,.int ev.length),(12,.int c),(13,.int q)],[(0,.boxP none 25 [.bool false,.p (.seq 1 (rowZ ev))])],144,1⟩) (fun q=>(q:Int)≤x ∧ ∀ m:Nat,m<q→immL l m x.toNat=true→(m:Int) ∈ ev) (fun q=>x.toNat-q) 0 ⟨by omega,fun m hm=>by omega⟩ (by refine zk.of' rfl ?_;simp only [wks,reduceIte,Nat.reduceEqDiff,ASt.okB,AV.okB,Nat.reduceLT,implies_true,Int.natCast_zero]) ?_
      rintro q ⟨hq,hcq⟩ KL3 hKL3
      by_cases hqx:(q:Int)<x
      ·have hd3:decide ((q:Int)<x)=true:=decide_eq_true hqx
       have hcall:=immI_ok hl (show (0:Int)≤(q:Int) by omega) hqx hxr.2
       rw [Int.toNat_natCast] at hcall
       have hch:=has_ok ev q (by omega)
       cases c1:immL l q x.toNat with
       | false =>
        rw [c1] at hcall
        repeat' (first|refine T.zh fun K hK=>?_|apply T.block|(refine T.reg (by kernel_rfl) fun K' hK'=>?_;simp only [bz];(repeat' (first|(with_reducible refine WL.fin ?_;apply hK';clear hK' K')|((with_reducible refine WL.step fun K2 hK2=>?_);simp only [simprocAttr,az,hc0,Int.toNat_natCast,m1,hd3];(repeat' (first|with_reducible (first|(apply hK2;clear hK2 K2)|apply And.intro|intro hb)|((with_reducible first|apply zl|apply zm);case h=>exact CallV.plain (Ent.of Tryz.func29 (by kernel_rfl) rfl) (hcall) (by simp [AV.okB]))))))))|apply T.skip|apply T.exit|refine T.zg rfl ?_|refine T.zf rfl ?_|refine T.cond rfl (fun hc=>?_) (fun hc=>?_)|apply T.ret|simp only [zb,za,reduceIte,Nat.reduceEqDiff]|((repeat ((fail_if_success apply hK);clear hK K));apply hK;clear hK K))
        refine hKL3 _ (q+1) ?_ ⟨by omega,fun m hm him=>?_⟩ (by omega)
        ·refine zk.of' rfl ?_;simp only [wks,reduceIte,Nat.reduceEqDiff,ASt.okB,AV.okB,Nat.reduceLT,implies_true,zu (show q<1152921504606846976 by omega)]
        ·by_cases e:m=q
         ·subst e;rw [c1] at him;cases him
         ·exact hcq m (by omega) him
       | true =>
        rw [c1] at hcall
        cases c2:ev.contains (q:Int) with
        | true =>
         rw [c2] at hch
         repeat' (first|refine T.zh fun K hK=>?_|apply T.block|(refine T.reg (by kernel_rfl) fun K' hK'=>?_;simp only [bz];(repeat' (first|(with_reducible refine WL.fin ?_;apply hK';clear hK' K')|((with_reducible refine WL.step fun K2 hK2=>?_);simp only [simprocAttr,az,hc0,Int.toNat_natCast,m1,hd3,Bool.not_true];(repeat' (first|with_reducible (first|(apply hK2;clear hK2 K2)|apply And.intro|intro hb)|((with_reducible first|apply zl|apply zm);case h=>exact CallV.plain (Ent.of Tryz.func29 (by kernel_rfl) rfl) (hcall) (by simp [AV.okB]))|((with_reducible first|apply zl|apply zm);case h=>exact CallV.plain (Ent.of Tryz.func30 (by kernel_rfl) rfl) (hch) (by simp [AV.okB]))))))))|apply T.skip|apply T.exit|refine T.zg rfl ?_|refine T.zf rfl ?_|refine T.cond rfl (fun hc=>?_) (fun hc=>?_)|apply T.ret|simp only [zb,za,reduceIte,Nat.reduceEqDiff]|((repeat ((fail_if_success apply hK);clear hK K));apply hK;clear hK K))
         refine hKL3 _ (q+1) ?_ ⟨by omega,fun m hm him=>?_⟩ (by omega)
         ·refine zk.of' rfl ?_;simp only [wks,reduceIte,Nat.reduceEqDiff,ASt.okB,AV.okB,Nat.reduceLT,implies_true,zu (show q<1152921504606846976 by omega)]
         ·by_cases e:m=q
          ·subst e;exact List.contains_iff_mem.1 c2
          ·exact hcq m (by omega) him
        | false =>
         have hB:chkB l I J false ev=false:=zZ fun h=>by
          have:=List.contains_iff_mem.2 (h.cls rfl x (List.mem_of_getElem? hx) q hqx c1)
          rw [c2] at this;cases this
         rw [c2] at hch
         repeat' (first|refine T.zh fun K hK=>?_|apply T.block|(refine T.reg (by kernel_rfl) fun K' hK'=>?_;simp only [bz];(repeat' (first|(with_reducible refine WL.fin ?_;apply hK';clear hK' K')|((with_reducible refine WL.step fun K2 hK2=>?_);simp only [simprocAttr,az,hc0,Int.toNat_natCast,m1,hd3,Bool.not_false];(repeat' (first|with_reducible (first|(apply hK2;clear hK2 K2)|apply And.intro|intro hb)|((with_reducible first|apply zl|apply zm);case h=>exact CallV.plain (Ent.of Tryz.func29 (by kernel_rfl) rfl) (hcall) (by simp [AV.okB]))|((with_reducible first|apply zl|apply zm);case h=>exact CallV.plain (Ent.of Tryz.func30 (by kernel_rfl) rfl) (hch) (by simp [AV.okB]))))))))|apply T.skip|apply T.exit|refine T.zg rfl ?_|refine T.zf rfl ?_|refine T.cond rfl (fun hc=>?_) (fun hc=>?_)|apply T.ret|simp only [zb,za,reduceIte,Nat.reduceEqDiff]|((repeat ((fail_if_success apply hK);clear hK K));apply hK;clear hK K))
         all_goals (refine zH.ret (.inr rfl) Tryz.results14 ?_;simp only [zw,zt,zq,simprocAttr,az,hB])
      have hd3:decide ((q:Int)<x)=false:=decide_eq_false hqx
      repeat' (first|refine T.zh fun K hK=>?_|apply T.block|(refine T.reg (by kernel_rfl) fun K' hK'=>?_;simp only [bz];(with_reducible repeat' (first|(apply WL.fin;apply hK';clear hK' K')|(refine WL.step fun K2 hK2=>?_;simp only [simprocAttr,az,hc0,Int.toNat_natCast,m1,hd3];repeat' (first|(apply hK2;clear hK2 K2)|apply And.intro|intro hb)))))|apply T.skip|apply T.exit|refine T.zg rfl ?_|refine T.zf rfl ?_|refine T.cond rfl (fun hc=>?_) (fun hc=>?_)|apply T.ret|simp only [zb,za,reduceIte,Nat.reduceEqDiff]|((repeat ((fail_if_success apply hK);clear hK K));apply hK;clear hK K))
      refine hKL2 _ (c+1) ?_ ⟨hcn,fun y hy m hm him=>?_⟩ (by omega)
      ·refine zk.of' rfl ?_;simp only [wks,reduceIte,Nat.reduceEqDiff,ASt.okB,AV.okB,Nat.reduceLT,implies_true,zu (show c<1152921504606846976 by omega)]
      ·rw [hts,List.mem_append,List.mem_singleton] at hy
       rcases hy with hy|rfl
       ·exact hcl y hy m hm him
       ·exact hcq m (by omega) him
     have hd2:decide ((c:Int)<(ev.length:Int))=false:=by simpa using hcn
     have hB:chkB l I J false ev=true:=z3J (by
      rw [show c=ev.length by omega,List.take_length] at hcl
      exact ⟨hpp,hrg,hin,fun h=>(by cases h),fun h=>(by cases h),fun h=>(by cases h),fun _ h=>(by have:=List.contains_iff_mem.2 h;rw [cI] at this;cases this),fun _=>List.contains_iff_mem.1 cJ,fun _=>hcl⟩)
     repeat' (first|refine T.zh fun K hK=>?_|apply T.block|(refine T.reg (by kernel_rfl) fun K' hK'=>?_;simp only [bz];(with_reducible repeat' (first|(apply WL.fin;apply hK';clear hK' K')|(refine WL.step fun K2 hK2=>?_;simp only [simprocAttr,az,hd2];repeat' (first|(apply hK2;clear hK2 K2)|apply And.intro|intro hb)))))|apply T.skip|apply T.exit|refine T.zg rfl ?_|refine T.zf rfl ?_|refine T.cond rfl (fun hc=>?_) (fun hc=>?_)|apply T.ret|simp only [zb,za,reduceIte,Nat.reduceEqDiff]|((repeat ((fail_if_success apply hK);clear hK K));apply hK;clear hK K))
     all_goals (refine zH.ret (.inr rfl) Tryz.results14 ?_;simp only [zw,zt,zq,simprocAttr,az,hB])
def evAt (l:List Ev) (x:Int):Ev:=(l[x.toNat]?).getD ⟨0,0,0,0,0,0,0,0,0⟩
def linB (l:List Ev) (x:Int):ByteArray:=(((⟨#[32,32]⟩++dI x)++⟨#[58,32]⟩)++evT (evAt l x))++⟨#[10]⟩
def txtB (l:List Ev) (ev:List Int) (s:ByteArray):ByteArray:=ev.foldl (fun s x=>s++linB l x) s
def hdT (o:Bool):ByteArray:=if o=true then ⟨#[98,101,102,111,114,101,10]⟩ else ⟨#[110,111,116,32,98,101,102,111,114,101,10]⟩
noncomputable def rsnT (l:List Ev) (i j:Int) (o:Bool) (ev:List Int):ByteArray:=if chkB l i j o ev=true then txtB l ev (hdT o) else ⟨#[]⟩
theorem evT_le (e:Ev):(evT e).size≤400:=by
 unfold evT
 split
 ·rename_i hv
  obtain ⟨f1,f2,f3,f4,f5,f6,f7,f8⟩:=z8w hv
  have z1:=z1e f1;have z2:=z1e f2;have z3:=z1e f3;have z4:=z1e f4;have z5:=z1e f5;have z6:=z1e f6;have z7:=z1e f7;have z8:=z1e f8
  have zn:=z6s e.kind
  have l1:(⟨#[103]⟩ : ByteArray).size=1:=rfl
  have l2:(⟨#[32]⟩ : ByteArray).size=1:=rfl
  have l3:(⟨#[47]⟩ : ByteArray).size=1:=rfl
  have l4:(⟨#[46]⟩ : ByteArray).size=1:=rfl
  have l5:(⟨#[58]⟩ : ByteArray).size=1:=rfl
  have l6:(⟨#[32,64]⟩ : ByteArray).size=2:=rfl
  have l7:(⟨#[32,35]⟩ : ByteArray).size=2:=rfl
  have hh:(z7K e).size≤43:=by simp only [z7K,ByteArray.size_append];omega
  have ho:(tObj e (z7K e)).size≤143:=by
   unfold tObj
   split
   ·simp only [ByteArray.size_append];omega
   ·split
    ·simp only [ByteArray.size_append];omega
    ·simp only [ByteArray.size_append];omega
  simp only [z9S,ByteArray.size_append]
  omega
 ·show 0≤400
  omega
theorem z7j (l:List Ev) (x:Int) (r:List Int) (s:ByteArray):txtB l (x :: r) s=txtB l r (s++linB l x):=rfl
theorem hdT_le (o:Bool):(hdT o).size≤20:=by cases o <;> (show _≤_;decide)
theorem z8E {x:Int} (h:x≤1000000):(dI x).size≤20:=D10_le _ (by omega)
theorem z7d {x:Int} (h0 : 0≤x) (h:x≤1000000):okF x=true:=by simp [okF];omega
theorem linB_app (l:List Ev) (x:Int) (s:ByteArray):s++linB l x=((((s++⟨#[32,32]⟩)++dI x)++⟨#[58,32]⟩)++evT (evAt l x))++⟨#[10]⟩:=by
 apply z3e;simp only [linB,z1P,List.append_assoc]
theorem textT_ok (l:List Ev) (i j:Int) (o:Bool) (ev:List Int) (hl:l.length≤100000) (hel:ev.length≤100000):zx Tryz.prog 6 [.p (.seq 9 (l.map evC)),.int i,.int j,rsnA o ev] (.str (rsnT l i j o ev)):=by
 have hf:=fitsT_ok l i j o ev hl hel
 have hlm:(l.map evC).length=l.length:=by simp
 have hzl:=z1C ev
 refine zx.of Tryz.func6 rfl 46 rfl (by decide) (by simp [AV.okB,rsnA]) ?_
 simp only [rsnA] at hf ⊢
 cases hck:chkB l i j o ev with
 | false =>
  have hE:rsnT l i j o ev=⟨#[]⟩:=by simp [rsnT,hck]
  rw [hck] at hf
  repeat' (first|refine T.zh fun K hK=>?_|apply T.block|(refine T.reg (by kernel_rfl) fun K' hK'=>?_;simp only [bz];(repeat' (first|(with_reducible refine WL.fin ?_;apply hK';clear hK' K')|((with_reducible refine WL.step fun K2 hK2=>?_);simp only [simprocAttr,az,hlm];(repeat' (first|with_reducible (first|(apply hK2;clear hK2 K2)|apply And.intro|intro hb)|((with_reducible first|apply zl|apply zm);case h=>exact CallV.plain (Ent.of Tryz.func14 (by kernel_rfl) rfl) (hf) (by simp [AV.okB]))))))))|apply T.skip|apply T.exit|refine T.zg rfl ?_|refine T.zf rfl ?_|refine T.cond rfl (fun hc=>?_) (fun hc=>?_)|apply T.ret|simp only [zb,za,reduceIte,Nat.reduceEqDiff]|((repeat ((fail_if_success apply hK);clear hK K));apply hK;clear hK K))
  all_goals (refine zH.ret (.inr rfl) Tryz.results6 ?_;simp only [zw,zt,zq,simprocAttr,az,hE])
 | true =>
  have hE:rsnT l i j o ev=txtB l ev (hdT o):=by simp [rsnT,hck]
  have hP:=z6K.1 hck
  rw [hck] at hf
  have hh:=hdT_le o
  repeat' (first|refine T.zh fun K hK=>?_|apply T.block|(refine T.reg (by kernel_rfl) fun K' hK'=>?_;simp only [bz];(repeat' (first|(with_reducible refine WL.fin ?_;apply hK';clear hK' K')|((with_reducible refine WL.step fun K2 hK2=>?_);simp only [simprocAttr,az,hlm];(repeat' (first|with_reducible (first|(apply hK2;clear hK2 K2)|apply And.intro|intro hb)|((with_reducible first|apply zl|apply zm);case h=>exact CallV.plain (Ent.of Tryz.func14 (by kernel_rfl) rfl) (hf) (by simp [AV.okB]))))))))|apply T.skip|apply T.exit|refine T.zg rfl ?_|refine T.zf rfl ?_|refine T.cond rfl (fun hc=>?_) (fun hc=>?_)|apply T.ret|simp only [zb,za,reduceIte,Nat.reduceEqDiff]|((repeat ((fail_if_success apply hK);clear hK K));apply hK;clear hK K))
  all_goals
   refine T.qC (fun p:Nat × ByteArray=>⟨[(0,.p (.seq 9 (l.map evC))),(1,.int i),(2,.int j),(7,.ptr 0 0),(9,.str p.2),(10,.int p.1)],[(0,.boxP none 25 [.p (.val (.bool o)),.p (.seq 1 (rowZ ev))])],46,1⟩) (fun p=>p.1≤ev.length∧txtB l ev (hdT o)=txtB l (ev.drop p.1) p.2∧p.2.size≤1000*(p.1+1)) (fun p=>ev.length-p.1) (0,hdT o) ⟨Nat.zero_le _,rfl,by show (hdT o).size≤1000;omega⟩ (by refine zk.of' rfl ?_;simp only [wks,reduceIte,Nat.reduceEqDiff,ASt.okB,AV.okB,Nat.reduceLT,implies_true,Int.natCast_zero,hdT,hc,Bool.false_eq_true]) ?_
   rintro ⟨k,s⟩ ⟨hk,ht,hs⟩ KL hKL
   simp only at hk ht hs
   by_cases hkn:k<ev.length
   ·have hd:decide ((k:Int)<(ev.length:Int))=true:=by simpa using hkn
    have hk0:(0:Int)≤(k:Int):=by omega
    obtain ⟨x,hx⟩:=zQ hkn
    obtain ⟨r0,r1⟩:=hP.rng x (List.mem_of_getElem? hx)
    have hx0:(0≤x)=True:=eq_true r0
    have m1:=qR hx
    obtain ⟨e,he⟩:=zQ (show x.toNat<l.length by omega)
    have m2:(l.map evC)[x.toNat]? = some (evC e):=by rw [List.getElem?_map,he];rfl
    simp only [evC] at m2
    have hea:evAt l x=e:=by rw [evAt,he];rfl
    rw [drop_at hx,z7j,linB_app,hea] at ht
    have hdc:=dec32_okI (z7d r0 (by omega:x≤1000000))
    have htx:=textR_ok e
    simp only [evA,evC,List.map_cons,List.map_nil] at htx
    have z1:=z8E (by omega:x≤1000000)
    have z2:=evT_le e
    have l1:(⟨#[32,32]⟩ : ByteArray).size=2:=rfl
    have l2:(⟨#[58,32]⟩ : ByteArray).size=2:=rfl
    have l3:(⟨#[10]⟩ : ByteArray).size=1:=rfl
    obtain ⟨t0,et0⟩ : ∃ z9:ByteArray,s++(⟨#[32,32]⟩ : ByteArray)=z9:=⟨_,rfl⟩
    have ct0:(s.size+((⟨#[32,32]⟩ : ByteArray)).size≤9223372036854775807)=True:=eq_true (by omega)
    have bt0:t0.size=s.size+((⟨#[32,32]⟩ : ByteArray)).size:=by rw [← et0,ByteArray.size_append]
    obtain ⟨t1,et1⟩ : ∃ z9:ByteArray,t0++dI x=z9:=⟨_,rfl⟩
    have ct1:(t0.size+(dI x).size≤9223372036854775807)=True:=eq_true (by omega)
    have bt1:t1.size=t0.size+(dI x).size:=by rw [← et1,ByteArray.size_append]
    obtain ⟨t2,et2⟩ : ∃ z9:ByteArray,t1++(⟨#[58,32]⟩ : ByteArray)=z9:=⟨_,rfl⟩
    have ct2:(t1.size+((⟨#[58,32]⟩ : ByteArray)).size≤9223372036854775807)=True:=eq_true (by omega)
    have bt2:t2.size=t1.size+((⟨#[58,32]⟩ : ByteArray)).size:=by rw [← et2,ByteArray.size_append]
    obtain ⟨t3,et3⟩ : ∃ z9:ByteArray,t2++evT e=z9:=⟨_,rfl⟩
    have ct3:(t2.size+(evT e).size≤9223372036854775807)=True:=eq_true (by omega)
    have bt3:t3.size=t2.size+(evT e).size:=by rw [← et3,ByteArray.size_append]
    obtain ⟨t4,et4⟩ : ∃ z9:ByteArray,t3++(⟨#[10]⟩ : ByteArray)=z9:=⟨_,rfl⟩
    have ct4:(t3.size+((⟨#[10]⟩ : ByteArray)).size≤9223372036854775807)=True:=eq_true (by omega)
    have bt4:t4.size=t3.size+((⟨#[10]⟩ : ByteArray)).size:=by rw [← et4,ByteArray.size_append]
    rw [et0,et1,et2,et3,et4] at ht
    repeat' (first|refine T.zh fun K hK=>?_|apply T.block|(refine T.reg (by kernel_rfl) fun K' hK'=>?_;simp only [bz];(with_reducible repeat' (first|(apply WL.fin;apply hK';clear hK' K')|(refine WL.step fun K2 hK2=>?_;simp only [simprocAttr,az,hlm,hzl,hd,hk0,Int.toNat_natCast,m1,hx0];repeat' (first|(apply hK2;clear hK2 K2)|apply And.intro|intro hb)))))|apply T.skip|apply T.exit|refine T.zg rfl ?_|refine T.zf rfl ?_|refine T.cond rfl (fun hc=>?_) (fun hc=>?_)|apply T.ret|simp only [zb,za,reduceIte,Nat.reduceEqDiff]|((repeat ((fail_if_success apply hK);clear hK K));apply hK;clear hK K))
    refine T.drw 11 (by kernel_rfl) (by kernel_rfl) fun K' hK'=>?_;simp only [List.map_cons,List.map_nil];(repeat' (first|(with_reducible refine WL.fin ?_;apply hK';clear hK' K')|(with_reducible refine WD.fin ?_)|((with_reducible first|refine WL.step fun K2 hK2=>?_|refine WD.step fun K2 hK2=>?_);simp only [simprocAttr,az,hx0,m2,ct0,et0,ct1,et1,ct2,et2,ct3,et3,ct4,et4];(repeat' (first|with_reducible (first|(apply hK2;clear hK2 K2)|apply And.intro|intro hb)|((with_reducible first|apply zl|apply zm);case h=>exact CallV.plain (Ent.of Tryz.func15 (by kernel_rfl) rfl) (hdc) (by simp [AV.okB]))|((with_reducible first|apply zl|apply zm);case h=>exact CallV.plain (Ent.of Tryz.func16 (by kernel_rfl) rfl) (htx) (by simp [AV.okB])))))));all_goals ((try simp only [zb,za,reduceIte,Nat.reduceEqDiff]);(try ((repeat ((fail_if_success apply hK);clear hK K));apply hK;clear hK K)))
    all_goals repeat' (first|refine T.zh fun K hK=>?_|apply T.block|(refine T.reg (by kernel_rfl) fun K' hK'=>?_;simp only [bz];(with_reducible repeat' (first|(apply WL.fin;apply hK';clear hK' K')|(refine WL.step fun K2 hK2=>?_;simp only [simprocAttr,az];repeat' (first|(apply hK2;clear hK2 K2)|apply And.intro|intro hb)))))|apply T.skip|apply T.exit|refine T.zg rfl ?_|refine T.zf rfl ?_|refine T.cond rfl (fun hc=>?_) (fun hc=>?_)|apply T.ret|simp only [zb,za,reduceIte,Nat.reduceEqDiff]|((repeat ((fail_if_success apply hK);clear hK K));apply hK;clear hK K))
    refine hKL _ (k+1,t4) ?_ ⟨hkn,ht,by show t4.size≤1000*(k+1+1);omega⟩ (by simp only;omega)
    refine zk.of' rfl ?_;simp only [wks,reduceIte,Nat.reduceEqDiff,ASt.okB,AV.okB,Nat.reduceLT,implies_true,zu (show k<1152921504606846976 by omega)]
   ·have hd:decide ((k:Int)<(ev.length:Int))=false:=by simpa using hkn
    rw [List.drop_eq_nil_of_le (by omega)] at ht
    have hE2:rsnT l i j o ev=s:=hE.trans ht
    repeat' (first|refine T.zh fun K hK=>?_|apply T.block|(refine T.reg (by kernel_rfl) fun K' hK'=>?_;simp only [bz];(with_reducible repeat' (first|(apply WL.fin;apply hK';clear hK' K')|(refine WL.step fun K2 hK2=>?_;simp only [simprocAttr,az,hlm,hzl,hd];repeat' (first|(apply hK2;clear hK2 K2)|apply And.intro|intro hb)))))|apply T.skip|apply T.exit|refine T.zg rfl ?_|refine T.zf rfl ?_|refine T.cond rfl (fun hc=>?_) (fun hc=>?_)|apply T.ret|simp only [zb,za,reduceIte,Nat.reduceEqDiff]|((repeat ((fail_if_success apply hK);clear hK K));apply hK;clear hK K))
    all_goals (refine zH.ret (.inr rfl) Tryz.results6 ?_;simp only [zw,zt,zq,simprocAttr,az,hE2])
end Go.Proofs.YtdlgoofjechocaaGreatDoor
