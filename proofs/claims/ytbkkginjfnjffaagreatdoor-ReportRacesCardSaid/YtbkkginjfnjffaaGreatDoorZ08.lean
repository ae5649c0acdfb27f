/- Texts Ds, Md, Me, Mf, Mi. -/
import Derived.Ground.SlgnProg
import Derived.Test.YtbkkginjfnjffaaGreatDoorZ07
set_option maxHeartbeats 32000000
set_option maxRecDepth 100000
set_option linter.unusedSimpArgs false
set_option linter.unusedVariables false
namespace Go.Proofs
open Go.Shelf Go.RowKit Go.Lib Go.Sort
def YtbkkginjfnjffaaGreatDoor.revS_ren:Go.Shelf.Ren:=⟨fun | 35 => 63|n=>n,fun | 22 => 26 | 23 => 25 | 3 => 3 | 4 => 4 | 0 => 0|n=>n,fun|n=>n⟩
theorem YtbkkginjfnjffaaGreatDoor.revS:Go.Proofs.SlLaysE0.n35 Tryz.prog YtbkkginjfnjffaaGreatDoor.revS_ren := {
 mixed:=by kernel_rfl
 f35:=⟨Tryz.f63.name,by decide,Tryz.func63.trans (congrArg some (by kernel_rfl))⟩
 t0:=Tryz.underlying0
 a0:=Tryz.isAgg0
 z0:=Tryz.sizeOf0
 v0:=Tryz.zeroValue0
 t3:=Tryz.underlying3
 a3:=Tryz.isAgg3
 z3:=Tryz.sizeOf3
 v3:=Tryz.zeroValue3
 t4:=Tryz.underlying4
 a4:=Tryz.isAgg4
 z4:=Tryz.sizeOf4
 v4:=Tryz.zeroValue4
 t22:=Tryz.underlying26
 a22:=Tryz.isAgg26
 z22:=Tryz.sizeOf26
 v22:=Tryz.zeroValue26 }
end Go.Proofs
namespace Go.Proofs.YtbkkginjfnjffaaGreatDoor
open Go.RowKit Go.Sort Go.Maps
theorem table_t (ss:List P2) (ps:List Int) (hw:DW ss ps) (hsz:ss.length≤1000000) (hv:validD ss ps=true):MemC Tryz.prog 38 1 [] [dpA ss ps] fun hp' r=>hp' = [(0,.map none Tryz.prog 136 ss.length (tabM (enL ss ps) ss.length))]∧r = .own 0:=by
 have hls:=z04 ss
 have hlp:=z0N ps
 simp only [dpA]
 have hl:ss.length=ps.length:=by
  simp only [validD,Bool.and_eq_true,decide_eq_true_eq] at hv;exact hv.1
 have g1:((ss.length:Int) != (ps.length:Int))=false:=by rw [hl];simp
 have hg0:goD [] (enL ss ps)=true:=by simpa [validD,hl] using hv
 have hel:=en_len hl
 refine MemC.of Tryz.func38 rfl 63 rfl (by decide) ?_;simp only [z08,frOf]
 repeat' (first|refine T.zk fun K hK=>?_|apply T.block|(refine T.reg (by kernel_rfl) fun K' hK'=>?_;simp only [bz];(with_reducible repeat' (first|(apply WL.fin;apply hK';clear hK' K')|(refine WL.step fun K2 hK2=>?_;simp only [simprocAttr,implies_true,amz,zf,tys,hls,hlp,g1,z0E];repeat' (first|(apply hK2;clear hK2 K2)|apply And.intro|intro hb)))))|apply T.skip|apply T.exit|refine T.zh rfl ?_|refine T.zg rfl ?_|refine T.cond rfl (fun hc=>?_) (fun hc=>?_)|apply T.ret|simp only [ze,z8,reduceIte,Nat.reduceEqDiff]|((repeat ((fail_if_success apply hK);clear hK K));apply hK;clear hK K))
 refine T.z02 (fun i:Nat=>⟨[(1,.ptr 1 0),(2,.p (.val (.map none))),(3,.own 2),(21,.p (.seq 2 (rowP ss))),(22,.int ss.length),(23,.int i)],[(2,.map none Tryz.prog 136 i (tabM (enL ss ps) i)),(1,.boxP none 29 [.p (.seq 2 (rowP ss)),.p (.seq 1 (rowZ ps))])],63,3⟩) (fun i=>i≤ss.length∧goD ((enL ss ps).take i) ((enL ss ps).drop i)=true) (fun i=>ss.length-i) 0 ⟨Nat.zero_le _,by simpa using hg0⟩ (by refine zi.of' rfl ?_;simp only [wks,reduceIte,Nat.reduceEqDiff,ASt.okB,AV.okB,Nat.reduceLT,implies_true,Int.natCast_zero,tabM_0,z0E,AVle.refl]) ?_
 rintro i ⟨hi,hg⟩ KL hKL
 by_cases hlt:i<ss.length
 case neg =>
  obtain rfl:i=ss.length:=by omega
  have hd:decide ((ss.length:Int)<(ss.length:Int))=false:=by simp
  repeat' (first|refine T.zk fun K hK=>?_|apply T.block|(refine T.reg (by kernel_rfl) fun K' hK'=>?_;simp only [bz];(with_reducible repeat' (first|(apply WL.fin;apply hK';clear hK' K')|(refine WL.step fun K2 hK2=>?_;simp only [simprocAttr,implies_true,amz,zf,tys,hls,hlp,hd];repeat' (first|(apply hK2;clear hK2 K2)|apply And.intro|intro hb)))))|apply T.skip|apply T.exit|refine T.zh rfl ?_|refine T.zg rfl ?_|refine T.cond rfl (fun hc=>?_) (fun hc=>?_)|apply T.ret|simp only [ze,z8,reduceIte,Nat.reduceEqDiff]|((repeat ((fail_if_success apply hK);clear hK K));apply hK;clear hK K))
  refine FinM.ret (s':=⟨[(2,.own 0)],[(0,.map none Tryz.prog 136 ss.length (tabM (enL ss ps) ss.length))],63,1⟩) (r := .own 0) (.inr rfl) Tryz.results38 ((zi.ren _ 2 0).trans (by refine zi.of' rfl ?_;simp only [wks,reduceIte,Nat.reduceEqDiff,ASt.okB,AV.okB,Nat.reduceLT,implies_true,ASt.ren,AV.zZ,AV.zG,AV.qd,AV.qw,AV.zW,AV.zF,AV.zA,AV.qc,AV.qO,AV.zD,AV.qx,AO.qD,AO.qG,AO.qE,AO.qF,yl,List.filter_cons,List.filter_nil,zq,qp,Nat.reduceBneDiff,bne_self_eq_false,Bool.and_false,Bool.false_and,Bool.false_eq_true,ne_eq,not_false_eq_true,not_true_eq_false,and_self,and_false,])) rfl ?_ ?_
  ·simp only [zI,zu,zw,simprocAttr,implies_true,amz,zf,tys]
  exact ⟨rfl,rfl⟩
 have hd:decide ((i:Int)<(ss.length:Int))=true:=by simpa using hlt
 have hi0:(0≤(i:Int))=True:=eq_true (by omega)
 have hml:(i<maxLen)=True:=eq_true (by unfold maxLen;omega)
 obtain ⟨s,hs⟩:=qA hlt
 obtain ⟨p,hp⟩:=qA (l:=ps) (k:=i) (by omega)
 have m1:=z0I hs
 have m2:=z0J hp
 have hx:=en_at hs hp
 obtain ⟨w1,w2⟩:=hw.s s (List.mem_of_getElem? hs)
 have w3:=hw.p p (List.mem_of_getElem? hp)
 have hwf:WfN 3 [p,s.1,s.2]:=⟨rfl,by simp [w1,w2,w3]⟩
 have hko:=z4c w3 w1 w2
 have hat:=z2M z7Q (tabF (enL ss ps) i) hwf
 have htl:((enL ss ps).take i).length=i:=by rw [List.length_take];omega
 have his:=z7w (enL ss ps) (p,s) i (by omega)
 rw [goD_at hx] at hg
 simp only [Bool.and_eq_true] at hg
 obtain ⟨hone,hg⟩:=hg
 simp only [oneD,htl,Bool.and_eq_true,decide_eq_true_eq,Bool.not_eq_true'] at hone
 obtain ⟨⟨⟨⟨c1,c2⟩,c3⟩,c4⟩,hc⟩:=hone
 have hpr:=z6E s
 have hq:z2g s=true:=by simp [z2g,c3,c4]
 rw [hq] at hpr
 simp only [p2A] at hpr
 rw [hc] at his
 have hv2:tabF (enL ss ps) i [p,s.1,s.2]=none:=by simpa [enK] using his
 have f1:decide (p < -1)=false:=by simpa using c1
 have f2:decide ((i:Int)≤p)=false:=by simpa using c2
 have hup:=z4d z7Q (tabF (enL ss ps) i) hwf (.int .i64 i)
 rw [show [p,s.1,s.2]=enK (p,s) from rfl,z8o hx] at hup
 simp only [enK] at hup
 repeat' (first|refine T.zk fun K hK=>?_|apply T.block|(refine T.reg (by kernel_rfl) fun K' hK'=>?_;simp only [bz];(with_reducible repeat' (first|(apply WL.fin;apply hK';clear hK' K')|(refine WL.step fun K2 hK2=>?_;simp only [simprocAttr,implies_true,amz,zf,tys,hls,hlp,hd,hi0,Int.toNat_natCast,m1,m2];repeat' (first|(apply hK2;clear hK2 K2)|apply And.intro|intro hb)))))|apply T.skip|apply T.exit|refine T.zh rfl ?_|refine T.zg rfl ?_|refine T.cond rfl (fun hc=>?_) (fun hc=>?_)|apply T.ret|simp only [ze,z8,reduceIte,Nat.reduceEqDiff]|((repeat ((fail_if_success apply hK);clear hK K));apply hK;clear hK K))
 refine T.comm [some (0,1),some (0,1),some (0,1),some (0,1),some (0,1),some (0,1),some (0,1),none,none] (by kernel_rfl) (by kernel_rfl) fun K' hK'=>?_;simp only [yl,List.zip_cons_cons,List.zip_nil_left];(repeat' (first|(with_reducible refine WC.fin ?_;apply hK';clear hK' K')|((first|(with_reducible refine WC.z0O fun K2 hK2=>?_)|(with_reducible refine WC.stepW fun K2 hK2=>?_));simp only [simprocAttr,implies_true,amz,zf,WCg,WCv,WOw,allP,dav,Chk,List.filter_cons,List.filter_nil,bne_self_eq_false,Nat.reduceBneDiff,Bool.false_eq_true,tys,hls,hlp,hi0,Int.toNat_natCast,m1,m2];(repeat' (first|(with_reducible refine hK2 _ _ ?_;clear hK2 K2)|with_reducible (first|(apply hK2;clear hK2 K2)|apply And.intro|intro hb)|(with_reducible rfl)|((with_reducible show @Eq ASt _ _);rfl) )))));all_goals ((try simp only [ze,z8,reduceIte,Nat.reduceEqDiff]);(try ((repeat ((fail_if_success apply hK);clear hK K));apply hK;clear hK K)))
 all_goals repeat' (first|refine T.zk fun K hK=>?_|apply T.block|(refine T.reg (by kernel_rfl) fun K' hK'=>?_;simp only [bz];(repeat' (first|(with_reducible refine WL.fin ?_;apply hK';clear hK' K')|((with_reducible refine WL.step fun K2 hK2=>?_);simp only [simprocAttr,implies_true,amz,zf,tys,hko,hat,hv2,z1G,Option.getD_none,Option.isSome_none,z4p,f1,f2,hml,hup];(repeat' (first|with_reducible (first|(apply hK2;clear hK2 K2)|apply And.intro|intro hb)|((with_reducible first|apply zl|apply zn);case h=>exact CallV.plain (Ent.of Tryz.func57 (by kernel_rfl) rfl) (hpr) (by simp [AV.okB]))))))))|apply T.skip|apply T.exit|refine T.zh rfl ?_|refine T.zg rfl ?_|refine T.cond rfl (fun hc=>?_) (fun hc=>?_)|apply T.ret|simp only [ze,z8,reduceIte,Nat.reduceEqDiff]|((repeat ((fail_if_success apply hK);clear hK K));apply hK;clear hK K))
 refine hKL _ (i+1) (by refine zi.of' rfl ?_;simp only [wks,reduceIte,Nat.reduceEqDiff,ASt.okB,AV.okB,Nat.reduceLT,implies_true,zx (show i<1152921504606846976 by omega)]) ⟨hlt,hg⟩ (by omega)
theorem z8s (ss:List P2) (ps:List Int) (hw:DW ss ps) (hsz:ss.length≤1000000):zt Tryz.prog 13 [dpA ss ps] (.bool (validD ss ps)):=by
 cases hv:validD ss ps with
 | false =>
  have ht:=table_f ss ps hw hsz hv
  simp only [dpA] at ht ⊢
  refine zt.of Tryz.func13 rfl 6 rfl (by decide) (by simp [AV.okB]) ?_
  repeat' (first|refine T.zk fun K hK=>?_|apply T.block|(refine T.reg (by kernel_rfl) fun K' hK'=>?_;simp only [bz];(repeat' (first|(with_reducible refine WL.fin ?_;apply hK';clear hK' K')|((with_reducible refine WL.step fun K2 hK2=>?_);simp only [simprocAttr,implies_true,amz,zf,tys,z0E,Option.isSome_some];(repeat' (first|with_reducible (first|(apply hK2;clear hK2 K2)|apply And.intro|intro hb)|((with_reducible first|apply zl|apply zn);case h=>exact CallV.plain (Ent.of Tryz.func38 (by kernel_rfl) rfl) (ht) (by simp [AV.okB]))))))))|apply T.skip|apply T.exit|refine T.zh rfl ?_|refine T.zg rfl ?_|refine T.cond rfl (fun hc=>?_) (fun hc=>?_)|apply T.ret|simp only [ze,z8,reduceIte,Nat.reduceEqDiff]|((repeat ((fail_if_success apply hK);clear hK K));apply hK;clear hK K))
  all_goals (refine zP.ret (.inr rfl) Tryz.results13 ?_;simp only [zI,zu,zw,simprocAttr,implies_true,amz,zf,tys,])
 | true =>
  have ht:=table_t ss ps hw hsz hv
  simp only [dpA] at ht ⊢
  refine zt.of Tryz.func13 rfl 6 rfl (by decide) (by simp [AV.okB]) ?_
  refine T.weak (zi.upN _ 1 (Nat.le_of_ble_eq_true rfl)) ?_
  repeat' (first|refine T.zk fun K hK=>?_|apply T.block|(refine T.reg (by kernel_rfl) fun K' hK'=>?_;simp only [bz];(repeat' (first|(with_reducible refine WL.fin ?_;apply hK';clear hK' K')|((with_reducible refine WL.step fun K2 hK2=>?_);simp only [simprocAttr,implies_true,amz,zf,tys,z0E,Option.isSome_some];(repeat' (first|with_reducible (first|(apply hK2;clear hK2 K2)|apply And.intro|intro hb)|((with_reducible refine qg 1 [] _ [] (Ent.of Tryz.func38 (by kernel_rfl) rfl) ht ?_ ?_ ?_);(focus ((refine ⟨Nat.le_of_ble_eq_true rfl,?_,?_⟩ <;> simp only [pz,reduceIte,Nat.reduceEqDiff,AV.okB,Nat.reduceLT,]);done));(focus (simp [AV.okB];done));rintro hp' r ⟨rfl,rfl⟩;refine ⟨by simp,?_⟩;simp only [cz,ASt.qh,AO.keep,Nat.reduceLeDiff,reduceIte,Nat.reduceEqDiff,])))))))|apply T.skip|apply T.exit|refine T.zh rfl ?_|refine T.zg rfl ?_|refine T.cond rfl (fun hc=>?_) (fun hc=>?_)|apply T.ret|simp only [ze,z8,reduceIte,Nat.reduceEqDiff]|((repeat ((fail_if_success apply hK);clear hK K));apply hK;clear hK K))
  all_goals (refine zP.ret (.inr rfl) Tryz.results13 ?_;simp only [zI,zu,zw,simprocAttr,implies_true,amz,zf,tys,])
def encP (x:P2):List Value := [.int .i64 x.1,.int .i64 x.2]
theorem siteAgg (w:World):(isAgg 25).run Tryz.prog w = .ok true w:=by kernel_rfl
theorem siteSz (w:World):(sizeOf 25).run Tryz.prog w = .ok 2 w:=by kernel_rfl
theorem rowsK_P (ks:List P2):z1u encP ks=rowP ks:=by simp [z1u,rowP,encP]
theorem rev_ok (l:List P2) (hlen:l.length≤1000000) (N:Nat) (hp:Hp) (t:Nat) (hlk:hp.lookup t=some (.row 25 2 (rowP l))):MemK Tryz.prog 63 N hp [.own t] fun hp' r=>hp' = zO hp t (.row 25 2 (rowP l.reverse))∧r = .tup []:=by
 have h:=rev_memK revS 2 siteAgg siteSz encP (fun _=>rfl) (by omega) (fun x v hv=>by simp [encP] at hv;rcases hv with rfl|rfl <;> rfl) l (by omega) N hp t 25 (by rw [rowsK_P];exact hlk)
 rw [rowsK_P] at h
 intro L loc w vs hh hvs
 refine Calls.mono (h L loc w vs hh hvs) ?_
 rintro e w' ⟨v,hp',r,h1,⟨h2,h3⟩,h4⟩
 exact ⟨v,hp',r,h1,⟨h3,h2⟩,h4⟩
theorem z8l (ss:List P2) (ps:List Int) (hw:DW ss ps) (hsz:ss.length≤1000000) (hv:validD ss ps=true) (n:Int) (h0 : 0≤n) (hn:n<ss.length):zt Tryz.prog 45 [dpA ss ps,.int n] (.tup [.p (.seq 2 (rowP (stkD ss ps n))),.bool true]):=by
 have hls:=z04 ss
 have hlp:=z0N ps
 have hl:ss.length=ps.length:=by
  simp only [validD,Bool.and_eq_true,decide_eq_true_eq] at hv;exact hv.1
 have hvd:=z8s ss ps hw hsz
 rw [hv] at hvd
 simp only [dpA] at hvd ⊢
 have g1:decide (n<0)=false:=by simpa using h0
 have g2:decide ((ss.length:Int)≤n)=false:=by simpa using hn
 have hm1:(1≤maxLen)=True:=eq_true (by unfold maxLen;omega)
 refine zt.of Tryz.func45 rfl 39 rfl (by decide) (by simp [AV.okB]) ?_
 repeat' (first|refine T.zk fun K hK=>?_|apply T.block|(refine T.reg (by kernel_rfl) fun K' hK'=>?_;simp only [bz];(repeat' (first|(with_reducible refine WL.fin ?_;apply hK';clear hK' K')|((with_reducible refine WL.step fun K2 hK2=>?_);simp only [simprocAttr,implies_true,amz,zf,tys,hls,hlp,g1,g2];(repeat' (first|with_reducible (first|(apply hK2;clear hK2 K2)|apply And.intro|intro hb)|((with_reducible first|apply zl|apply zn);case h=>exact CallV.plain (Ent.of Tryz.func13 (by kernel_rfl) rfl) (hvd) (by simp [AV.okB]))))))))|apply T.skip|apply T.exit|refine T.zh rfl ?_|refine T.zg rfl ?_|refine T.cond rfl (fun hc=>?_) (fun hc=>?_)|apply T.ret|simp only [ze,z8,reduceIte,Nat.reduceEqDiff]|((repeat ((fail_if_success apply hK);clear hK K));apply hK;clear hK K))
 refine T.weak (zi.z3p _ 6 25 2 (show 6<39 by decide) rfl) ?_;simp only [ASt.add,z07,Nat.reduceAdd]
 refine T.z02 (fun i:Int × List P2=>⟨[(1,.int i.1),(2,.ptr 0 0),(6,.own 1)],[(1,.row 25 2 (rowP i.2)),(0,.boxP none 29 [.p (.seq 2 (rowP ss)),.p (.seq 1 (rowZ ps))])],39,2⟩) (fun i => -1≤i.1∧i.1<ss.length∧i.2++upD ss ps i.1=upD ss ps n) (fun i=>(i.1+1).toNat) (n,[]) ⟨by simp only [];omega,hn,by simp⟩ (by refine zi.of' rfl ?_;simp only [wks,reduceIte,Nat.reduceEqDiff,ASt.okB,AV.okB,Nat.reduceLT,implies_true,rowP,List.map_nil]) ?_
 rintro ⟨m,acc⟩ ⟨h1,h2,hu⟩ KL hKL
 simp only at h1 h2 hu ⊢
 have hul:acc.length≤1000000:=by
  have e:=congrArg List.length hu
  rw [List.length_append] at e
  have:=z6b (ss:=ss) (ps:=ps) (n+1).toNat n
  unfold upD at e
  omega
 by_cases hm:m<0
 ·have hd:decide (0≤m)=false:=by simpa using hm
  rw [upD_neg ss ps hm,List.append_nil] at hu
  subst hu
  repeat' (first|refine T.zk fun K hK=>?_|apply T.block|(refine T.reg (by kernel_rfl) fun K' hK'=>?_;simp only [bz];(repeat' (first|(with_reducible refine WL.fin ?_;apply hK';clear hK' K')|((with_reducible refine WL.step fun K2 hK2=>?_);simp only [simprocAttr,implies_true,amz,zf,tys,hd];(repeat' (first|with_reducible (first|(apply hK2;clear hK2 K2)|apply And.intro|intro hb)|((with_reducible refine z7H 2 _ _ [0,1] (Ent.of Tryz.func63 (by kernel_rfl) rfl) ((rev_ok (upD ss ps n) hul 2 [(1,.row 25 2 (rowP (upD ss ps n))),(0,.boxP none 29 [.p (.seq 2 (rowP ss)),.p (.seq 1 (rowZ ps))])] 1 rfl)) ?_ ?_ ?_);(focus ((refine ⟨Nat.le_of_ble_eq_true rfl,?_,?_⟩ <;> simp only [pz,reduceIte,Nat.reduceEqDiff,AV.okB,Nat.reduceLT,zO]);done));(focus (simp [AV.okB];done));rintro hp' r ⟨rfl,rfl⟩;simp only [cz,ASt.qh,AO.keep,Nat.reduceLeDiff,reduceIte,Nat.reduceEqDiff,zO])))))))|apply T.skip|apply T.exit|refine T.zh rfl ?_|refine T.zg rfl ?_|refine T.cond rfl (fun hc=>?_) (fun hc=>?_)|apply T.ret|simp only [ze,z8,reduceIte,Nat.reduceEqDiff]|((repeat ((fail_if_success apply hK);clear hK K));apply hK;clear hK K))
  all_goals (refine zP.retW (.inr rfl) Tryz.results45 (zi.frz _ 1) ?_;simp only [zI,zu,zw,ASt.frz,ASt.subst,AO.z2j,AO.z2X,AO.z2T,AO.z2W,AO.z1h,AV.z6N,AV.z2S,AV.z2V,AV.z1M,AV.z2U,AV.z1L,AV.z1K,AV.z1J,AV.z3s,AV.z1N,List.filter_cons,List.filter_nil,bne_self_eq_false,Nat.reduceBneDiff,Nat.reduceEqDiff,Bool.false_eq_true,simprocAttr,implies_true,amz,zf,tys,stkD])
 ·have hd:decide (0≤m)=true:=by simpa using hm
  have hm0:(0≤m)=True:=eq_true (by omega)
  obtain ⟨s,hs⟩:=qA (l:=ss) (k:=m.toNat) (by omega)
  obtain ⟨p,hp,p1,p2⟩:=z3u hv hs
  have m1:=z0I hs
  have m2:=z0J hp
  have hal:=z04 acc
  have hb1:(acc.length+1≤maxLen)=True:=eq_true (by unfold maxLen;omega)
  have hb2:((acc.length+1)*16≤140737488355328)=True:=eq_true (by omega)
  rw [z8q hv (by omega) hs hp] at hu
  repeat' (first|refine T.zk fun K hK=>?_|apply T.block|(refine T.reg (by kernel_rfl) fun K' hK'=>?_;simp only [bz];(with_reducible repeat' (first|(apply WL.fin;apply hK';clear hK' K')|(refine WL.step fun K2 hK2=>?_;simp only [simprocAttr,implies_true,amz,zf,tys,hls,hlp,hd,hm0,m1,m2,hm1,hal,hb1,hb2,List.length_cons,List.length_nil,rowP_snoc];repeat' (first|(apply hK2;clear hK2 K2)|apply And.intro|intro hb)))))|apply T.skip|apply T.exit|refine T.zh rfl ?_|refine T.zg rfl ?_|refine T.cond rfl (fun hc=>?_) (fun hc=>?_)|apply T.ret|simp only [ze,z8,reduceIte,Nat.reduceEqDiff]|((repeat ((fail_if_success apply hK);clear hK K));apply hK;clear hK K))
  refine hKL _ (p,acc ++ [s]) (by refine zi.of' rfl ?_;simp only [wks,reduceIte,Nat.reduceEqDiff,ASt.okB,AV.okB,Nat.reduceLT,implies_true,]) ⟨p1,by simp only [];omega,by simpa using hu⟩ (by simp only [];omega)
theorem z6L (ss:List P2) (ps:List Int) (hsz:ss.length≤1000000) (hv:validD ss ps=true) (n:Int) (h0 : 0≤n) (hn:n<ss.length):zt Tryz.prog 47 [dpA ss ps,.int n] (.tup [.p (.seq 2 (rowP (stkD ss ps n))),.bool true]):=by
 have hls:=z04 ss
 have hlp:=z0N ps
 have hl:ss.length=ps.length:=by
  simp only [validD,Bool.and_eq_true,decide_eq_true_eq] at hv;exact hv.1
 have hvd:=z6P ss ps hsz
 rw [hv] at hvd
 simp only [dpA] at hvd ⊢
 have g1:decide (n<0)=false:=by simpa using h0
 have g2:decide ((ss.length:Int)≤n)=false:=by simpa using hn
 have hm1:(1≤maxLen)=True:=eq_true (by unfold maxLen;omega)
 refine zt.of Tryz.func47 rfl 37 rfl (by decide) (by simp [AV.okB]) ?_
 repeat' (first|refine T.zk fun K hK=>?_|apply T.block|(refine T.reg (by kernel_rfl) fun K' hK'=>?_;simp only [bz];(repeat' (first|(with_reducible refine WL.fin ?_;apply hK';clear hK' K')|((with_reducible refine WL.step fun K2 hK2=>?_);simp only [simprocAttr,implies_true,amz,zf,tys,hls,hlp,g1,g2];(repeat' (first|with_reducible (first|(apply hK2;clear hK2 K2)|apply And.intro|intro hb)|((with_reducible first|apply zl|apply zn);case h=>exact CallV.plain (Ent.of Tryz.func22 (by kernel_rfl) rfl) (hvd) (by simp [AV.okB]))))))))|apply T.skip|apply T.exit|refine T.zh rfl ?_|refine T.zg rfl ?_|refine T.cond rfl (fun hc=>?_) (fun hc=>?_)|apply T.ret|simp only [ze,z8,reduceIte,Nat.reduceEqDiff]|((repeat ((fail_if_success apply hK);clear hK K));apply hK;clear hK K))
 refine T.z02 (fun i:Int × List P2=>⟨[(1,.int i.1),(2,.ptr 0 0),(6,.p (.seq 2 (rowP i.2)))],[(0,.boxP none 29 [.p (.seq 2 (rowP ss)),.p (.seq 1 (rowZ ps))])],37,1⟩) (fun i => -1≤i.1∧i.1<ss.length∧i.2.reverse++upD ss ps i.1=upD ss ps n) (fun i=>(i.1+1).toNat) (n,[]) ⟨by simp only [];omega,hn,by simp⟩ (by refine zi.of' rfl ?_;simp only [wks,reduceIte,Nat.reduceEqDiff,ASt.okB,AV.okB,Nat.reduceLT,implies_true,rowP,List.map_nil]) ?_
 rintro ⟨m,acc⟩ ⟨h1,h2,hu⟩ KL hKL
 simp only at h1 h2 hu ⊢
 have hul:acc.length≤1000000:=by
  have e:=congrArg List.length hu
  rw [List.length_append,List.length_reverse] at e
  have:=z6b (ss:=ss) (ps:=ps) (n+1).toNat n
  unfold upD at e
  omega
 by_cases hm:m<0
 ·have hd:decide (0≤m)=false:=by simpa using hm
  rw [upD_neg ss ps hm,List.append_nil] at hu
  have he:acc=stkD ss ps n:=by rw [stkD,← hu,List.reverse_reverse]
  repeat' (first|refine T.zk fun K hK=>?_|apply T.block|(refine T.reg (by kernel_rfl) fun K' hK'=>?_;simp only [bz];(with_reducible repeat' (first|(apply WL.fin;apply hK';clear hK' K')|(refine WL.step fun K2 hK2=>?_;simp only [simprocAttr,implies_true,amz,zf,tys,hd];repeat' (first|(apply hK2;clear hK2 K2)|apply And.intro|intro hb)))))|apply T.skip|apply T.exit|refine T.zh rfl ?_|refine T.zg rfl ?_|refine T.cond rfl (fun hc=>?_) (fun hc=>?_)|apply T.ret|simp only [ze,z8,reduceIte,Nat.reduceEqDiff]|((repeat ((fail_if_success apply hK);clear hK K));apply hK;clear hK K))
  all_goals (refine zP.ret (.inr rfl) Tryz.results47 ?_;simp only [zI,zu,zw,simprocAttr,implies_true,amz,zf,tys,he])
 ·have hd:decide (0≤m)=true:=by simpa using hm
  have hm0:(0≤m)=True:=eq_true (by omega)
  obtain ⟨s,hs⟩:=qA (l:=ss) (k:=m.toNat) (by omega)
  obtain ⟨p,hp,p1,p2⟩:=z3u hv hs
  have m1:=z0I hs
  have m2:=z0J hp
  have hal:=z04 acc
  have hb1:(1+acc.length≤maxLen)=True:=eq_true (by unfold maxLen;omega)
  have hb2:((1+acc.length)*16≤140737488355328)=True:=eq_true (by omega)
  rw [z8q hv (by omega) hs hp] at hu
  repeat' (first|refine T.zk fun K hK=>?_|apply T.block|apply T.skip|apply T.exit|refine T.zh rfl ?_|refine T.zg rfl ?_|refine T.cond rfl (fun hc=>?_) (fun hc=>?_)|apply T.ret|simp only [ze,z8,reduceIte,Nat.reduceEqDiff]|((repeat ((fail_if_success apply hK);clear hK K));apply hK;clear hK K))
  (refine T.reg (by kernel_rfl) fun K' hK'=>?_;simp only [bz];(with_reducible repeat' (first|(apply WL.fin;apply hK';clear hK' K')|(refine WL.step fun K2 hK2=>?_;simp only [simprocAttr,implies_true,amz,zf,tys,hd];repeat' (first|(apply hK2;clear hK2 K2)|apply And.intro|intro hb))));all_goals ((try simp only [ze,z8,reduceIte,Nat.reduceEqDiff]);(try ((repeat ((fail_if_success apply hK);clear hK K));apply hK;clear hK K))))
  repeat' (first|refine T.zk fun K hK=>?_|apply T.block|apply T.skip|apply T.exit|refine T.zh rfl ?_|refine T.zg rfl ?_|refine T.cond rfl (fun hc=>?_) (fun hc=>?_)|apply T.ret|simp only [ze,z8,reduceIte,Nat.reduceEqDiff]|((repeat ((fail_if_success apply hK);clear hK K));apply hK;clear hK K))
  refine T.regB 5 (by kernel_rfl) fun K' hK'=>?_;simp only [bz]
  (with_reducible refine WLB.step fun K2 hK2=>?_);simp only [simprocAttr,implies_true,amz,zf,tys,hls,hm0,m1];(repeat' (first|with_reducible (first|(apply hK2;clear hK2 K2)|apply And.intro|intro hb)))
  (with_reducible refine WLB.step fun K2 hK2=>?_);simp only [simprocAttr,implies_true,amz,zf,tys,hls,hm0,m1];(repeat' (first|with_reducible (first|(apply hK2;clear hK2 K2)|apply And.intro|intro hb)))
  (with_reducible refine WLB.step fun K2 hK2=>?_);simp only [simprocAttr,implies_true,amz,zf,tys,hls,hm0,m1];(repeat' (first|with_reducible (first|(apply hK2;clear hK2 K2)|apply And.intro|intro hb)))
  (with_reducible refine WLB.step fun K2 hK2=>?_);simp only [simprocAttr,implies_true,amz,zf,tys,hls,hm0,m1];(repeat' (first|with_reducible (first|(apply hK2;clear hK2 K2)|apply And.intro|intro hb)))
  (with_reducible refine WLB.step fun K2 hK2=>?_);simp only [simprocAttr,implies_true,amz,zf,tys,hls,hm0,m1];(repeat' (first|with_reducible (first|(apply hK2;clear hK2 K2)|apply And.intro|intro hb)))
  refine WLB.own 26 1 #[(0,.tmp 27)] 25 2 16 [[.val (.int .i64 s.1),.val (.int .i64 s.2)]] rfl (fun t h=>by cases h;exact Nat.le_of_ble_eq_true rfl) rfl ?_ ?_ ?_;(focus (simp only [simprocAttr,implies_true,amz,zf,tys,hm1];done));(focus (simp only [simprocAttr,implies_true,amz,zf,tys,hm1];done))
  simp only [ASt.add,z07,Nat.reduceAdd]
  (repeat' (first|(with_reducible refine WL.fin ?_;apply hK';clear hK' K')|(with_reducible refine WD.fin ?_)|((with_reducible first|refine WL.step fun K2 hK2=>?_|refine WD.step fun K2 hK2=>?_);simp only [simprocAttr,implies_true,amz,zf,tys,hal,hb1,hb2,List.length_cons,List.length_nil,Nat.zero_add,List.cons_append,List.nil_append];(repeat' with_reducible (first|(apply hK2;clear hK2 K2)|apply And.intro|intro hb)))));all_goals ((try simp only [ze,z8,reduceIte,Nat.reduceEqDiff]);(try ((repeat ((fail_if_success apply hK);clear hK K));apply hK;clear hK K)))
  refine T.weak (zi.frz _ 1) ?_;simp only [ASt.frz,List.filter_cons,List.filter_nil,bne_self_eq_false,Nat.reduceBneDiff,Bool.false_eq_true,simprocAttr,implies_true,amz,zf,]
  repeat' (first|refine T.zk fun K hK=>?_|apply T.block|(refine T.reg (by kernel_rfl) fun K' hK'=>?_;simp only [bz];(with_reducible repeat' (first|(apply WL.fin;apply hK';clear hK' K')|(refine WL.step fun K2 hK2=>?_;simp only [simprocAttr,implies_true,amz,zf,tys,hls,hlp,hm0,m1,m2];repeat' (first|(apply hK2;clear hK2 K2)|apply And.intro|intro hb)))))|apply T.skip|apply T.exit|refine T.zh rfl ?_|refine T.zg rfl ?_|refine T.cond rfl (fun hc=>?_) (fun hc=>?_)|apply T.ret|simp only [ze,z8,reduceIte,Nat.reduceEqDiff]|((repeat ((fail_if_success apply hK);clear hK K));apply hK;clear hK K))
  refine hKL _ (p,s :: acc) (by refine zi.of' rfl ?_;simp only [wks,reduceIte,Nat.reduceEqDiff,ASt.okB,AV.okB,Nat.reduceLT,implies_true,rowP,List.map_cons]) ⟨p1,by simp only [];omega,by simpa using hu⟩ (by simp only [];omega)
end Go.Proofs.YtbkkginjfnjffaaGreatDoor
namespace Go.Proofs.YtbkkginjfnjffaaGreatDoor
open Go.RowKit Go.Sort
theorem z1v {k:List Int} (h:k.length=6) : ∃ a b c d e f,k = [a,b,c,d,e,f]:=by
 match k,h with
 | [a,b,c,d,e,f],_=>exact ⟨a,b,c,d,e,f,rfl⟩
theorem lex_drop {k m:List Int} {i:Nat} {x y:Int} (hx:k[i]? = some x) (hy:m[i]? = some y):lexB (k.drop i) (m.drop i)=(decide (x<y)||(x==y&&lexB (k.drop (i+1)) (m.drop (i+1)))):=by
 rw [drop_at hx,drop_at hy,lexB]
theorem z88 (n:Nat) (k:List Int):(k.map AV.int).all (AV.okB n)=true:=by
 simp [AV.okB]
theorem less_ok (k m:List Int) (hk:k.length=6) (hm:m.length=6):zt Tryz.prog 25 [keyA k,keyA m] (.bool (lexB k m)):=by
 simp only [keyA]
 refine zt.of Tryz.func25 rfl 24 rfl (by decide) (by simp [AV.okB]) ?_
 repeat' (first|refine T.zk fun K hK=>?_|apply T.block|(refine T.reg (by kernel_rfl) fun K' hK'=>?_;simp only [bz];(with_reducible repeat' (first|(apply WL.fin;apply hK';clear hK' K')|(refine WL.step fun K2 hK2=>?_;simp only [simprocAttr,implies_true,amz,zf,tys];repeat' (first|(apply hK2;clear hK2 K2)|apply And.intro|intro hb)))))|apply T.skip|apply T.exit|refine T.zh rfl ?_|refine T.zg rfl ?_|refine T.cond rfl (fun hc=>?_) (fun hc=>?_)|apply T.ret|simp only [ze,z8,reduceIte,Nat.reduceEqDiff]|((repeat ((fail_if_success apply hK);clear hK K));apply hK;clear hK K))
 refine T.z02 (fun i:Nat=>⟨[(2,.ptr 0 0),(3,.ptr 1 0),(4,.bool false),(5,.int i)],[(1,.boxP none 85 (m.map AV.int)),(0,.boxP none 85 (k.map AV.int))],24,2⟩) (fun i=>i≤6∧lexB k m=lexB (k.drop i) (m.drop i)) (fun i => 6-i) 0 ⟨by omega,by simp⟩ (by refine zi.of' rfl ?_;simp only [wks,reduceIte,Nat.reduceEqDiff,ASt.okB,AV.okB,Nat.reduceLT,implies_true,Int.natCast_zero,AO.zL,z88,Bool.and_self]) ?_
 rintro i ⟨hi,hl⟩ KL hKL
 by_cases hlt:i<6
 case neg =>
  have hd:decide ((i:Int)<6)=false:=by simp;omega
  rw [List.drop_eq_nil_of_le (show k.length≤i by omega),List.drop_eq_nil_of_le (show m.length≤i by omega),show lexB [] []=false from rfl] at hl
  repeat' (first|refine T.zk fun K hK=>?_|apply T.block|(refine T.reg (by kernel_rfl) fun K' hK'=>?_;simp only [bz];(with_reducible repeat' (first|(apply WL.fin;apply hK';clear hK' K')|(refine WL.step fun K2 hK2=>?_;simp only [simprocAttr,implies_true,amz,zf,tys,hd];repeat' (first|(apply hK2;clear hK2 K2)|apply And.intro|intro hb)))))|apply T.skip|apply T.exit|refine T.zh rfl ?_|refine T.zg rfl ?_|refine T.cond rfl (fun hc=>?_) (fun hc=>?_)|apply T.ret|simp only [ze,z8,reduceIte,Nat.reduceEqDiff]|((repeat ((fail_if_success apply hK);clear hK K));apply hK;clear hK K))
  all_goals (refine zP.ret (.inr rfl) Tryz.results25 ?_;simp only [zI,zu,zw,simprocAttr,implies_true,amz,zf,tys,hl])
 have hd:decide ((i:Int)<6)=true:=by simp;omega
 have hi0:(0≤(i:Int))=True:=eq_true (by omega)
 have hi6:(i<6)=True:=eq_true hlt
 obtain ⟨x,hx⟩:=qA (l:=k) (k:=i) (by omega)
 obtain ⟨y,hy⟩:=qA (l:=m) (k:=i) (by omega)
 have m1:(k.map AV.int)[i]? = some (.int x):=by rw [List.getElem?_map,hx];rfl
 have m2:(m.map AV.int)[i]? = some (.int y):=by rw [List.getElem?_map,hy];rfl
 rw [lex_drop hx hy] at hl
 by_cases h:x=y
 ·subst h
  rw [show decide (x<x)=false by simp,Bool.false_or,show (x==x)=true by simp,Bool.true_and] at hl
  repeat' (first|refine T.zk fun K hK=>?_|apply T.block|(refine T.reg (by kernel_rfl) fun K' hK'=>?_;simp only [bz];(with_reducible repeat' (first|(apply WL.fin;apply hK';clear hK' K')|(refine WL.step fun K2 hK2=>?_;simp only [simprocAttr,implies_true,amz,zf,tys,hd];repeat' (first|(apply hK2;clear hK2 K2)|apply And.intro|intro hb)))))|apply T.skip|apply T.exit|refine T.zh rfl ?_|refine T.zg rfl ?_|refine T.cond rfl (fun hc=>?_) (fun hc=>?_)|apply T.ret|simp only [ze,z8,reduceIte,Nat.reduceEqDiff]|((repeat ((fail_if_success apply hK);clear hK K));apply hK;clear hK K))
  refine T.drw 6 (by kernel_rfl) (by kernel_rfl) fun K' hK'=>?_;simp only [yl];(repeat' (first|(with_reducible refine WL.fin ?_;apply hK';clear hK' K')|(with_reducible refine WD.fin ?_)|((with_reducible first|refine WL.step fun K2 hK2=>?_|refine WD.step fun K2 hK2=>?_);simp only [simprocAttr,implies_true,amz,zf,tys,hi0,hi6,Int.toNat_natCast,Nat.mul_one,Nat.zero_add,m1,m2,bne_self_eq_false];(repeat' with_reducible (first|(apply hK2;clear hK2 K2)|apply And.intro|intro hb)))));all_goals ((try simp only [ze,z8,reduceIte,Nat.reduceEqDiff]);(try ((repeat ((fail_if_success apply hK);clear hK K));apply hK;clear hK K)))
  all_goals repeat' (first|refine T.zk fun K hK=>?_|apply T.block|(refine T.reg (by kernel_rfl) fun K' hK'=>?_;simp only [bz];(with_reducible repeat' (first|(apply WL.fin;apply hK';clear hK' K')|(refine WL.step fun K2 hK2=>?_;simp only [simprocAttr,implies_true,amz,zf,tys];repeat' (first|(apply hK2;clear hK2 K2)|apply And.intro|intro hb)))))|apply T.skip|apply T.exit|refine T.zh rfl ?_|refine T.zg rfl ?_|refine T.cond rfl (fun hc=>?_) (fun hc=>?_)|apply T.ret|simp only [ze,z8,reduceIte,Nat.reduceEqDiff]|((repeat ((fail_if_success apply hK);clear hK K));apply hK;clear hK K))
  refine hKL _ (i+1) (by refine zi.of' rfl ?_;simp only [wks,reduceIte,Nat.reduceEqDiff,ASt.okB,AV.okB,Nat.reduceLT,implies_true,zx (show i<1152921504606846976 by omega),AO.zL,z88,Bool.and_self]) ⟨hlt,hl⟩ (by omega)
 ·have hb:(x != y)=true:=by simpa using h
  rw [show (x==y)=false by simpa using h,Bool.false_and,Bool.or_false] at hl
  repeat' (first|refine T.zk fun K hK=>?_|apply T.block|(refine T.reg (by kernel_rfl) fun K' hK'=>?_;simp only [bz];(with_reducible repeat' (first|(apply WL.fin;apply hK';clear hK' K')|(refine WL.step fun K2 hK2=>?_;simp only [simprocAttr,implies_true,amz,zf,tys,hd];repeat' (first|(apply hK2;clear hK2 K2)|apply And.intro|intro hb)))))|apply T.skip|apply T.exit|refine T.zh rfl ?_|refine T.zg rfl ?_|refine T.cond rfl (fun hc=>?_) (fun hc=>?_)|apply T.ret|simp only [ze,z8,reduceIte,Nat.reduceEqDiff]|((repeat ((fail_if_success apply hK);clear hK K));apply hK;clear hK K))
  refine T.drw 6 (by kernel_rfl) (by kernel_rfl) fun K' hK'=>?_;simp only [yl];(repeat' (first|(with_reducible refine WL.fin ?_;apply hK';clear hK' K')|(with_reducible refine WD.fin ?_)|((with_reducible first|refine WL.step fun K2 hK2=>?_|refine WD.step fun K2 hK2=>?_);simp only [simprocAttr,implies_true,amz,zf,tys,hi0,hi6,Int.toNat_natCast,Nat.mul_one,Nat.zero_add,m1,m2,hb];(repeat' with_reducible (first|(apply hK2;clear hK2 K2)|apply And.intro|intro hb)))));all_goals ((try simp only [ze,z8,reduceIte,Nat.reduceEqDiff]);(try ((repeat ((fail_if_success apply hK);clear hK K));apply hK;clear hK K)))
  all_goals repeat' (first|refine T.zk fun K hK=>?_|apply T.block|(refine T.reg (by kernel_rfl) fun K' hK'=>?_;simp only [bz];(with_reducible repeat' (first|(apply WL.fin;apply hK';clear hK' K')|(refine WL.step fun K2 hK2=>?_;simp only [simprocAttr,implies_true,amz,zf,tys];repeat' (first|(apply hK2;clear hK2 K2)|apply And.intro|intro hb)))))|apply T.skip|apply T.exit|refine T.zh rfl ?_|refine T.zg rfl ?_|refine T.cond rfl (fun hc=>?_) (fun hc=>?_)|apply T.ret|simp only [ze,z8,reduceIte,Nat.reduceEqDiff]|((repeat ((fail_if_success apply hK);clear hK K));apply hK;clear hK K))
  refine T.drw 6 (by kernel_rfl) (by kernel_rfl) fun K' hK'=>?_;simp only [yl];(repeat' (first|(with_reducible refine WL.fin ?_;apply hK';clear hK' K')|(with_reducible refine WD.fin ?_)|((with_reducible first|refine WL.step fun K2 hK2=>?_|refine WD.step fun K2 hK2=>?_);simp only [simprocAttr,implies_true,amz,zf,tys,hi0,hi6,Int.toNat_natCast,Nat.mul_one,Nat.zero_add,m1,m2];(repeat' with_reducible (first|(apply hK2;clear hK2 K2)|apply And.intro|intro hb)))));all_goals ((try simp only [ze,z8,reduceIte,Nat.reduceEqDiff]);(try ((repeat ((fail_if_success apply hK);clear hK K));apply hK;clear hK K)))
  all_goals repeat' (first|refine T.zk fun K hK=>?_|apply T.block|(refine T.reg (by kernel_rfl) fun K' hK'=>?_;simp only [bz];(with_reducible repeat' (first|(apply WL.fin;apply hK';clear hK' K')|(refine WL.step fun K2 hK2=>?_;simp only [simprocAttr,implies_true,amz,zf,tys];repeat' (first|(apply hK2;clear hK2 K2)|apply And.intro|intro hb)))))|apply T.skip|apply T.exit|refine T.zh rfl ?_|refine T.zg rfl ?_|refine T.cond rfl (fun hc=>?_) (fun hc=>?_)|apply T.ret|simp only [ze,z8,reduceIte,Nat.reduceEqDiff]|((repeat ((fail_if_success apply hK);clear hK K));apply hK;clear hK K))
  all_goals (refine zP.ret (.inr rfl) Tryz.results25 ?_;simp only [zI,zu,zw,simprocAttr,implies_true,amz,zf,tys,hl])
theorem same_ok (a:List P2) (hsz:a.length≤1000000000):zt Tryz.prog 28 [.p (.seq 2 (rowP a)),.p (.seq 2 (rowP a))] (.bool true):=by
 have hlm:=z04 a
 refine zt.of Tryz.func28 rfl 26 rfl (by decide) (by simp [AV.okB]) ?_
 repeat' (first|refine T.zk fun K hK=>?_|apply T.block|(refine T.reg (by kernel_rfl) fun K' hK'=>?_;simp only [bz];(with_reducible repeat' (first|(apply WL.fin;apply hK';clear hK' K')|(refine WL.step fun K2 hK2=>?_;simp only [simprocAttr,implies_true,amz,zf,tys,hlm,bne_self_eq_false];repeat' (first|(apply hK2;clear hK2 K2)|apply And.intro|intro hb)))))|apply T.skip|apply T.exit|refine T.zh rfl ?_|refine T.zg rfl ?_|refine T.cond rfl (fun hc=>?_) (fun hc=>?_)|apply T.ret|simp only [ze,z8,reduceIte,Nat.reduceEqDiff]|((repeat ((fail_if_success apply hK);clear hK K));apply hK;clear hK K))
 refine T.z02 (fun k:Nat=>⟨[(0,.p (.seq 2 (rowP a))),(1,.p (.seq 2 (rowP a))),(4,.bool false),(5,.int k)],[],26,0⟩) (fun k=>k≤a.length) (fun k=>a.length-k) 0 (Nat.zero_le _) (by refine zi.of' rfl ?_;simp only [wks,reduceIte,Nat.reduceEqDiff,ASt.okB,AV.okB,Nat.reduceLT,implies_true,Int.natCast_zero]) ?_
 intro k hk KL hKL
 by_cases hlt:k<a.length
 ·have hd:decide ((k:Int)<(a.length:Int))=true:=by simpa using hlt
  have hi0:(0≤(k:Int))=True:=eq_true (by omega)
  obtain ⟨x,hx⟩:=qA hlt
  have m1:=z0I hx
  repeat' (first|refine T.zk fun K hK=>?_|apply T.block|(refine T.reg (by kernel_rfl) fun K' hK'=>?_;simp only [bz];(with_reducible repeat' (first|(apply WL.fin;apply hK';clear hK' K')|(refine WL.step fun K2 hK2=>?_;simp only [simprocAttr,implies_true,amz,zf,tys,hlm,hd];repeat' (first|(apply hK2;clear hK2 K2)|apply And.intro|intro hb)))))|apply T.skip|apply T.exit|refine T.zh rfl ?_|refine T.zg rfl ?_|refine T.cond rfl (fun hc=>?_) (fun hc=>?_)|apply T.ret|simp only [ze,z8,reduceIte,Nat.reduceEqDiff]|((repeat ((fail_if_success apply hK);clear hK K));apply hK;clear hK K))
  refine T.drw 8 (by kernel_rfl) (by kernel_rfl) fun K' hK'=>?_;simp only [yl];(repeat' (first|(with_reducible refine WL.fin ?_;apply hK';clear hK' K')|(with_reducible refine WD.fin ?_)|((with_reducible first|refine WL.step fun K2 hK2=>?_|refine WD.step fun K2 hK2=>?_);simp only [simprocAttr,implies_true,amz,zf,tys,hlm,hi0,Int.toNat_natCast,m1,scEq,aeqF,beq_self_eq_true,Bool.and_true,Bool.not_true];(repeat' with_reducible (first|(apply hK2;clear hK2 K2)|apply And.intro|intro hb)))));all_goals ((try simp only [ze,z8,reduceIte,Nat.reduceEqDiff]);(try ((repeat ((fail_if_success apply hK);clear hK K));apply hK;clear hK K)))
  all_goals repeat' (first|refine T.zk fun K hK=>?_|apply T.block|(refine T.reg (by kernel_rfl) fun K' hK'=>?_;simp only [bz];(with_reducible repeat' (first|(apply WL.fin;apply hK';clear hK' K')|(refine WL.step fun K2 hK2=>?_;simp only [simprocAttr,implies_true,amz,zf,tys];repeat' (first|(apply hK2;clear hK2 K2)|apply And.intro|intro hb)))))|apply T.skip|apply T.exit|refine T.zh rfl ?_|refine T.zg rfl ?_|refine T.cond rfl (fun hc=>?_) (fun hc=>?_)|apply T.ret|simp only [ze,z8,reduceIte,Nat.reduceEqDiff]|((repeat ((fail_if_success apply hK);clear hK K));apply hK;clear hK K))
  refine hKL _ (k+1) (by refine zi.of' rfl ?_;simp only [wks,reduceIte,Nat.reduceEqDiff,ASt.okB,AV.okB,Nat.reduceLT,implies_true,zx (show k<1152921504606846976 by omega)]) hlt (by omega)
 ·have hd:decide ((k:Int)<(a.length:Int))=false:=by simpa using hlt
  repeat' (first|refine T.zk fun K hK=>?_|apply T.block|(refine T.reg (by kernel_rfl) fun K' hK'=>?_;simp only [bz];(with_reducible repeat' (first|(apply WL.fin;apply hK';clear hK' K')|(refine WL.step fun K2 hK2=>?_;simp only [simprocAttr,implies_true,amz,zf,tys,hlm,hd];repeat' (first|(apply hK2;clear hK2 K2)|apply And.intro|intro hb)))))|apply T.skip|apply T.exit|refine T.zh rfl ?_|refine T.zg rfl ?_|refine T.cond rfl (fun hc=>?_) (fun hc=>?_)|apply T.ret|simp only [ze,z8,reduceIte,Nat.reduceEqDiff]|((repeat ((fail_if_success apply hK);clear hK K));apply hK;clear hK K))
  all_goals (refine zP.ret (.inr rfl) Tryz.results28 ?_;simp only [zI,zu,zw,simprocAttr,implies_true,amz,zf,tys,])
structure Rep where
 obj:Int
 off:Int
 k1:Int
 k2:Int
 s1:List P2
 s2:List P2
 cnt:Int
def repC (x:Rep):List PV := [.val (.int .i64 x.obj),.val (.int .i64 x.off),.val (.int .i64 x.k1),.val (.int .i64 x.k2),.seq 2 (rowP x.s1),.seq 2 (rowP x.s2),.val (.int .i64 x.cnt)]
def repA (x:Rep):AV := .agg ((repC x).map .p)
theorem rep_at {l:List Rep} {k:Nat} {x:Rep} (h:l[k]? = some x):(l.map repC)[k]? = some [.val (.int .i64 x.obj),.val (.int .i64 x.off),.val (.int .i64 x.k1),.val (.int .i64 x.k2),.seq 2 (rowP x.s1),.seq 2 (rowP x.s2),.val (.int .i64 x.cnt)]:=by
 rw [List.getElem?_map,h];rfl
def stSm (rs bs:List Rep) (k:Nat) (x y:Rep) (b:Nat→Bool):ASt:=⟨[(19,bif b 0 then .p (.seq 7 (rs.map repC)) else .zy),(20,bif b 1 then .int k else .zy),(21,bif b 2 then .elt (repC x) 0 else .zy),(22,bif b 3 then .agg ((repC x).map .p) else .zy),(23,bif b 4 then .p (.seq 7 (bs.map repC)) else .zy),(24,bif b 5 then .int k else .zy),(25,bif b 6 then .elt (repC y) 0 else .zy),(26,bif b 7 then .agg ((repC y).map .p) else .zy),(6,bif b 8 then .ptr 0 0 else .zy),(7,bif b 9 then .ptr 1 0 else .zy),(0,.p (.seq 7 (rs.map repC))),(1,.p (.seq 7 (bs.map repC))),(4,.bool false),(5,.int k)],(bif b 8 then [(0,AO.boxP none 41 (bif b 10 then ((repC x).map .p) else [.int 0,.int 0,.int 0,.int 0,.p (.val (.slice none 0 0)),.p (.val (.slice none 0 0)),.int 0]))] else [])++((bif b 9 then [(1,AO.boxP none 41 (bif b 11 then ((repC y).map .p) else [.int 0,.int 0,.int 0,.int 0,.p (.val (.slice none 0 0)),.p (.val (.slice none 0 0)),.int 0]))] else []) ++ []),76,2⟩
theorem sameL_ok (rs:List Rep) (hsz:rs.length≤1000000000) (hst : ∀ x ∈ rs,x.s1.length≤1000000000∧x.s2.length≤1000000000):zt Tryz.prog 8 [.p (.seq 7 (rs.map repC)),.p (.seq 7 (rs.map repC))] (.bool true):=by
 have hla:(rs.map repC).length=rs.length:=by simp
 refine zt.of Tryz.func8 rfl 76 rfl (by decide) (by simp [AV.okB]) ?_
 repeat' (first|refine T.zk fun K hK=>?_|apply T.block|(refine T.reg (by kernel_rfl) fun K' hK'=>?_;simp only [bz];(with_reducible repeat' (first|(apply WL.fin;apply hK';clear hK' K')|(refine WL.step fun K2 hK2=>?_;simp only [simprocAttr,implies_true,amz,zf,tys,hla,bne_self_eq_false];repeat' (first|(apply hK2;clear hK2 K2)|apply And.intro|intro hb)))))|apply T.skip|apply T.exit|refine T.zh rfl ?_|refine T.zg rfl ?_|refine T.cond rfl (fun hc=>?_) (fun hc=>?_)|apply T.ret|simp only [ze,z8,reduceIte,Nat.reduceEqDiff]|((repeat ((fail_if_success apply hK);clear hK K));apply hK;clear hK K))
 refine T.z02 (fun k:Nat=>⟨[(0,.p (.seq 7 (rs.map repC))),(1,.p (.seq 7 (rs.map repC))),(4,.bool false),(5,.int k)],[],76,0⟩) (fun k=>k≤rs.length) (fun k=>rs.length-k) 0 (Nat.zero_le _) (by refine zi.of' rfl ?_;simp only [wks,reduceIte,Nat.reduceEqDiff,ASt.okB,AV.okB,Nat.reduceLT,implies_true,Int.natCast_zero]) ?_
 intro k hk KL hKL
 by_cases hlt:k<rs.length
 ·have hd:decide ((k:Int)<(rs.length:Int))=true:=by simpa using hlt
  have hi0:(0≤(k:Int))=True:=eq_true (by omega)
  obtain ⟨x,hx⟩:=qA hlt
  have mi:=rep_at hx
  obtain ⟨q1,q2⟩:=hst x (List.mem_of_getElem? hx)
  have e1:=same_ok x.s1 q1
  have e2:=same_ok x.s2 q2
  repeat' (first|refine T.zk fun K hK=>?_|apply T.block|(refine T.reg (by kernel_rfl) fun K' hK'=>?_;simp only [bz];(with_reducible repeat' (first|(apply WL.fin;apply hK';clear hK' K')|(refine WL.step fun K2 hK2=>?_;simp only [simprocAttr,implies_true,amz,zf,tys,hla,hd];repeat' (first|(apply hK2;clear hK2 K2)|apply And.intro|intro hb)))))|apply T.skip|apply T.exit|refine T.zh rfl ?_|refine T.zg rfl ?_|refine T.cond rfl (fun hc=>?_) (fun hc=>?_)|apply T.ret|simp only [ze,z8,reduceIte,Nat.reduceEqDiff]|((repeat ((fail_if_success apply hK);clear hK K));apply hK;clear hK K))
  refine T.inv (stSm rs rs k x x) (by kernel_rfl) (by kernel_rfl) ?_ (fun b hcl=>?_) fun K' hK'=>?_
  ·simp only [stSm,cond_false,List.nil_append];refine zi.of' rfl ?_;simp only [wks,reduceIte,Nat.reduceEqDiff,ASt.okB,AV.okB,AO.zL,AV.zT,List.all_cons,List.all_nil,Nat.reduceLT,implies_true,List.nil_append,List.cons_append,cond_true,cond_false,and_self,zS,zU,Bool.cond_self,Bool.and_self,AV.zG,AV.zW,AV.zF,AV.zA,AV.zD,yl,repC,yl,hla,hi0,Int.toNat_natCast,mi]
  ·simp only [allL,Nat.reduceAdd]
   refine ⟨fun hb hd=>?_,fun hb hd=>?_,fun hb hd=>?_,fun hb hd=>?_,fun hb hd=>?_,fun hb hd=>?_,fun hb hd=>?_,fun hb hd=>?_,fun hb hd=>?_,fun hb hd=>?_,fun hb hd=>?_,fun hb hd=>?_,trivial⟩
   ·refine ⟨by trivial,by simp [zC,stSm],?_⟩
    simp only [simprocAttr,implies_true,amz,zf,tys,lkc,zV,Nat.reduceBEq,yb,stSm,repC,yl,hla,hi0,Int.toNat_natCast,mi]
    all_goals (refine zi.slots ?_;simp only [wks,reduceIte,Nat.reduceEqDiff,implies_true,cond_true,and_self])
   ·refine ⟨by trivial,by simp [zC,stSm],?_⟩
    simp only [simprocAttr,implies_true,amz,zf,tys,lkc,zV,Nat.reduceBEq,yb,stSm,repC,yl,hla,hi0,Int.toNat_natCast,mi]
    all_goals (refine zi.slots ?_;simp only [wks,reduceIte,Nat.reduceEqDiff,implies_true,cond_true,and_self])
   ·have d0:=zm hd (j := 0) (by decide) (by kernel_rfl);have d1:=zm hd (j := 1) (by decide) (by kernel_rfl);refine ⟨by trivial,by simp [zC,stSm],?_⟩
    simp only [simprocAttr,implies_true,amz,zf,tys,lkc,zV,Nat.reduceBEq,yb,stSm,repC,yl,hla,hi0,Int.toNat_natCast,mi,d0,d1]
    all_goals (refine zi.slots ?_;simp only [wks,reduceIte,Nat.reduceEqDiff,implies_true,cond_true,and_self,d0,d1])
   ·have d2:=zm hd (j := 2) (by decide) (by kernel_rfl);refine ⟨by trivial,by simp [zC,stSm],?_⟩
    simp only [simprocAttr,implies_true,amz,zf,tys,lkc,zV,Nat.reduceBEq,yb,stSm,repC,yl,hla,hi0,Int.toNat_natCast,mi,d2]
    all_goals (refine zi.slots ?_;simp only [wks,reduceIte,Nat.reduceEqDiff,implies_true,cond_true,and_self,d2])
   ·refine ⟨by trivial,by simp [zC,stSm],?_⟩
    simp only [simprocAttr,implies_true,amz,zf,tys,lkc,zV,Nat.reduceBEq,yb,stSm,repC,yl,hla,hi0,Int.toNat_natCast,mi]
    all_goals (refine zi.slots ?_;simp only [wks,reduceIte,Nat.reduceEqDiff,implies_true,cond_true,and_self])
   ·refine ⟨by trivial,by simp [zC,stSm],?_⟩
    simp only [simprocAttr,implies_true,amz,zf,tys,lkc,zV,Nat.reduceBEq,yb,stSm,repC,yl,hla,hi0,Int.toNat_natCast,mi]
    all_goals (refine zi.slots ?_;simp only [wks,reduceIte,Nat.reduceEqDiff,implies_true,cond_true,and_self])
   ·have d4:=zm hd (j := 4) (by decide) (by kernel_rfl);have d5:=zm hd (j := 5) (by decide) (by kernel_rfl);refine ⟨by trivial,by simp [zC,stSm],?_⟩
    simp only [simprocAttr,implies_true,amz,zf,tys,lkc,zV,Nat.reduceBEq,yb,stSm,repC,yl,hla,hi0,Int.toNat_natCast,mi,d4,d5]
    all_goals (refine zi.slots ?_;simp only [wks,reduceIte,Nat.reduceEqDiff,implies_true,cond_true,and_self,d4,d5])
   ·have d6:=zm hd (j := 6) (by decide) (by kernel_rfl);refine ⟨by trivial,by simp [zC,stSm],?_⟩
    simp only [simprocAttr,implies_true,amz,zf,tys,lkc,zV,Nat.reduceBEq,yb,stSm,repC,yl,hla,hi0,Int.toNat_natCast,mi,d6]
    all_goals (refine zi.slots ?_;simp only [wks,reduceIte,Nat.reduceEqDiff,implies_true,cond_true,and_self,d6])
   ·have h3:b 10=false:=by
     cases h:b 10 with
     | false=>rfl
     | true =>
      have h4:=zm (hcl 10 (by decide) h) (j := 8) (by decide) (by kernel_rfl)
      rw [hb] at h4;cases h4
    refine ⟨by trivial,by simp [zC,stSm],?_⟩
    cases h1:b 9 <;> cases h2:b 11 <;> (simp only [simprocAttr,implies_true,amz,zf,tys,lkc,zV,Nat.reduceBEq,yb,stSm,repC,yl,hla,hi0,Int.toNat_natCast,mi,hb,h1,h2,h3];refine (zi.ren _ 2 0).trans ?_;simp only [ASt.ren,AV.zZ,AV.zG,AV.qd,AV.qw,AV.zW,AV.zF,AV.zA,AV.qc,AV.qO,AV.zD,AV.qx,AO.qD,AO.qG,AO.qE,AO.qF,yl,List.filter_cons,List.filter_nil,zq,qp,reduceIte,Nat.reduceEqDiff,Nat.reduceLT,Nat.reduceBneDiff,bne_self_eq_false,Bool.and_true,Bool.and_false,Bool.true_and,Bool.false_and,Bool.and_self,Bool.false_eq_true,ne_eq,not_false_eq_true,not_true_eq_false,and_self,and_true,true_and,and_false];refine zi.of' rfl ?_;simp only [wks,reduceIte,Nat.reduceEqDiff,ASt.okB,AV.okB,AO.zL,AV.zT,List.all_cons,List.all_nil,Nat.reduceLT,implies_true,List.nil_append,List.cons_append,cond_true,cond_false,and_self,zS,zU,Bool.cond_self,Bool.and_self,AV.zG,AV.zW,AV.zF,AV.zA,AV.zD,yl,repC,yl,hla,hi0,Int.toNat_natCast,mi])
   ·have h3:b 11=false:=by
     cases h:b 11 with
     | false=>rfl
     | true =>
      have h4:=zm (hcl 11 (by decide) h) (j := 9) (by decide) (by kernel_rfl)
      rw [hb] at h4;cases h4
    refine ⟨by trivial,by simp [zC,stSm],?_⟩
    cases h1:b 8 <;> cases h2:b 10 <;> (simp only [simprocAttr,implies_true,amz,zf,tys,lkc,zV,Nat.reduceBEq,yb,stSm,repC,yl,hla,hi0,Int.toNat_natCast,mi,hb,h1,h2,h3];refine (zi.ren _ 2 1).trans ?_;simp only [ASt.ren,AV.zZ,AV.zG,AV.qd,AV.qw,AV.zW,AV.zF,AV.zA,AV.qc,AV.qO,AV.zD,AV.qx,AO.qD,AO.qG,AO.qE,AO.qF,yl,List.filter_cons,List.filter_nil,zq,qp,reduceIte,Nat.reduceEqDiff,Nat.reduceLT,Nat.reduceBneDiff,bne_self_eq_false,Bool.and_true,Bool.and_false,Bool.true_and,Bool.false_and,Bool.and_self,Bool.false_eq_true,ne_eq,not_false_eq_true,not_true_eq_false,and_self,and_true,true_and,and_false];refine zi.of' rfl ?_;simp only [wks,reduceIte,Nat.reduceEqDiff,ASt.okB,AV.okB,AO.zL,AV.zT,List.all_cons,List.all_nil,Nat.reduceLT,implies_true,List.nil_append,List.cons_append,cond_true,cond_false,and_self,zS,zU,Bool.cond_self,Bool.and_self,AV.zG,AV.zW,AV.zF,AV.zA,AV.zD,yl,repC,yl,hla,hi0,Int.toNat_natCast,mi])
   ·have d8:=zm hd (j := 8) (by decide) (by kernel_rfl);have d3:=zm hd (j := 3) (by decide) (by kernel_rfl)
    refine ⟨by trivial,by simp [zC,stSm],?_⟩
    cases h1:b 9 <;> cases h2:b 11 <;> (simp only [simprocAttr,implies_true,amz,zf,tys,lkc,zV,Nat.reduceBEq,yb,stSm,repC,yl,hla,hi0,Int.toNat_natCast,mi,hb,h1,h2,d8,d3];refine zi.of' rfl ?_;simp only [wks,reduceIte,Nat.reduceEqDiff,ASt.okB,AV.okB,AO.zL,AV.zT,List.all_cons,List.all_nil,Nat.reduceLT,implies_true,List.nil_append,List.cons_append,cond_true,cond_false,and_self,zS,zU,Bool.cond_self,Bool.and_self,AV.zG,AV.zW,AV.zF,AV.zA,AV.zD,yl,repC,yl,hla,hi0,Int.toNat_natCast,mi])
   ·have d9:=zm hd (j := 9) (by decide) (by kernel_rfl);have d7:=zm hd (j := 7) (by decide) (by kernel_rfl)
    refine ⟨by trivial,by simp [zC,stSm],?_⟩
    cases h1:b 8 <;> cases h2:b 10 <;> (simp only [simprocAttr,implies_true,amz,zf,tys,lkc,zV,Nat.reduceBEq,yb,stSm,repC,yl,hla,hi0,Int.toNat_natCast,mi,hb,h1,h2,d9,d7];refine zi.of' rfl ?_;simp only [wks,reduceIte,Nat.reduceEqDiff,ASt.okB,AV.okB,AO.zL,AV.zT,List.all_cons,List.all_nil,Nat.reduceLT,implies_true,List.nil_append,List.cons_append,cond_true,cond_false,and_self,zS,zU,Bool.cond_self,Bool.and_self,AV.zG,AV.zW,AV.zF,AV.zA,AV.zD,yl,repC,yl,hla,hi0,Int.toNat_natCast,mi])
  apply hK';clear hK' K';simp only [stSm,List.length_cons,List.length_nil,Nat.reduceAdd,Nat.reduceLT,decide_true,cond_true,List.cons_append,List.nil_append];(try simp only [ze,z8,reduceIte,Nat.reduceEqDiff]);(try ((repeat ((fail_if_success apply hK);clear hK K));apply hK;clear hK K))
  all_goals repeat' (first|refine T.zk fun K hK=>?_|apply T.block|(refine T.reg (by kernel_rfl) fun K' hK'=>?_;simp only [bz];(repeat' (first|(with_reducible refine WL.fin ?_;apply hK';clear hK' K')|((with_reducible refine WL.step fun K2 hK2=>?_);simp only [simprocAttr,implies_true,amz,zf,tys,repC,yl,bne_self_eq_false,Bool.not_true];(repeat' (first|with_reducible (first|(apply hK2;clear hK2 K2)|apply And.intro|intro hb)|((with_reducible first|apply zl|apply zn);case h=>exact CallV.plain (Ent.of Tryz.func28 (by kernel_rfl) rfl) (e1) (by simp [AV.okB]))|((with_reducible first|apply zl|apply zn);case h=>exact CallV.plain (Ent.of Tryz.func28 (by kernel_rfl) rfl) (e2) (by simp [AV.okB]))))))))|apply T.skip|apply T.exit|refine T.zh rfl ?_|refine T.zg rfl ?_|refine T.cond rfl (fun hc=>?_) (fun hc=>?_)|apply T.ret|simp only [ze,z8,reduceIte,Nat.reduceEqDiff]|((repeat ((fail_if_success apply hK);clear hK K));apply hK;clear hK K))
  refine hKL _ (k+1) (by refine zi.of' rfl ?_;simp only [wks,reduceIte,Nat.reduceEqDiff,ASt.okB,AV.okB,Nat.reduceLT,implies_true,zx (show k<1152921504606846976 by omega)]) hlt (by omega)
 ·have hd:decide ((k:Int)<(rs.length:Int))=false:=by simpa using hlt
  repeat' (first|refine T.zk fun K hK=>?_|apply T.block|(refine T.reg (by kernel_rfl) fun K' hK'=>?_;simp only [bz];(with_reducible repeat' (first|(apply WL.fin;apply hK';clear hK' K')|(refine WL.step fun K2 hK2=>?_;simp only [simprocAttr,implies_true,amz,zf,tys,hla,hd];repeat' (first|(apply hK2;clear hK2 K2)|apply And.intro|intro hb)))))|apply T.skip|apply T.exit|refine T.zh rfl ?_|refine T.zg rfl ?_|refine T.cond rfl (fun hc=>?_) (fun hc=>?_)|apply T.ret|simp only [ze,z8,reduceIte,Nat.reduceEqDiff]|((repeat ((fail_if_success apply hK);clear hK K));apply hK;clear hK K))
  all_goals (refine zP.ret (.inr rfl) Tryz.results8 ?_;simp only [zI,zu,zw,simprocAttr,implies_true,amz,zf,tys,])
def z3A (ss:List P2) (ps:List Int) (a b:Ev) (c:Int):Rep:=⟨a.obj,a.off,a.kind,b.kind,stkD ss ps a.st,stkD ss ps b.st,c⟩
theorem z4N {n:Nat} {e:Ev} (h:stB n e=true) : 0≤e.st∧e.st<(n:Int):=by
 simpa [stB] using h
def stRr (l:List Ev) (ss:List P2) (ps:List Int) (r:P2) (c i j:Int) (e f:Ev) (b:Nat→Bool):ASt:=⟨[(21,bif b 0 then .ptr 0 0 else .zy),(22,bif b 1 then (.p (.seq 9 (l.map evC))) else .zy),(23,bif b 2 then .int i else .zy),(24,bif b 3 then .elt (evC e) 0 else .zy),(25,bif b 4 then evA e else .zy),(26,bif b 5 then .ptr 0 0 else .zy),(27,bif b 6 then (.p (.seq 9 (l.map evC))) else .zy),(28,bif b 7 then .int j else .zy),(29,bif b 8 then .elt (evC f) 0 else .zy),(30,bif b 9 then evA f else .zy),(9,bif b 10 then .ptr 3 0 else .zy),(10,bif b 11 then .ptr 4 0 else .zy),(2,.int c),(3,.ptr 0 0),(4,.ptr 1 0),(6,.ptr 2 0),(7,.int i),(8,.int j)],(bif b 10 then [(3,AO.boxP none 33 (bif b 12 then ((evC e).map .p) else [.int 0,.int 0,.int 0,.int 0,.int 0,.int 0,.int 0,.int 0,.int 0]))] else [])++((bif b 11 then [(4,AO.boxP none 33 (bif b 13 then ((evC f).map .p) else [.int 0,.int 0,.int 0,.int 0,.int 0,.int 0,.int 0,.int 0,.int 0]))] else []) ++ [(2,AO.boxP none 41 [.int 0,.int 0,.int 0,.int 0,.p (.val (.slice none 0 0)),.p (.val (.slice none 0 0)),.int 0]),(1,AO.boxP none 45 [.int r.1,.int r.2]),(0,AO.boxP none 31 [.p (.seq 9 (l.map evC)),.p (.seq 2 (rowP ss)),.p (.seq 1 (rowZ ps))])]),59,5⟩
theorem z8Y (l:List Ev) (ss:List P2) (ps:List Int) (hsz:ss.length≤1000000) (hv:validD ss ps=true) (r:P2) (c i j:Int) (e f:Ev) (o1 : 0≤i) (o2 : 0≤j) (o3:l[i.toNat]? = some e) (o4:l[j.toNat]? = some f) (se:stB ss.length e=true) (sf:stB ss.length f=true) (ho:zt Tryz.prog 46 [trA l ss ps,p2A r] (.tup [.int i,.int j])) :
  zt Tryz.prog 27 [trA l ss ps,p2A r,.int c] (repA (z3A ss ps e f c)):=by
 have hlm:(l.map evC).length=l.length:=by simp
 have hi0:(0≤i)=True:=eq_true o1
 have hj0:(0≤j)=True:=eq_true o2
 have mi:=z0W o3
 have mj:=z0W o4
 obtain ⟨e1,e2⟩:=z4N se
 obtain ⟨f1,f2⟩:=z4N sf
 have hse:=z6L ss ps hsz hv e.st e1 e2
 have hsf:=z6L ss ps hsz hv f.st f1 f2
 simp only [trA,p2A,dpA,repA,repC,z3A,yl] at ho hse hsf ⊢
 refine zt.of Tryz.func27 rfl 59 rfl (by decide) (by simp [AV.okB]) ?_
 repeat' (first|refine T.zk fun K hK=>?_|apply T.block|(refine T.reg (by kernel_rfl) fun K' hK'=>?_;simp only [bz];(repeat' (first|(with_reducible refine WL.fin ?_;apply hK';clear hK' K')|((with_reducible refine WL.step fun K2 hK2=>?_);simp only [simprocAttr,implies_true,amz,zf,tys];(repeat' (first|with_reducible (first|(apply hK2;clear hK2 K2)|apply And.intro|intro hb)|((with_reducible first|apply zl|apply zn);case h=>exact CallV.plain (Ent.of Tryz.func46 (by kernel_rfl) rfl) (ho) (by simp [AV.okB]))))))))|apply T.skip|apply T.exit|refine T.zh rfl ?_|refine T.zg rfl ?_|refine T.cond rfl (fun hc=>?_) (fun hc=>?_)|apply T.ret|simp only [ze,z8,reduceIte,Nat.reduceEqDiff]|((repeat ((fail_if_success apply hK);clear hK K));apply hK;clear hK K))
 refine T.inv (stRr l ss ps r c i j e f) (by kernel_rfl) (by kernel_rfl) ?_ (fun b hcl=>?_) fun K' hK'=>?_
 ·simp only [stRr,cond_false,List.nil_append];refine zi.of' rfl ?_;simp only [wks,reduceIte,Nat.reduceEqDiff,ASt.okB,AV.okB,AO.zL,AV.zT,List.all_cons,List.all_nil,Nat.reduceLT,implies_true,List.nil_append,List.cons_append,cond_true,cond_false,and_self,zS,zU,Bool.cond_self,Bool.and_self,AV.zG,AV.zW,AV.zF,AV.zA,AV.zD,yl,evA,evC,yl,hlm,hi0,hj0,mi,mj]
 ·simp only [allL,Nat.reduceAdd]
  refine ⟨fun hb hd=>?_,fun hb hd=>?_,fun hb hd=>?_,fun hb hd=>?_,fun hb hd=>?_,fun hb hd=>?_,fun hb hd=>?_,fun hb hd=>?_,fun hb hd=>?_,fun hb hd=>?_,fun hb hd=>?_,fun hb hd=>?_,fun hb hd=>?_,fun hb hd=>?_,trivial⟩
  ·refine ⟨by trivial,by simp [zC,stRr],?_⟩
   simp only [simprocAttr,implies_true,amz,zf,tys,lkc,zV,Nat.reduceBEq,yb,stRr,evA,evC,yl,hlm,hi0,hj0,mi,mj]
   all_goals (refine zi.slots ?_;simp only [wks,reduceIte,Nat.reduceEqDiff,implies_true,cond_true,and_self])
  ·have d0:=zm hd (j := 0) (by decide) (by kernel_rfl);refine ⟨by trivial,by simp [zC,stRr],?_⟩
   simp only [simprocAttr,implies_true,amz,zf,tys,lkc,zV,Nat.reduceBEq,yb,stRr,evA,evC,yl,hlm,hi0,hj0,mi,mj,d0]
   all_goals (refine zi.slots ?_;simp only [wks,reduceIte,Nat.reduceEqDiff,implies_true,cond_true,and_self,d0])
  ·refine ⟨by trivial,by simp [zC,stRr],?_⟩
   simp only [simprocAttr,implies_true,amz,zf,tys,lkc,zV,Nat.reduceBEq,yb,stRr,evA,evC,yl,hlm,hi0,hj0,mi,mj]
   all_goals (refine zi.slots ?_;simp only [wks,reduceIte,Nat.reduceEqDiff,implies_true,cond_true,and_self])
  ·have d1:=zm hd (j := 1) (by decide) (by kernel_rfl);have d2:=zm hd (j := 2) (by decide) (by kernel_rfl);refine ⟨by trivial,by simp [zC,stRr],?_⟩
   simp only [simprocAttr,implies_true,amz,zf,tys,lkc,zV,Nat.reduceBEq,yb,stRr,evA,evC,yl,hlm,hi0,hj0,mi,mj,d1,d2]
   all_goals (refine zi.slots ?_;simp only [wks,reduceIte,Nat.reduceEqDiff,implies_true,cond_true,and_self,d1,d2])
  ·have d3:=zm hd (j := 3) (by decide) (by kernel_rfl);refine ⟨by trivial,by simp [zC,stRr],?_⟩
   simp only [simprocAttr,implies_true,amz,zf,tys,lkc,zV,Nat.reduceBEq,yb,stRr,evA,evC,yl,hlm,hi0,hj0,mi,mj,d3]
   all_goals (refine zi.slots ?_;simp only [wks,reduceIte,Nat.reduceEqDiff,implies_true,cond_true,and_self,d3])
  ·refine ⟨by trivial,by simp [zC,stRr],?_⟩
   simp only [simprocAttr,implies_true,amz,zf,tys,lkc,zV,Nat.reduceBEq,yb,stRr,evA,evC,yl,hlm,hi0,hj0,mi,mj]
   all_goals (refine zi.slots ?_;simp only [wks,reduceIte,Nat.reduceEqDiff,implies_true,cond_true,and_self])
  ·have d5:=zm hd (j := 5) (by decide) (by kernel_rfl);refine ⟨by trivial,by simp [zC,stRr],?_⟩
   simp only [simprocAttr,implies_true,amz,zf,tys,lkc,zV,Nat.reduceBEq,yb,stRr,evA,evC,yl,hlm,hi0,hj0,mi,mj,d5]
   all_goals (refine zi.slots ?_;simp only [wks,reduceIte,Nat.reduceEqDiff,implies_true,cond_true,and_self,d5])
  ·refine ⟨by trivial,by simp [zC,stRr],?_⟩
   simp only [simprocAttr,implies_true,amz,zf,tys,lkc,zV,Nat.reduceBEq,yb,stRr,evA,evC,yl,hlm,hi0,hj0,mi,mj]
   all_goals (refine zi.slots ?_;simp only [wks,reduceIte,Nat.reduceEqDiff,implies_true,cond_true,and_self])
  ·have d6:=zm hd (j := 6) (by decide) (by kernel_rfl);have d7:=zm hd (j := 7) (by decide) (by kernel_rfl);refine ⟨by trivial,by simp [zC,stRr],?_⟩
   simp only [simprocAttr,implies_true,amz,zf,tys,lkc,zV,Nat.reduceBEq,yb,stRr,evA,evC,yl,hlm,hi0,hj0,mi,mj,d6,d7]
   all_goals (refine zi.slots ?_;simp only [wks,reduceIte,Nat.reduceEqDiff,implies_true,cond_true,and_self,d6,d7])
  ·have d8:=zm hd (j := 8) (by decide) (by kernel_rfl);refine ⟨by trivial,by simp [zC,stRr],?_⟩
   simp only [simprocAttr,implies_true,amz,zf,tys,lkc,zV,Nat.reduceBEq,yb,stRr,evA,evC,yl,hlm,hi0,hj0,mi,mj,d8]
   all_goals (refine zi.slots ?_;simp only [wks,reduceIte,Nat.reduceEqDiff,implies_true,cond_true,and_self,d8])
  ·have h3:b 12=false:=by
    cases h:b 12 with
    | false=>rfl
    | true =>
     have h4:=zm (hcl 12 (by decide) h) (j := 10) (by decide) (by kernel_rfl)
     rw [hb] at h4;cases h4
   refine ⟨by trivial,by simp [zC,stRr],?_⟩
   cases h1:b 11 <;> cases h2:b 13 <;> (simp only [simprocAttr,implies_true,amz,zf,tys,lkc,zV,Nat.reduceBEq,yb,stRr,evA,evC,yl,hlm,hi0,hj0,mi,mj,hb,h1,h2,h3];refine (zi.ren _ 5 3).trans ?_;simp only [ASt.ren,AV.zZ,AV.zG,AV.qd,AV.qw,AV.zW,AV.zF,AV.zA,AV.qc,AV.qO,AV.zD,AV.qx,AO.qD,AO.qG,AO.qE,AO.qF,yl,List.filter_cons,List.filter_nil,zq,qp,reduceIte,Nat.reduceEqDiff,Nat.reduceLT,Nat.reduceBneDiff,bne_self_eq_false,Bool.and_true,Bool.and_false,Bool.true_and,Bool.false_and,Bool.and_self,Bool.false_eq_true,ne_eq,not_false_eq_true,not_true_eq_false,and_self,and_true,true_and,and_false];refine zi.of' rfl ?_;simp only [wks,reduceIte,Nat.reduceEqDiff,ASt.okB,AV.okB,AO.zL,AV.zT,List.all_cons,List.all_nil,Nat.reduceLT,implies_true,List.nil_append,List.cons_append,cond_true,cond_false,and_self,zS,zU,Bool.cond_self,Bool.and_self,AV.zG,AV.zW,AV.zF,AV.zA,AV.zD,yl,evA,evC,yl,hlm,hi0,hj0,mi,mj])
  ·have h3:b 13=false:=by
    cases h:b 13 with
    | false=>rfl
    | true =>
     have h4:=zm (hcl 13 (by decide) h) (j := 11) (by decide) (by kernel_rfl)
     rw [hb] at h4;cases h4
   refine ⟨by trivial,by simp [zC,stRr],?_⟩
   cases h1:b 10 <;> cases h2:b 12 <;> (simp only [simprocAttr,implies_true,amz,zf,tys,lkc,zV,Nat.reduceBEq,yb,stRr,evA,evC,yl,hlm,hi0,hj0,mi,mj,hb,h1,h2,h3];refine (zi.ren _ 5 4).trans ?_;simp only [ASt.ren,AV.zZ,AV.zG,AV.qd,AV.qw,AV.zW,AV.zF,AV.zA,AV.qc,AV.qO,AV.zD,AV.qx,AO.qD,AO.qG,AO.qE,AO.qF,yl,List.filter_cons,List.filter_nil,zq,qp,reduceIte,Nat.reduceEqDiff,Nat.reduceLT,Nat.reduceBneDiff,bne_self_eq_false,Bool.and_true,Bool.and_false,Bool.true_and,Bool.false_and,Bool.and_self,Bool.false_eq_true,ne_eq,not_false_eq_true,not_true_eq_false,and_self,and_true,true_and,and_false];refine zi.of' rfl ?_;simp only [wks,reduceIte,Nat.reduceEqDiff,ASt.okB,AV.okB,AO.zL,AV.zT,List.all_cons,List.all_nil,Nat.reduceLT,implies_true,List.nil_append,List.cons_append,cond_true,cond_false,and_self,zS,zU,Bool.cond_self,Bool.and_self,AV.zG,AV.zW,AV.zF,AV.zA,AV.zD,yl,evA,evC,yl,hlm,hi0,hj0,mi,mj])
  ·have d10:=zm hd (j := 10) (by decide) (by kernel_rfl);have d4:=zm hd (j := 4) (by decide) (by kernel_rfl)
   refine ⟨by trivial,by simp [zC,stRr],?_⟩
   cases h1:b 11 <;> cases h2:b 13 <;> (simp only [simprocAttr,implies_true,amz,zf,tys,lkc,zV,Nat.reduceBEq,yb,stRr,evA,evC,yl,hlm,hi0,hj0,mi,mj,hb,h1,h2,d10,d4];refine zi.of' rfl ?_;simp only [wks,reduceIte,Nat.reduceEqDiff,ASt.okB,AV.okB,AO.zL,AV.zT,List.all_cons,List.all_nil,Nat.reduceLT,implies_true,List.nil_append,List.cons_append,cond_true,cond_false,and_self,zS,zU,Bool.cond_self,Bool.and_self,AV.zG,AV.zW,AV.zF,AV.zA,AV.zD,yl,evA,evC,yl,hlm,hi0,hj0,mi,mj])
  ·have d11:=zm hd (j := 11) (by decide) (by kernel_rfl);have d9:=zm hd (j := 9) (by decide) (by kernel_rfl)
   refine ⟨by trivial,by simp [zC,stRr],?_⟩
   cases h1:b 10 <;> cases h2:b 12 <;> (simp only [simprocAttr,implies_true,amz,zf,tys,lkc,zV,Nat.reduceBEq,yb,stRr,evA,evC,yl,hlm,hi0,hj0,mi,mj,hb,h1,h2,d11,d9];refine zi.of' rfl ?_;simp only [wks,reduceIte,Nat.reduceEqDiff,ASt.okB,AV.okB,AO.zL,AV.zT,List.all_cons,List.all_nil,Nat.reduceLT,implies_true,List.nil_append,List.cons_append,cond_true,cond_false,and_self,zS,zU,Bool.cond_self,Bool.and_self,AV.zG,AV.zW,AV.zF,AV.zA,AV.zD,yl,evA,evC,yl,hlm,hi0,hj0,mi,mj])
 apply hK';clear hK' K';simp only [stRr,List.length_cons,List.length_nil,Nat.reduceAdd,Nat.reduceLT,decide_true,cond_true,List.cons_append,List.nil_append];(try simp only [ze,z8,reduceIte,Nat.reduceEqDiff]);(try ((repeat ((fail_if_success apply hK);clear hK K));apply hK;clear hK K))
 all_goals repeat' (first|refine T.zk fun K hK=>?_|apply T.block|(refine T.reg (by kernel_rfl) fun K' hK'=>?_;simp only [bz];(repeat' (first|(with_reducible refine WL.fin ?_;apply hK';clear hK' K')|((with_reducible refine WL.step fun K2 hK2=>?_);simp only [simprocAttr,implies_true,amz,zf,tys,evC,yl];(repeat' (first|with_reducible (first|(apply hK2;clear hK2 K2)|apply And.intro|intro hb)|((with_reducible first|apply zl|apply zn);case h=>exact CallV.plain (Ent.of Tryz.func47 (by kernel_rfl) rfl) (hse) (by simp [AV.okB]))|((with_reducible first|apply zl|apply zn);case h=>exact CallV.plain (Ent.of Tryz.func47 (by kernel_rfl) rfl) (hsf) (by simp [AV.okB]))))))))|apply T.skip|apply T.exit|refine T.zh rfl ?_|refine T.zg rfl ?_|refine T.cond rfl (fun hc=>?_) (fun hc=>?_)|apply T.ret|simp only [ze,z8,reduceIte,Nat.reduceEqDiff]|((repeat ((fail_if_success apply hK);clear hK K));apply hK;clear hK K))
 all_goals (refine zP.ret (.inr rfl) Tryz.results27 ?_;simp only [zI,zu,zw,simprocAttr,implies_true,amz,zf,tys,repA,repC,z3A,yl])
theorem z8Z (l:List Ev) (ss:List P2) (ps:List Int) (hsz:ss.length≤1000000) (hv:validD ss ps=true) (r:P2) (c:Int) (e f:Ev) (h:Rac l r e f) (se:stB ss.length e=true) (sf:stB ss.length f=true):zt Tryz.prog 27 [trA l ss ps,p2A r,.int c] (repA (z3A ss ps (loE e f) (hiE e f) c)):=by
 obtain ⟨o1,o2,o3,o4⟩:=ordI_at h
 refine z8Y l ss ps hsz hv r c _ _ _ _ o1 o2 o3 o4 ?_ ?_ (z5h l ss ps r e f h)
 ·unfold loE;split
  ·exact sf
  ·exact se
 ·unfold hiE;split
  ·exact se
  ·exact sf
def foA (r:P2) (c:Int):AV := .agg [.int r.1,.int r.2,.int c]
theorem z8D {e f:Ev} (h:qU e f=true) : ¬ (e.fn=f.fn∧e.pc=f.pc∧e.kind=f.kind):=by
 rintro ⟨h1,h2,h3⟩
 simp [qU,h1,h2,h3] at h
def qH (l:List Ev) (ss:List P2) (ps:List Int) (r:P2) (c:Int) (u v e f:Ev) (b:Nat→Bool):ASt:=⟨[(10,bif b 0 then .ptr 0 0 else .zy),(11,bif b 1 then (.p (.seq 9 (l.map evC))) else .zy),(12,bif b 2 then .ptr 2 0 else .zy),(13,bif b 3 then .ptr 2 0 else .zy),(14,bif b 4 then .int r.1 else .zy),(15,bif b 5 then .elt (evC e) 0 else .zy),(16,bif b 6 then evA e else .zy),(17,bif b 7 then .ptr 0 0 else .zy),(18,bif b 8 then (.p (.seq 9 (l.map evC))) else .zy),(19,bif b 9 then .ptr 2 0 else .zy),(20,bif b 10 then .ptr 2 1 else .zy),(21,bif b 11 then .int r.2 else .zy),(22,bif b 12 then .elt (evC f) 0 else .zy),(23,bif b 13 then evA f else .zy),(7,bif b 14 then .ptr 4 0 else .zy),(8,bif b 15 then .ptr 5 0 else .zy),(3,.ptr 0 0),(4,.ptr 1 0),(5,.ptr 2 0),(6,.ptr 3 0)],(bif b 14 then [(4,AO.boxP none 33 (bif b 16 then ((evC e).map .p) else [.int 0,.int 0,.int 0,.int 0,.int 0,.int 0,.int 0,.int 0,.int 0]))] else [])++((bif b 15 then [(5,AO.boxP none 33 (bif b 17 then ((evC f).map .p) else [.int 0,.int 0,.int 0,.int 0,.int 0,.int 0,.int 0,.int 0,.int 0]))] else []) ++ [(3,AO.boxP none 41 [.int 0,.int 0,.int 0,.int 0,.p (.val (.slice none 0 0)),.p (.val (.slice none 0 0)),.int 0]),(2,AO.boxP none 73 [.int r.1,.int r.2,.int c]),(1,AO.boxP none 70 [.int u.fn,.int u.pc,.int u.kind,.int v.fn,.int v.pc,.int v.kind]),(0,AO.boxP none 31 [.p (.seq 9 (l.map evC)),.p (.seq 2 (rowP ss)),.p (.seq 1 (rowZ ps))])]),61,6⟩
theorem z7b (l:List Ev) (ss:List P2) (ps:List Int) (hw:DW ss ps) (hsz:ss.length≤1000000) (hv:validD ss ps=true) (r:P2) (c:Int) (u v e f:Ev) (h:Rac l r e f) (se:stB ss.length e=true) (sf:stB ss.length f=true) (x y:Ev)
  (hxy:(e.fn==u.fn&&(e.pc==u.pc&&(e.kind==u.kind&&true)))=true∧e=x∧f=y∨(e.fn==u.fn&&(e.pc==u.pc&&(e.kind==u.kind&&true)))=false∧f=x∧e=y) :
  zt Tryz.prog 21 [trA l ss ps,keyA (keyL u v),foA r c] (repA (z3A ss ps x y c)):=by
 have hlm:(l.map evC).length=l.length:=by simp
 have hi0:(0≤r.1)=True:=eq_true h.i0
 have hj0:(0≤r.2)=True:=eq_true (by have:=h.i0;have:=h.ij;omega)
 have mi:=z0W h.e
 have mj:=z0W h.f
 obtain ⟨e1,e2⟩:=z4N se
 obtain ⟨f1,f2⟩:=z4N sf
 have hse:=z8l ss ps hw hsz hv e.st e1 e2
 have hsf:=z8l ss ps hw hsz hv f.st f1 f2
 have hof:=of_ok e
 simp only [trA,dpA,keyA,keyL,foA,evA,evC,inA,yl,repA,repC,z3A] at hse hsf hof ⊢
 rcases hxy with ⟨ht,rfl,rfl⟩|⟨ht,rfl,rfl⟩
 ·refine zt.of Tryz.func21 rfl 61 rfl (by decide) (by simp [AV.okB]) ?_
  repeat' (first|refine T.zk fun K hK=>?_|apply T.block|(refine T.reg (by kernel_rfl) fun K' hK'=>?_;simp only [bz];(with_reducible repeat' (first|(apply WL.fin;apply hK';clear hK' K')|(refine WL.step fun K2 hK2=>?_;simp only [simprocAttr,implies_true,amz,zf,tys];repeat' (first|(apply hK2;clear hK2 K2)|apply And.intro|intro hb)))))|apply T.skip|apply T.exit|refine T.zh rfl ?_|refine T.zg rfl ?_|refine T.cond rfl (fun hc=>?_) (fun hc=>?_)|apply T.ret|simp only [ze,z8,reduceIte,Nat.reduceEqDiff]|((repeat ((fail_if_success apply hK);clear hK K));apply hK;clear hK K))
  refine T.inv (qH l ss ps r c u v e f) (by kernel_rfl) (by kernel_rfl) ?_ (fun b hcl=>?_) fun K' hK'=>?_
  ·simp only [qH,cond_false,List.nil_append];refine zi.of' rfl ?_;simp only [wks,reduceIte,Nat.reduceEqDiff,ASt.okB,AV.okB,AO.zL,AV.zT,List.all_cons,List.all_nil,Nat.reduceLT,implies_true,List.nil_append,List.cons_append,cond_true,cond_false,and_self,zS,zU,Bool.cond_self,Bool.and_self,AV.zG,AV.zW,AV.zF,AV.zA,AV.zD,yl,evA,evC,yl,hlm,hi0,hj0,mi,mj]
  ·simp only [allL,Nat.reduceAdd]
   refine ⟨fun hb hd=>?_,fun hb hd=>?_,fun hb hd=>?_,fun hb hd=>?_,fun hb hd=>?_,fun hb hd=>?_,fun hb hd=>?_,fun hb hd=>?_,fun hb hd=>?_,fun hb hd=>?_,fun hb hd=>?_,fun hb hd=>?_,fun hb hd=>?_,fun hb hd=>?_,fun hb hd=>?_,fun hb hd=>?_,fun hb hd=>?_,fun hb hd=>?_,trivial⟩
   ·refine ⟨by trivial,by simp [zC,qH],?_⟩
    simp only [simprocAttr,implies_true,amz,zf,tys,lkc,zV,Nat.reduceBEq,yb,qH,evA,evC,yl,hlm,hi0,hj0,mi,mj]
    all_goals (refine zi.slots ?_;simp only [wks,reduceIte,Nat.reduceEqDiff,implies_true,cond_true,and_self])
   ·have d0:=zm hd (j := 0) (by decide) (by kernel_rfl);refine ⟨by trivial,by simp [zC,qH],?_⟩
    simp only [simprocAttr,implies_true,amz,zf,tys,lkc,zV,Nat.reduceBEq,yb,qH,evA,evC,yl,hlm,hi0,hj0,mi,mj,d0]
    all_goals (refine zi.slots ?_;simp only [wks,reduceIte,Nat.reduceEqDiff,implies_true,cond_true,and_self,d0])
   ·refine ⟨by trivial,by simp [zC,qH],?_⟩
    simp only [simprocAttr,implies_true,amz,zf,tys,lkc,zV,Nat.reduceBEq,yb,qH,evA,evC,yl,hlm,hi0,hj0,mi,mj]
    all_goals (refine zi.slots ?_;simp only [wks,reduceIte,Nat.reduceEqDiff,implies_true,cond_true,and_self])
   ·have d2:=zm hd (j := 2) (by decide) (by kernel_rfl);refine ⟨by trivial,by simp [zC,qH],?_⟩
    simp only [simprocAttr,implies_true,amz,zf,tys,lkc,zV,Nat.reduceBEq,yb,qH,evA,evC,yl,hlm,hi0,hj0,mi,mj,d2]
    all_goals (refine zi.slots ?_;simp only [wks,reduceIte,Nat.reduceEqDiff,implies_true,cond_true,and_self,d2])
   ·have d3:=zm hd (j := 3) (by decide) (by kernel_rfl);refine ⟨by trivial,by simp [zC,qH],?_⟩
    simp only [simprocAttr,implies_true,amz,zf,tys,lkc,zV,Nat.reduceBEq,yb,qH,evA,evC,yl,hlm,hi0,hj0,mi,mj,d3]
    all_goals (refine zi.slots ?_;simp only [wks,reduceIte,Nat.reduceEqDiff,implies_true,cond_true,and_self,d3])
   ·have d1:=zm hd (j := 1) (by decide) (by kernel_rfl);have d4:=zm hd (j := 4) (by decide) (by kernel_rfl);refine ⟨by trivial,by simp [zC,qH],?_⟩
    simp only [simprocAttr,implies_true,amz,zf,tys,lkc,zV,Nat.reduceBEq,yb,qH,evA,evC,yl,hlm,hi0,hj0,mi,mj,d1,d4]
    all_goals (refine zi.slots ?_;simp only [wks,reduceIte,Nat.reduceEqDiff,implies_true,cond_true,and_self,d1,d4])
   ·have d5:=zm hd (j := 5) (by decide) (by kernel_rfl);refine ⟨by trivial,by simp [zC,qH],?_⟩
    simp only [simprocAttr,implies_true,amz,zf,tys,lkc,zV,Nat.reduceBEq,yb,qH,evA,evC,yl,hlm,hi0,hj0,mi,mj,d5]
    all_goals (refine zi.slots ?_;simp only [wks,reduceIte,Nat.reduceEqDiff,implies_true,cond_true,and_self,d5])
   ·refine ⟨by trivial,by simp [zC,qH],?_⟩
    simp only [simprocAttr,implies_true,amz,zf,tys,lkc,zV,Nat.reduceBEq,yb,qH,evA,evC,yl,hlm,hi0,hj0,mi,mj]
    all_goals (refine zi.slots ?_;simp only [wks,reduceIte,Nat.reduceEqDiff,implies_true,cond_true,and_self])
   ·have d7:=zm hd (j := 7) (by decide) (by kernel_rfl);refine ⟨by trivial,by simp [zC,qH],?_⟩
    simp only [simprocAttr,implies_true,amz,zf,tys,lkc,zV,Nat.reduceBEq,yb,qH,evA,evC,yl,hlm,hi0,hj0,mi,mj,d7]
    all_goals (refine zi.slots ?_;simp only [wks,reduceIte,Nat.reduceEqDiff,implies_true,cond_true,and_self,d7])
   ·refine ⟨by trivial,by simp [zC,qH],?_⟩
    simp only [simprocAttr,implies_true,amz,zf,tys,lkc,zV,Nat.reduceBEq,yb,qH,evA,evC,yl,hlm,hi0,hj0,mi,mj]
    all_goals (refine zi.slots ?_;simp only [wks,reduceIte,Nat.reduceEqDiff,implies_true,cond_true,and_self])
   ·have d9:=zm hd (j := 9) (by decide) (by kernel_rfl);refine ⟨by trivial,by simp [zC,qH],?_⟩
    simp only [simprocAttr,implies_true,amz,zf,tys,lkc,zV,Nat.reduceBEq,yb,qH,evA,evC,yl,hlm,hi0,hj0,mi,mj,d9]
    all_goals (refine zi.slots ?_;simp only [wks,reduceIte,Nat.reduceEqDiff,implies_true,cond_true,and_self,d9])
   ·have d10:=zm hd (j := 10) (by decide) (by kernel_rfl);refine ⟨by trivial,by simp [zC,qH],?_⟩
    simp only [simprocAttr,implies_true,amz,zf,tys,lkc,zV,Nat.reduceBEq,yb,qH,evA,evC,yl,hlm,hi0,hj0,mi,mj,d10]
    all_goals (refine zi.slots ?_;simp only [wks,reduceIte,Nat.reduceEqDiff,implies_true,cond_true,and_self,d10])
   ·have d8:=zm hd (j := 8) (by decide) (by kernel_rfl);have d11:=zm hd (j := 11) (by decide) (by kernel_rfl);refine ⟨by trivial,by simp [zC,qH],?_⟩
    simp only [simprocAttr,implies_true,amz,zf,tys,lkc,zV,Nat.reduceBEq,yb,qH,evA,evC,yl,hlm,hi0,hj0,mi,mj,d8,d11]
    all_goals (refine zi.slots ?_;simp only [wks,reduceIte,Nat.reduceEqDiff,implies_true,cond_true,and_self,d8,d11])
   ·have d12:=zm hd (j := 12) (by decide) (by kernel_rfl);refine ⟨by trivial,by simp [zC,qH],?_⟩
    simp only [simprocAttr,implies_true,amz,zf,tys,lkc,zV,Nat.reduceBEq,yb,qH,evA,evC,yl,hlm,hi0,hj0,mi,mj,d12]
    all_goals (refine zi.slots ?_;simp only [wks,reduceIte,Nat.reduceEqDiff,implies_true,cond_true,and_self,d12])
   ·have h3:b 16=false:=by
     cases h:b 16 with
     | false=>rfl
     | true =>
      have h4:=zm (hcl 16 (by decide) h) (j := 14) (by decide) (by kernel_rfl)
      rw [hb] at h4;cases h4
    refine ⟨by trivial,by simp [zC,qH],?_⟩
    cases h1:b 15 <;> cases h2:b 17 <;> (simp only [simprocAttr,implies_true,amz,zf,tys,lkc,zV,Nat.reduceBEq,yb,qH,evA,evC,yl,hlm,hi0,hj0,mi,mj,hb,h1,h2,h3];refine (zi.ren _ 6 4).trans ?_;simp only [ASt.ren,AV.zZ,AV.zG,AV.qd,AV.qw,AV.zW,AV.zF,AV.zA,AV.qc,AV.qO,AV.zD,AV.qx,AO.qD,AO.qG,AO.qE,AO.qF,yl,List.filter_cons,List.filter_nil,zq,qp,reduceIte,Nat.reduceEqDiff,Nat.reduceLT,Nat.reduceBneDiff,bne_self_eq_false,Bool.and_true,Bool.and_false,Bool.true_and,Bool.false_and,Bool.and_self,Bool.false_eq_true,ne_eq,not_false_eq_true,not_true_eq_false,and_self,and_true,true_and,and_false];refine zi.of' rfl ?_;simp only [wks,reduceIte,Nat.reduceEqDiff,ASt.okB,AV.okB,AO.zL,AV.zT,List.all_cons,List.all_nil,Nat.reduceLT,implies_true,List.nil_append,List.cons_append,cond_true,cond_false,and_self,zS,zU,Bool.cond_self,Bool.and_self,AV.zG,AV.zW,AV.zF,AV.zA,AV.zD,yl,evA,evC,yl,hlm,hi0,hj0,mi,mj])
   ·have h3:b 17=false:=by
     cases h:b 17 with
     | false=>rfl
     | true =>
      have h4:=zm (hcl 17 (by decide) h) (j := 15) (by decide) (by kernel_rfl)
      rw [hb] at h4;cases h4
    refine ⟨by trivial,by simp [zC,qH],?_⟩
    cases h1:b 14 <;> cases h2:b 16 <;> (simp only [simprocAttr,implies_true,amz,zf,tys,lkc,zV,Nat.reduceBEq,yb,qH,evA,evC,yl,hlm,hi0,hj0,mi,mj,hb,h1,h2,h3];refine (zi.ren _ 6 5).trans ?_;simp only [ASt.ren,AV.zZ,AV.zG,AV.qd,AV.qw,AV.zW,AV.zF,AV.zA,AV.qc,AV.qO,AV.zD,AV.qx,AO.qD,AO.qG,AO.qE,AO.qF,yl,List.filter_cons,List.filter_nil,zq,qp,reduceIte,Nat.reduceEqDiff,Nat.reduceLT,Nat.reduceBneDiff,bne_self_eq_false,Bool.and_true,Bool.and_false,Bool.true_and,Bool.false_and,Bool.and_self,Bool.false_eq_true,ne_eq,not_false_eq_true,not_true_eq_false,and_self,and_true,true_and,and_false];refine zi.of' rfl ?_;simp only [wks,reduceIte,Nat.reduceEqDiff,ASt.okB,AV.okB,AO.zL,AV.zT,List.all_cons,List.all_nil,Nat.reduceLT,implies_true,List.nil_append,List.cons_append,cond_true,cond_false,and_self,zS,zU,Bool.cond_self,Bool.and_self,AV.zG,AV.zW,AV.zF,AV.zA,AV.zD,yl,evA,evC,yl,hlm,hi0,hj0,mi,mj])
   ·have d14:=zm hd (j := 14) (by decide) (by kernel_rfl);have d6:=zm hd (j := 6) (by decide) (by kernel_rfl)
    refine ⟨by trivial,by simp [zC,qH],?_⟩
    cases h1:b 15 <;> cases h2:b 17 <;> (simp only [simprocAttr,implies_true,amz,zf,tys,lkc,zV,Nat.reduceBEq,yb,qH,evA,evC,yl,hlm,hi0,hj0,mi,mj,hb,h1,h2,d14,d6];refine zi.of' rfl ?_;simp only [wks,reduceIte,Nat.reduceEqDiff,ASt.okB,AV.okB,AO.zL,AV.zT,List.all_cons,List.all_nil,Nat.reduceLT,implies_true,List.nil_append,List.cons_append,cond_true,cond_false,and_self,zS,zU,Bool.cond_self,Bool.and_self,AV.zG,AV.zW,AV.zF,AV.zA,AV.zD,yl,evA,evC,yl,hlm,hi0,hj0,mi,mj])
   ·have d15:=zm hd (j := 15) (by decide) (by kernel_rfl);have d13:=zm hd (j := 13) (by decide) (by kernel_rfl)
    refine ⟨by trivial,by simp [zC,qH],?_⟩
    cases h1:b 14 <;> cases h2:b 16 <;> (simp only [simprocAttr,implies_true,amz,zf,tys,lkc,zV,Nat.reduceBEq,yb,qH,evA,evC,yl,hlm,hi0,hj0,mi,mj,hb,h1,h2,d15,d13];refine zi.of' rfl ?_;simp only [wks,reduceIte,Nat.reduceEqDiff,ASt.okB,AV.okB,AO.zL,AV.zT,List.all_cons,List.all_nil,Nat.reduceLT,implies_true,List.nil_append,List.cons_append,cond_true,cond_false,and_self,zS,zU,Bool.cond_self,Bool.and_self,AV.zG,AV.zW,AV.zF,AV.zA,AV.zD,yl,evA,evC,yl,hlm,hi0,hj0,mi,mj])
  apply hK';clear hK' K';simp only [qH,List.length_cons,List.length_nil,Nat.reduceAdd,Nat.reduceLT,decide_true,cond_true,List.cons_append,List.nil_append];(try simp only [ze,z8,reduceIte,Nat.reduceEqDiff]);(try ((repeat ((fail_if_success apply hK);clear hK K));apply hK;clear hK K))
  all_goals repeat' (first|refine T.zk fun K hK=>?_|apply T.block|(refine T.reg (by kernel_rfl) fun K' hK'=>?_;simp only [bz];(with_reducible repeat' (first|(apply WL.fin;apply hK';clear hK' K')|(refine WL.step fun K2 hK2=>?_;simp only [simprocAttr,implies_true,amz,zf,tys,evC,yl];repeat' (first|(apply hK2;clear hK2 K2)|apply And.intro|intro hb)))))|apply T.skip|apply T.exit|refine T.zh rfl ?_|refine T.zg rfl ?_|refine T.cond rfl (fun hc=>?_) (fun hc=>?_)|apply T.ret|simp only [ze,z8,reduceIte,Nat.reduceEqDiff]|((repeat ((fail_if_success apply hK);clear hK K));apply hK;clear hK K))
  refine T.drw 4 (by kernel_rfl) (by kernel_rfl) fun K' hK'=>?_;simp only [yl];(repeat' (first|(with_reducible refine WL.fin ?_;apply hK';clear hK' K')|(with_reducible refine WD.fin ?_)|((with_reducible first|refine WL.step fun K2 hK2=>?_|refine WD.step fun K2 hK2=>?_);simp only [simprocAttr,implies_true,amz,zf,tys,evC,yl,List.length_cons,List.length_nil,List.take_succ_cons,List.take_zero,scEq,aeqF,ht,Bool.not_true];(repeat' (first|with_reducible (first|(apply hK2;clear hK2 K2)|apply And.intro|intro hb)|((with_reducible first|apply zl|apply zn);case h=>exact CallV.plain (Ent.of Tryz.func15 (by kernel_rfl) rfl) (hof) (by simp [AV.okB])))))));all_goals ((try simp only [ze,z8,reduceIte,Nat.reduceEqDiff]);(try ((repeat ((fail_if_success apply hK);clear hK K));apply hK;clear hK K)))
  all_goals repeat' (first|refine T.zk fun K hK=>?_|apply T.block|(refine T.reg (by kernel_rfl) fun K' hK'=>?_;simp only [bz];(repeat' (first|(with_reducible refine WL.fin ?_;apply hK';clear hK' K')|((with_reducible refine WL.step fun K2 hK2=>?_);simp only [simprocAttr,implies_true,amz,zf,tys,evC,yl];(repeat' (first|with_reducible (first|(apply hK2;clear hK2 K2)|apply And.intro|intro hb)|((with_reducible first|apply zl|apply zn);case h=>exact CallV.plain (Ent.of Tryz.func45 (by kernel_rfl) rfl) (hse) (by simp [AV.okB]))|((with_reducible first|apply zl|apply zn);case h=>exact CallV.plain (Ent.of Tryz.func45 (by kernel_rfl) rfl) (hsf) (by simp [AV.okB]))))))))|apply T.skip|apply T.exit|refine T.zh rfl ?_|refine T.zg rfl ?_|refine T.cond rfl (fun hc=>?_) (fun hc=>?_)|apply T.ret|simp only [ze,z8,reduceIte,Nat.reduceEqDiff]|((repeat ((fail_if_success apply hK);clear hK K));apply hK;clear hK K))
  all_goals (refine zP.ret (.inr rfl) Tryz.results21 ?_;simp only [zI,zu,zw,simprocAttr,implies_true,amz,zf,tys,repA,repC,z3A,yl])
 ·refine zt.of Tryz.func21 rfl 61 rfl (by decide) (by simp [AV.okB]) ?_
  repeat' (first|refine T.zk fun K hK=>?_|apply T.block|(refine T.reg (by kernel_rfl) fun K' hK'=>?_;simp only [bz];(with_reducible repeat' (first|(apply WL.fin;apply hK';clear hK' K')|(refine WL.step fun K2 hK2=>?_;simp only [simprocAttr,implies_true,amz,zf,tys];repeat' (first|(apply hK2;clear hK2 K2)|apply And.intro|intro hb)))))|apply T.skip|apply T.exit|refine T.zh rfl ?_|refine T.zg rfl ?_|refine T.cond rfl (fun hc=>?_) (fun hc=>?_)|apply T.ret|simp only [ze,z8,reduceIte,Nat.reduceEqDiff]|((repeat ((fail_if_success apply hK);clear hK K));apply hK;clear hK K))
  refine T.inv (qH l ss ps r c u v e f) (by kernel_rfl) (by kernel_rfl) ?_ (fun b hcl=>?_) fun K' hK'=>?_
  ·simp only [qH,cond_false,List.nil_append];refine zi.of' rfl ?_;simp only [wks,reduceIte,Nat.reduceEqDiff,ASt.okB,AV.okB,AO.zL,AV.zT,List.all_cons,List.all_nil,Nat.reduceLT,implies_true,List.nil_append,List.cons_append,cond_true,cond_false,and_self,zS,zU,Bool.cond_self,Bool.and_self,AV.zG,AV.zW,AV.zF,AV.zA,AV.zD,yl,evA,evC,yl,hlm,hi0,hj0,mi,mj]
  ·simp only [allL,Nat.reduceAdd]
   refine ⟨fun hb hd=>?_,fun hb hd=>?_,fun hb hd=>?_,fun hb hd=>?_,fun hb hd=>?_,fun hb hd=>?_,fun hb hd=>?_,fun hb hd=>?_,fun hb hd=>?_,fun hb hd=>?_,fun hb hd=>?_,fun hb hd=>?_,fun hb hd=>?_,fun hb hd=>?_,fun hb hd=>?_,fun hb hd=>?_,fun hb hd=>?_,fun hb hd=>?_,trivial⟩
   ·refine ⟨by trivial,by simp [zC,qH],?_⟩
    simp only [simprocAttr,implies_true,amz,zf,tys,lkc,zV,Nat.reduceBEq,yb,qH,evA,evC,yl,hlm,hi0,hj0,mi,mj]
    all_goals (refine zi.slots ?_;simp only [wks,reduceIte,Nat.reduceEqDiff,implies_true,cond_true,and_self])
   ·have d0:=zm hd (j := 0) (by decide) (by kernel_rfl);refine ⟨by trivial,by simp [zC,qH],?_⟩
    simp only [simprocAttr,implies_true,amz,zf,tys,lkc,zV,Nat.reduceBEq,yb,qH,evA,evC,yl,hlm,hi0,hj0,mi,mj,d0]
    all_goals (refine zi.slots ?_;simp only [wks,reduceIte,Nat.reduceEqDiff,implies_true,cond_true,and_self,d0])
   ·refine ⟨by trivial,by simp [zC,qH],?_⟩
    simp only [simprocAttr,implies_true,amz,zf,tys,lkc,zV,Nat.reduceBEq,yb,qH,evA,evC,yl,hlm,hi0,hj0,mi,mj]
    all_goals (refine zi.slots ?_;simp only [wks,reduceIte,Nat.reduceEqDiff,implies_true,cond_true,and_self])
   ·have d2:=zm hd (j := 2) (by decide) (by kernel_rfl);refine ⟨by trivial,by simp [zC,qH],?_⟩
    simp only [simprocAttr,implies_true,amz,zf,tys,lkc,zV,Nat.reduceBEq,yb,qH,evA,evC,yl,hlm,hi0,hj0,mi,mj,d2]
    all_goals (refine zi.slots ?_;simp only [wks,reduceIte,Nat.reduceEqDiff,implies_true,cond_true,and_self,d2])
   ·have d3:=zm hd (j := 3) (by decide) (by kernel_rfl);refine ⟨by trivial,by simp [zC,qH],?_⟩
    simp only [simprocAttr,implies_true,amz,zf,tys,lkc,zV,Nat.reduceBEq,yb,qH,evA,evC,yl,hlm,hi0,hj0,mi,mj,d3]
    all_goals (refine zi.slots ?_;simp only [wks,reduceIte,Nat.reduceEqDiff,implies_true,cond_true,and_self,d3])
   ·have d1:=zm hd (j := 1) (by decide) (by kernel_rfl);have d4:=zm hd (j := 4) (by decide) (by kernel_rfl);refine ⟨by trivial,by simp [zC,qH],?_⟩
    simp only [simprocAttr,implies_true,amz,zf,tys,lkc,zV,Nat.reduceBEq,yb,qH,evA,evC,yl,hlm,hi0,hj0,mi,mj,d1,d4]
    all_goals (refine zi.slots ?_;simp only [wks,reduceIte,Nat.reduceEqDiff,implies_true,cond_true,and_self,d1,d4])
   ·have d5:=zm hd (j := 5) (by decide) (by kernel_rfl);refine ⟨by trivial,by simp [zC,qH],?_⟩
    simp only [simprocAttr,implies_true,amz,zf,tys,lkc,zV,Nat.reduceBEq,yb,qH,evA,evC,yl,hlm,hi0,hj0,mi,mj,d5]
    all_goals (refine zi.slots ?_;simp only [wks,reduceIte,Nat.reduceEqDiff,implies_true,cond_true,and_self,d5])
   ·refine ⟨by trivial,by simp [zC,qH],?_⟩
    simp only [simprocAttr,implies_true,amz,zf,tys,lkc,zV,Nat.reduceBEq,yb,qH,evA,evC,yl,hlm,hi0,hj0,mi,mj]
    all_goals (refine zi.slots ?_;simp only [wks,reduceIte,Nat.reduceEqDiff,implies_true,cond_true,and_self])
   ·have d7:=zm hd (j := 7) (by decide) (by kernel_rfl);refine ⟨by trivial,by simp [zC,qH],?_⟩
    simp only [simprocAttr,implies_true,amz,zf,tys,lkc,zV,Nat.reduceBEq,yb,qH,evA,evC,yl,hlm,hi0,hj0,mi,mj,d7]
    all_goals (refine zi.slots ?_;simp only [wks,reduceIte,Nat.reduceEqDiff,implies_true,cond_true,and_self,d7])
   ·refine ⟨by trivial,by simp [zC,qH],?_⟩
    simp only [simprocAttr,implies_true,amz,zf,tys,lkc,zV,Nat.reduceBEq,yb,qH,evA,evC,yl,hlm,hi0,hj0,mi,mj]
    all_goals (refine zi.slots ?_;simp only [wks,reduceIte,Nat.reduceEqDiff,implies_true,cond_true,and_self])
   ·have d9:=zm hd (j := 9) (by decide) (by kernel_rfl);refine ⟨by trivial,by simp [zC,qH],?_⟩
    simp only [simprocAttr,implies_true,amz,zf,tys,lkc,zV,Nat.reduceBEq,yb,qH,evA,evC,yl,hlm,hi0,hj0,mi,mj,d9]
    all_goals (refine zi.slots ?_;simp only [wks,reduceIte,Nat.reduceEqDiff,implies_true,cond_true,and_self,d9])
   ·have d10:=zm hd (j := 10) (by decide) (by kernel_rfl);refine ⟨by trivial,by simp [zC,qH],?_⟩
    simp only [simprocAttr,implies_true,amz,zf,tys,lkc,zV,Nat.reduceBEq,yb,qH,evA,evC,yl,hlm,hi0,hj0,mi,mj,d10]
    all_goals (refine zi.slots ?_;simp only [wks,reduceIte,Nat.reduceEqDiff,implies_true,cond_true,and_self,d10])
   ·have d8:=zm hd (j := 8) (by decide) (by kernel_rfl);have d11:=zm hd (j := 11) (by decide) (by kernel_rfl);refine ⟨by trivial,by simp [zC,qH],?_⟩
    simp only [simprocAttr,implies_true,amz,zf,tys,lkc,zV,Nat.reduceBEq,yb,qH,evA,evC,yl,hlm,hi0,hj0,mi,mj,d8,d11]
    all_goals (refine zi.slots ?_;simp only [wks,reduceIte,Nat.reduceEqDiff,implies_true,cond_true,and_self,d8,d11])
   ·have d12:=zm hd (j := 12) (by decide) (by kernel_rfl);refine ⟨by trivial,by simp [zC,qH],?_⟩
    simp only [simprocAttr,implies_true,amz,zf,tys,lkc,zV,Nat.reduceBEq,yb,qH,evA,evC,yl,hlm,hi0,hj0,mi,mj,d12]
    all_goals (refine zi.slots ?_;simp only [wks,reduceIte,Nat.reduceEqDiff,implies_true,cond_true,and_self,d12])
   ·have h3:b 16=false:=by
     cases h:b 16 with
     | false=>rfl
     | true =>
      have h4:=zm (hcl 16 (by decide) h) (j := 14) (by decide) (by kernel_rfl)
      rw [hb] at h4;cases h4
    refine ⟨by trivial,by simp [zC,qH],?_⟩
    cases h1:b 15 <;> cases h2:b 17 <;> (simp only [simprocAttr,implies_true,amz,zf,tys,lkc,zV,Nat.reduceBEq,yb,qH,evA,evC,yl,hlm,hi0,hj0,mi,mj,hb,h1,h2,h3];refine (zi.ren _ 6 4).trans ?_;simp only [ASt.ren,AV.zZ,AV.zG,AV.qd,AV.qw,AV.zW,AV.zF,AV.zA,AV.qc,AV.qO,AV.zD,AV.qx,AO.qD,AO.qG,AO.qE,AO.qF,yl,List.filter_cons,List.filter_nil,zq,qp,reduceIte,Nat.reduceEqDiff,Nat.reduceLT,Nat.reduceBneDiff,bne_self_eq_false,Bool.and_true,Bool.and_false,Bool.true_and,Bool.false_and,Bool.and_self,Bool.false_eq_true,ne_eq,not_false_eq_true,not_true_eq_false,and_self,and_true,true_and,and_false];refine zi.of' rfl ?_;simp only [wks,reduceIte,Nat.reduceEqDiff,ASt.okB,AV.okB,AO.zL,AV.zT,List.all_cons,List.all_nil,Nat.reduceLT,implies_true,List.nil_append,List.cons_append,cond_true,cond_false,and_self,zS,zU,Bool.cond_self,Bool.and_self,AV.zG,AV.zW,AV.zF,AV.zA,AV.zD,yl,evA,evC,yl,hlm,hi0,hj0,mi,mj])
   ·have h3:b 17=false:=by
     cases h:b 17 with
     | false=>rfl
     | true =>
      have h4:=zm (hcl 17 (by decide) h) (j := 15) (by decide) (by kernel_rfl)
      rw [hb] at h4;cases h4
    refine ⟨by trivial,by simp [zC,qH],?_⟩
    cases h1:b 14 <;> cases h2:b 16 <;> (simp only [simprocAttr,implies_true,amz,zf,tys,lkc,zV,Nat.reduceBEq,yb,qH,evA,evC,yl,hlm,hi0,hj0,mi,mj,hb,h1,h2,h3];refine (zi.ren _ 6 5).trans ?_;simp only [ASt.ren,AV.zZ,AV.zG,AV.qd,AV.qw,AV.zW,AV.zF,AV.zA,AV.qc,AV.qO,AV.zD,AV.qx,AO.qD,AO.qG,AO.qE,AO.qF,yl,List.filter_cons,List.filter_nil,zq,qp,reduceIte,Nat.reduceEqDiff,Nat.reduceLT,Nat.reduceBneDiff,bne_self_eq_false,Bool.and_true,Bool.and_false,Bool.true_and,Bool.false_and,Bool.and_self,Bool.false_eq_true,ne_eq,not_false_eq_true,not_true_eq_false,and_self,and_true,true_and,and_false];refine zi.of' rfl ?_;simp only [wks,reduceIte,Nat.reduceEqDiff,ASt.okB,AV.okB,AO.zL,AV.zT,List.all_cons,List.all_nil,Nat.reduceLT,implies_true,List.nil_append,List.cons_append,cond_true,cond_false,and_self,zS,zU,Bool.cond_self,Bool.and_self,AV.zG,AV.zW,AV.zF,AV.zA,AV.zD,yl,evA,evC,yl,hlm,hi0,hj0,mi,mj])
   ·have d14:=zm hd (j := 14) (by decide) (by kernel_rfl);have d6:=zm hd (j := 6) (by decide) (by kernel_rfl)
    refine ⟨by trivial,by simp [zC,qH],?_⟩
    cases h1:b 15 <;> cases h2:b 17 <;> (simp only [simprocAttr,implies_true,amz,zf,tys,lkc,zV,Nat.reduceBEq,yb,qH,evA,evC,yl,hlm,hi0,hj0,mi,mj,hb,h1,h2,d14,d6];refine zi.of' rfl ?_;simp only [wks,reduceIte,Nat.reduceEqDiff,ASt.okB,AV.okB,AO.zL,AV.zT,List.all_cons,List.all_nil,Nat.reduceLT,implies_true,List.nil_append,List.cons_append,cond_true,cond_false,and_self,zS,zU,Bool.cond_self,Bool.and_self,AV.zG,AV.zW,AV.zF,AV.zA,AV.zD,yl,evA,evC,yl,hlm,hi0,hj0,mi,mj])
   ·have d15:=zm hd (j := 15) (by decide) (by kernel_rfl);have d13:=zm hd (j := 13) (by decide) (by kernel_rfl)
    refine ⟨by trivial,by simp [zC,qH],?_⟩
    cases h1:b 14 <;> cases h2:b 16 <;> (simp only [simprocAttr,implies_true,amz,zf,tys,lkc,zV,Nat.reduceBEq,yb,qH,evA,evC,yl,hlm,hi0,hj0,mi,mj,hb,h1,h2,d15,d13];refine zi.of' rfl ?_;simp only [wks,reduceIte,Nat.reduceEqDiff,ASt.okB,AV.okB,AO.zL,AV.zT,List.all_cons,List.all_nil,Nat.reduceLT,implies_true,List.nil_append,List.cons_append,cond_true,cond_false,and_self,zS,zU,Bool.cond_self,Bool.and_self,AV.zG,AV.zW,AV.zF,AV.zA,AV.zD,yl,evA,evC,yl,hlm,hi0,hj0,mi,mj])
  apply hK';clear hK' K';simp only [qH,List.length_cons,List.length_nil,Nat.reduceAdd,Nat.reduceLT,decide_true,cond_true,List.cons_append,List.nil_append];(try simp only [ze,z8,reduceIte,Nat.reduceEqDiff]);(try ((repeat ((fail_if_success apply hK);clear hK K));apply hK;clear hK K))
  all_goals repeat' (first|refine T.zk fun K hK=>?_|apply T.block|(refine T.reg (by kernel_rfl) fun K' hK'=>?_;simp only [bz];(with_reducible repeat' (first|(apply WL.fin;apply hK';clear hK' K')|(refine WL.step fun K2 hK2=>?_;simp only [simprocAttr,implies_true,amz,zf,tys,evC,yl];repeat' (first|(apply hK2;clear hK2 K2)|apply And.intro|intro hb)))))|apply T.skip|apply T.exit|refine T.zh rfl ?_|refine T.zg rfl ?_|refine T.cond rfl (fun hc=>?_) (fun hc=>?_)|apply T.ret|simp only [ze,z8,reduceIte,Nat.reduceEqDiff]|((repeat ((fail_if_success apply hK);clear hK K));apply hK;clear hK K))
  refine T.drw 4 (by kernel_rfl) (by kernel_rfl) fun K' hK'=>?_;simp only [yl];(repeat' (first|(with_reducible refine WL.fin ?_;apply hK';clear hK' K')|(with_reducible refine WD.fin ?_)|((with_reducible first|refine WL.step fun K2 hK2=>?_|refine WD.step fun K2 hK2=>?_);simp only [simprocAttr,implies_true,amz,zf,tys,evC,yl,List.length_cons,List.length_nil,List.take_succ_cons,List.take_zero,scEq,aeqF,ht,Bool.not_false];(repeat' (first|with_reducible (first|(apply hK2;clear hK2 K2)|apply And.intro|intro hb)|((with_reducible first|apply zl|apply zn);case h=>exact CallV.plain (Ent.of Tryz.func15 (by kernel_rfl) rfl) (hof) (by simp [AV.okB])))))));all_goals ((try simp only [ze,z8,reduceIte,Nat.reduceEqDiff]);(try ((repeat ((fail_if_success apply hK);clear hK K));apply hK;clear hK K)))
  all_goals repeat' (first|refine T.zk fun K hK=>?_|apply T.block|(refine T.reg (by kernel_rfl) fun K' hK'=>?_;simp only [bz];(repeat' (first|(with_reducible refine WL.fin ?_;apply hK';clear hK' K')|((with_reducible refine WL.step fun K2 hK2=>?_);simp only [simprocAttr,implies_true,amz,zf,tys,evC,yl];(repeat' (first|with_reducible (first|(apply hK2;clear hK2 K2)|apply And.intro|intro hb)|((with_reducible first|apply zl|apply zn);case h=>exact CallV.plain (Ent.of Tryz.func45 (by kernel_rfl) rfl) (hse) (by simp [AV.okB]))|((with_reducible first|apply zl|apply zn);case h=>exact CallV.plain (Ent.of Tryz.func45 (by kernel_rfl) rfl) (hsf) (by simp [AV.okB]))))))))|apply T.skip|apply T.exit|refine T.zh rfl ?_|refine T.zg rfl ?_|refine T.cond rfl (fun hc=>?_) (fun hc=>?_)|apply T.ret|simp only [ze,z8,reduceIte,Nat.reduceEqDiff]|((repeat ((fail_if_success apply hK);clear hK K));apply hK;clear hK K))
  all_goals (refine zP.ret (.inr rfl) Tryz.results21 ?_;simp only [zI,zu,zw,simprocAttr,implies_true,amz,zf,tys,repA,repC,z3A,yl])
theorem z7c (l:List Ev) (ss:List P2) (ps:List Int) (hw:DW ss ps) (hsz:ss.length≤1000000) (hv:validD ss ps=true) (r:P2) (c:Int) (e f:Ev) (h:Rac l r e f) (se:stB ss.length e=true) (sf:stB ss.length f=true) :
  zt Tryz.prog 21 [trA l ss ps,keyA (keyL (loE e f) (hiE e f)),foA r c] (repA (z3A ss ps (loE e f) (hiE e f) c)):=by
 refine z7b l ss ps hw hsz hv r c _ _ e f h se sf _ _ ?_
 cases hb:qU e f with
 | false=>exact .inl ⟨by simp [loE,hb],by simp [loE,hb],by simp [hiE,hb]⟩
 | true =>
  refine .inr ⟨?_,by simp [loE,hb],by simp [hiE,hb]⟩
  rw [Bool.eq_false_iff]
  intro hx
  simp only [loE,hb,if_true,Bool.and_true,Bool.and_eq_true,beq_iff_eq] at hx
  exact z8D hb hx
def ev0:Ev:=⟨0,0,0,0,0,0,0,0,0⟩
def evOf (l:List Ev) (i:Int):Ev:=(l[i.toNat]?).getD ev0
def keyR (l:List Ev) (r:P2):List Int:=keyL (loE (evOf l r.1) (evOf l r.2)) (hiE (evOf l r.1) (evOf l r.2))
def repR (l:List Ev) (ss:List P2) (ps:List Int) (r:P2) (c:Int):Rep:=z3A ss ps (loE (evOf l r.1) (evOf l r.2)) (hiE (evOf l r.1) (evOf l r.2)) c
theorem z5B (l:List Ev) (r:P2):(keyR l r).length=6:=rfl
theorem Rac.at {l:List Ev} {r:P2} {e f:Ev} (h:Rac l r e f):evOf l r.1=e∧evOf l r.2=f:=by simp [evOf,h.e,h.f]
def rep0:Rep:=⟨0,0,0,0,[],[],0⟩
def repK (l:List Ev) (ss:List P2) (ps:List Int) (rs:List P2) (k:List Int):Rep:=match fndF (keyR l) k rs with
 | some (r,c)=>repR l ss ps r c
 | none=>rep0
def outR (l:List Ev) (ss:List P2) (ps:List Int) (rs:List P2):List Rep:=(z0Y (rs.map (keyR l))).map (repK l ss ps rs)
def okM (l:List Ev) (ss:List P2) (ps:List Int) (rs:List P2):Bool:=validD ss ps&&rs.all (accB l ss.length)
def outM (l:List Ev) (ss:List P2) (ps:List Int) (rs:List P2):List Rep:=if okM l ss ps rs=true then outR l ss ps rs else []
def errM (l:List Ev) (ss:List P2) (ps:List Int) (rs:List P2):Int:=if okM l ss ps rs=true then 0 else 1
def merA (l:List Ev) (ss:List P2) (ps:List Int) (rs:List P2):AV := .tup [.p (.seq 7 ((outM l ss ps rs).map repC)),.int (errM l ss ps rs)]
def raA (rs:List P2):AV := .p (.seq 2 (rowP rs))
theorem z5z (k:List Int) : ∀ (d:Bool) (r:List (List Int)),(insK k d r).length≤r.length+1
 | d,[]=>by unfold insK;split <;> simp
 | d,x :: r=>by
  unfold insK
  split
  ·simp only [List.length_cons];rw [z1q];omega
  ·have:=z5z k (d||x==k) r;simp only [List.length_cons];omega
theorem z4A : ∀ ks:List (List Int),(z0Y ks).length≤ks.length:=fun ks=>by
 refine z8k (P:=fun ks=>(z0Y ks).length≤ks.length) (by simp [z0Y]) (fun ks k h=>?_) ks
 rw [z6o]
 have:=z5z k false (z0Y ks)
 simp only [List.length_append,List.length_cons,List.length_nil]
 omega
def cO (o:Option (P2 × Int)):Int:=match o with|none => 0|some p=>p.2
def fO (o:Option (P2 × Int)):P2:=match o with|none=>(0,0)|some p=>p.1
theorem z6l {key:P2→List Int} {k:List Int} {rs:List P2} {i:Nat} {r:P2} (h:rs[i]? = some r):fndF key k (rs.take (i+1))=if key r=k then some (upF (fndF key k (rs.take i)) r) else fndF key k (rs.take i):=by
 rw [List.take_add_one,h]
 simp [fndF]
theorem z1a {key:P2→List Int} {k:List Int} {rs:List P2} {f:P2} {c:Int} (h:fndF key k rs=some (f,c)) : 0<c∧c≤rs.length∧f ∈ rs∧key f=k:=by
 obtain ⟨h1,h2,_,h4⟩:=(fnd_ok key k rs).some f c h
 have : 0<cntF key k rs:=List.length_pos_iff.2 (List.ne_nil_of_mem (List.mem_filter.2 ⟨h1,by simpa using h2⟩))
 have h3:cntF key k rs≤rs.length:=List.length_filter_le _ _
 exact ⟨by omega,by omega,h1,h2⟩
theorem cO_le {key:P2→List Int} {k:List Int} {rs:List P2} : 0≤cO (fndF key k rs)∧cO (fndF key k rs)≤rs.length:=by
 cases h:fndF key k rs with
 | none=>simp [cO]
 | some p=>obtain ⟨h1,h2,_⟩:=z1a (f:=p.1) (c:=p.2) h;simp only [cO];omega
theorem z4q {key:P2→List Int} {k:List Int} {rs:List P2} (h:k ∈ rs.map key) : ∃ r c,fndF key k rs=some (r,c):=by
 cases ho:fndF key k rs with
 | none =>
  obtain ⟨r,hr,hk⟩:=List.mem_map.1 h
  exact absurd hk ((fnd_ok key k rs).none ho r hr)
 | some p=>exact ⟨p.1,p.2,rfl⟩
theorem z3x {l:List Ev} {rs:List P2} : ∀ k ∈ rs.map (keyR l),k.length=6:=fun k hk=>by
 obtain ⟨r,_,rfl⟩:=List.mem_map.1 hk;exact z5B l r
theorem z5M {l:List Ev} {ss:List P2} {ps:List Int} {rs:List P2} {k:List Int} {n:Nat} (h:(z0Y (rs.map (keyR l)))[n]? = some k) : ∃ r c,fndF (keyR l) k rs=some (r,c)∧r ∈ rs∧repK l ss ps rs k=repR l ss ps r c:=by
 obtain ⟨r,c,hrc⟩:=z4q ((z0A (n := 6) z3x k).1 (List.mem_of_getElem? h))
 obtain ⟨_,_,hr,_⟩:=z1a hrc
 exact ⟨r,c,hrc,hr,by simp [repK,hrc]⟩
def keyC (k:List Int):List PV:=k.map fun x => .val (.int .i64 x)
theorem key_at {ks:List (List Int)} {n:Nat} {a b c d e f:Int} (h:ks[n]? = some [a,b,c,d,e,f]):(ks.map keyC)[n]? = some [.val (.int .i64 a),.val (.int .i64 b),.val (.int .i64 c),.val (.int .i64 d),.val (.int .i64 e),.val (.int .i64 f)]:=by
 rw [List.getElem?_map,h];rfl
theorem z5k (a b c d e f a' b' c' d' e' f' : Int):(a==a' && (b==b' && (c==c' && (d==d' && (e==e' && (f==f' && true))))))=([a,b,c,d,e,f] == [a',b',c',d',e',f']):=rfl
end Go.Proofs.YtbkkginjfnjffaaGreatDoor
namespace Go.Proofs.YtbkkginjfnjffaaGreatDoor
open Go.RowKit Go.Sort Go.Maps Go.ChangeMaps Go.MapKept Go.WideShapes
theorem z6s {es:Array MapEntry} {seen:Array Nat} {e:MapEntry} (h:e ∈ (lefts es seen).toList):e ∈ es.toList∧seen.contains e.born=false:=by
 unfold lefts leftOf at h
 simp only [Array.toList_filter,List.mem_filter,Bool.not_eq_true'] at h
 exact h
theorem mem_lefts {es:Array MapEntry} {seen:Array Nat} {e:MapEntry} (h:e ∈ es.toList) (hs:seen.contains e.born=false):e ∈ (lefts es seen).toList:=by
 unfold lefts leftOf
 simp only [Array.toList_filter,List.mem_filter,Bool.not_eq_true']
 exact ⟨h,hs⟩
theorem nextArm {A:Nat→Nat→Nat→Nat→Nat→Array Nat→Array MapEntry→Nat→Prop} (a b c d e:Nat) (f:Array Nat) (g:Array MapEntry) (h:Nat) (k:A a b c d e f g h) : ∃ tm r b since c0 seen es ck,A tm r b since c0 seen es ck:=⟨a,b,c,d,e,f,g,h,k⟩
theorem entryArm {A:Nat→Nat→Nat→Nat→Array Nat→Array MapEntry→Nat→MapEntry→Prop} (a b c d:Nat) (f:Array Nat) (g:Array MapEntry) (h:Nat) (e:MapEntry) (k:A a b c d f g h e) : ∃ tm r b since seen es ck e,A tm r b since seen es ck e:=⟨a,b,c,d,f,g,h,e,k⟩
structure KeysIn (m:List Int→Option Value) (ks:List (List Int)):Prop where
 nd:ks.Nodup
 mem : ∀ k,k ∈ ks↔WfN 6 k∧(m k).isSome=true
noncomputable abbrev prM (pin:Option Nat) (nb:Nat) (m:List Int→Option Value):AO := .map pin Tryz.prog 70 nb (mapN 6 m)
def kvV (k:List Int):Value := .agg (k.map (Value.int .i64)).toArray
theorem entry_key {m:List Int→Option Value} {nb:Nat} {es:Array MapEntry} {ck:Nat} (h:z1m Tryz.prog 70 nb (mapN 6 m) es ck) {e:MapEntry} (he:e ∈ es.toList) : ∃ k,WfN 6 k∧e.key=kvV k∧(m k).isSome=true:=by
 obtain ⟨kl,h1,h2⟩:=h.entry qW he
 unfold mapN at h2
 cases hu:unN 6 kl with
 | none=>rw [hu] at h2;cases h2
 | some k =>
  rw [hu] at h2
  obtain ⟨w,rfl⟩:=z8p hu
  refine ⟨k,w,?_,by rw [show m k=some e.val from h2];rfl⟩
  obtain ⟨a,b,c,d,e',f,rfl⟩:=z1v w.1
  have hw:=w.2
  simp only [List.mem_cons,List.not_mem_nil,or_false,forall_eq_or_imp,forall_eq] at hw
  exact qW.inj h1 (z1F hw.1 hw.2.1 hw.2.2.1 hw.2.2.2.1 hw.2.2.2.2.1 hw.2.2.2.2.2)
theorem key_entry {m:List Int→Option Value} {nb:Nat} {es:Array MapEntry} {ck:Nat} (h:z1m Tryz.prog 70 nb (mapN 6 m) es ck) {k:List Int} (w:WfN 6 k) (hs:(m k).isSome=true) : ∃ e ∈ es.toList,e.key=kvV k:=by
 obtain ⟨v,hv⟩:=Option.isSome_iff_exists.1 hs
 obtain ⟨e,he,h1,_⟩:=h.mem qW (kl:=kyN k) trivial (v:=v) (by rw [z2M z5c m w,hv])
 refine ⟨e,he,?_⟩
 obtain ⟨a,b,c,d,e',f,rfl⟩:=z1v w.1
 have hw:=w.2
 simp only [List.mem_cons,List.not_mem_nil,or_false,forall_eq_or_imp,forall_eq] at hw
 exact qW.inj h1 (z1F hw.1 hw.2.1 hw.2.2.1 hw.2.2.2.1 hw.2.2.2.2.1 hw.2.2.2.2.2)
theorem z4D : ∀ {a b:List Int},a.map (Value.int .i64)=b.map (Value.int .i64)→a=b
 | [],[],_=>rfl
 | [],_ :: _,h=>by cases h
 | _ :: _,[],h=>by cases h
 | a :: r,b :: q,h=>by
  simp only [List.map_cons,List.cons.injEq,Value.int.injEq,true_and] at h
  rw [h.1,z4D h.2]
theorem kvV_inj {k k' : List Int} (h:kvV k=kvV k'):k=k':=by
 unfold kvV at h
 simp only [Value.agg.injEq] at h
 exact z4D (by have:=congrArg Array.toList h;simpa using this)
theorem same_born {m:List Int→Option Value} {nb:Nat} {es:Array MapEntry} {ck:Nat} (h:z1m Tryz.prog 70 nb (mapN 6 m) es ck) {e e' : MapEntry} (he:e ∈ es.toList) (he' : e' ∈ es.toList) (hk:e.key=e'.key):e=e':=by
 have hp:es.toList.Pairwise (fun x y=>x.key ≠ y.key):=((stamped_iff es ck).1 h.1.stamped).2.2
 have : ∀ (l:List MapEntry),l.Pairwise (fun x y=>x.key ≠ y.key)→e ∈ l→e' ∈ l→e=e':=fun l=>by
  induction l with
  | nil=>intro _ h;cases h
  | cons x r ih =>
   intro hp h1 h2
   obtain ⟨hp1,hp2⟩:=List.pairwise_cons.1 hp
   rcases List.mem_cons.1 h1 with h3|h3 <;> rcases List.mem_cons.1 h2 with h4|h4
   ·rw [h3,h4]
   ·exact absurd (h3 ▸ hk) (hp1 e' h4)
   ·exact absurd (h4 ▸ hk.symm) (hp1 e h3)
   ·exact ih hp2 h3 h4
 exact this _ hp he he'
theorem z7G {e e' : MapEntry} (hb:e'.born=e.born) : ∀ (l:List MapEntry),(l.map (·.born)).Nodup→e ∈ l→e' ∈ l→e' = e
 | [],_,h,_=>by cases h
 | x :: r,hn,h,h'=>by
  obtain ⟨h1,h2⟩:=List.nodup_cons.1 hn
  rcases List.mem_cons.1 h with rfl|h3
  ·rcases List.mem_cons.1 h' with rfl|h'
   ·rfl
   ·exact absurd (List.mem_map.2 ⟨e',h',hb⟩) h1
  ·rcases List.mem_cons.1 h' with rfl|h'
   ·exact absurd (List.mem_map.2 ⟨e,h3,hb.symm⟩) h1
   ·exact z7G hb r h2 h3 h'
structure Came (m:List Int→Option Value) (es:Array MapEntry) (seen:Array Nat) (acc:List (List Int)):Prop where
 nd:acc.Nodup
 ok : ∀ k ∈ acc,∃ e ∈ es.toList,e.key=kvV k∧seen.contains e.born=true∧WfN 6 k∧(m k).isSome=true
 all : ∀ e ∈ es.toList,seen.contains e.born=true → ∃ k ∈ acc,e.key=kvV k
 len:acc.length+(lefts es seen).size≤es.size
theorem Came.zero (m:List Int→Option Value) (es:Array MapEntry):Came m es #[] []:=⟨List.nodup_nil,fun k h=>(by cases h),fun e _ h=>(by simp at h),by rw [List.length_nil,Nat.zero_add];unfold lefts leftOf;exact Array.size_filter_le⟩
theorem Came.push {m:List Int→Option Value} {nb:Nat} {es:Array MapEntry} {ck:Nat} (hm:z1m Tryz.prog 70 nb (mapN 6 m) es ck) {seen:Array Nat} {acc:List (List Int)} (h:Came m es seen acc) {e:MapEntry} (he:e ∈ (lefts es seen).toList) {k:List Int} (w:WfN 6 k) (hk:e.key=kvV k) (hs:(m k).isSome=true):Came m es (seen.push e.born) (acc ++ [k]):=by
 obtain ⟨hin,hns⟩:=z6s he
 have hmeas:(lefts es (seen.push e.born)).size<(lefts es seen).size:=left_shrinks es seen e he
 refine ⟨?_,fun x hx=>?_,fun x hx hc=>?_,?_⟩
 ·rw [List.nodup_append]
  refine ⟨h.nd,by simp,fun x hx y hy e1=>?_⟩
  rw [List.mem_singleton.1 hy] at e1
  subst e1
  obtain ⟨e',h1,h2,h3,_⟩:=h.ok x hx
  have:=same_born hm h1 hin (by rw [h2,hk])
  rw [this,hns] at h3
  cases h3
 ·rcases List.mem_append.1 hx with hx|hx
  ·obtain ⟨e',h1,h2,h3,h4⟩:=h.ok x hx
   exact ⟨e',h1,h2,by rw [Array.contains_push,h3];simp,h4⟩
  ·rw [List.mem_singleton.1 hx]
   exact ⟨e,hin,hk,by rw [Array.contains_push];simp,w,hs⟩
 ·rw [Array.contains_push,Bool.or_eq_true] at hc
  rcases hc with hc|hc
  ·obtain ⟨y,h1,h2⟩:=h.all x hx hc
   exact ⟨y,by simp [h1],h2⟩
  ·have:=z7G (e:=e) (e':=x) (by simpa using hc) _ hm.nodup hin hx
   subst this
   exact ⟨k,by simp,hk⟩
 ·have:=h.len
  simp only [List.length_append,List.length_cons,List.length_nil]
  omega
theorem Came.done {m:List Int→Option Value} {nb:Nat} {es:Array MapEntry} {ck:Nat} (hm:z1m Tryz.prog 70 nb (mapN 6 m) es ck) {seen:Array Nat} {acc:List (List Int)} (h:Came m es seen acc) (h0:(lefts es seen).size=0):KeysIn m acc:=by
 refine ⟨h.nd,fun k=>⟨fun hk=>?_,fun ⟨w,hs⟩=>?_⟩⟩
 ·obtain ⟨_,_,_,_,h1⟩:=h.ok k hk;exact h1
 ·obtain ⟨e,he,hk⟩:=key_entry hm w hs
  cases hc:seen.contains e.born with
  | false =>
   have:=mem_lefts he hc
   have h1:(lefts es seen).toList.length=0:=by simpa using h0
   rw [List.length_eq_zero_iff.1 h1] at this
   cases this
  | true =>
   obtain ⟨x,hx,hxe⟩:=h.all e he hc
   rw [kvV_inj (hk.symm.trans hxe)]
   exact hx
theorem KeysIn.len {m:List Int→Option Value} {nb:Nat} {es:Array MapEntry} {ck:Nat} (hm:z1m Tryz.prog 70 nb (mapN 6 m) es ck) {seen:Array Nat} {acc:List (List Int)} (h:Came m es seen acc):acc.length≤nb:=by
 have:=h.len
 have:=hm.2.1
 omega
abbrev mpT:TypeId := 64
abbrev psT:TypeId := 75
def hpC (bb bm:Nat) (mo:AO) (acc:List (List Int)):Hp := [(5,.boxP (some bb) psT [.own 0]),(0,.row 70 6 (acc.map keyC)),(6,mo),(7,.boxP (some bm) mpT [.own 6])]
def hpY (lr:Nat) (sp:LSpec) (bb bm:Nat) (mo:AO) (acc:List (List Int)):Hp:=(1999999,.lrec lr sp [(2,.ptr 5 0)]) :: hpC bb bm mo acc
def Mok (mo:AO):Prop:=(∀ n,mo.okB n=true)∧(∀ t y,mo.sub t y=mo)
theorem z2C (bb bm:Nat) {mo:AO} (h:Mok mo) (acc:List (List Int)) (n:Nat) (hn : 8≤n):HpOk n (hpC bb bm mo acc) :=
 ⟨fun p hp=>by
  simp only [hpC,List.mem_cons,List.not_mem_nil,or_false] at hp
  rcases hp with rfl|rfl|rfl|rfl
  ·exact ⟨by simp only [];omega,by simp [AO.zL,AV.okB];omega⟩
  ·exact ⟨by simp only [];omega,rfl⟩
  ·exact ⟨by simp only [];omega,h.1 n⟩
  ·exact ⟨by simp only [];omega,by simp [AO.zL,AV.okB];omega⟩,fun p hp=>by
  simp only [hpC,List.mem_cons,List.not_mem_nil,or_false] at hp
  rcases hp with rfl|rfl|rfl|rfl <;> rfl⟩
theorem hpY_ok (lr:Nat) (sp:LSpec) (bb bm:Nat) {mo:AO} (h:Mok mo) (acc:List (List Int)):HpOk 2000000 (hpY lr sp bb bm mo acc) :=
 (z2C bb bm h acc 2000000 (by omega)).cons (by omega) (by simp [AO.z0b,AV.okB]) ((z2C bb bm h acc 1999999 (by omega)).none (Nat.le_refl _))
theorem mok_raw (u:Value) (ob:Obj):Mok (.raw u ob):=⟨fun _=>rfl,fun _ _=>rfl⟩
theorem mok_map (pin:Option Nat) (nb:Nat) (m:List Int→Option Value):Mok (prM pin nb m):=⟨fun _=>rfl,fun _ _=>rfl⟩
theorem cv_kv (a b c d e f:Int):cv (kvV [a,b,c,d,e,f]) = .agg [.int a,.int b,.int c,.int d,.int e,.int f]:=by simp [cv,kvV,Value.oneCell',AV.int]
theorem keys1_ok (lr:Nat) (sp:LSpec) (bb bm bp nb:Nat) (m:List Int→Option Value)
  (hyld : ∀ mo acc k,Mok mo→acc.length≤nb→k.length=6→YldC Tryz.prog lr 2000000 (hpY lr sp bb bm mo acc) [keyA k] fun hp' r=>hp' = hpY lr sp bb bm mo (acc ++ [k])∧r = .bool true) :
  MemC Tryz.prog 44 2000000 (hpY lr sp bb bm (prM (some bp) nb m) []) [.own 1999999,.ptr 7 0] fun hp' r=>(∃ ks,hp' = hpY lr sp bb bm (prM (some bp) nb m) ks∧KeysIn m ks∧ks.length≤nb)∧r = .tup []:=by
 have hH0:=hpY_ok lr sp bb bm (mok_map (some bp) nb m) []
 simp only [hpY,hpC]
 refine MemC.of Tryz.func44 rfl 14 rfl (by decide) ?_;simp only [z08,frOf]
 repeat' (first|refine T.zk fun K hK=>?_|apply T.block|apply T.skip|apply T.exit|refine T.zh rfl ?_|refine T.zg rfl ?_|refine T.cond rfl (fun hc=>?_) (fun hc=>?_)|apply T.ret|simp only [ze,z8,reduceIte,Nat.reduceEqDiff]|((repeat ((fail_if_success apply hK);clear hK K));apply hK;clear hK K))
 refine T.reg (by kernel_rfl) fun K' hK'=>?_;simp only [bz]
 (with_reducible refine WL.step fun K2 hK2=>?_);simp only [simprocAttr,implies_true,amz,zf,tys];(repeat' (first|with_reducible (first|(apply hK2;clear hK2 K2)|apply And.intro|intro hb)))
 (with_reducible refine WL.step fun K2 hK2=>?_);simp only [simprocAttr,implies_true,amz,zf,tys]
 intro b r es ck hmi hpin
 obtain rfl:=hpin bp rfl
 apply hK2;clear hK2 K2
 (with_reducible refine WL.fin ?_);apply hK';clear hK' K';(try simp only [ze,z8,reduceIte,Nat.reduceEqDiff]);(try ((repeat ((fail_if_success apply hK);clear hK K));apply hK;clear hK K))
 repeat' (first|refine T.zk fun K hK=>?_|apply T.block|apply T.skip|apply T.exit|refine T.zh rfl ?_|refine T.zg rfl ?_|refine T.cond rfl (fun hc=>?_) (fun hc=>?_)|apply T.ret|simp only [ze,z8,reduceIte,Nat.reduceEqDiff]|((repeat ((fail_if_success apply hK);clear hK K));apply hK;clear hK K))
 refine T.z02 (fun p:Array Nat × List (List Int)=>⟨[(0,.own 1999999),(5,.own 2000000)],(2000000,.raw (.pointer (some ⟨r,0,none⟩)) (.mapIter (some bp) ck p.1 ck)) :: hpY lr sp bb bm (.raw (.map (some bp)) (.map es ck)) p.2,14,2000001⟩) (fun p=>Came m es p.1 p.2) (fun p=>(lefts es p.1).size) (#[],[]) (Came.zero m es) (by refine zi.of' rfl ?_;simp only [wks,reduceIte,Nat.reduceEqDiff,ASt.okB,AV.okB,Nat.reduceLT,implies_true,hpY,hpC,AO.z0b,AO.zL,AO.z3B,AO.z0H,List.map_nil]) ?_
 rintro ⟨seen,acc⟩ hcm KL hKL
 simp only at hcm hKL ⊢
 have hlen:=KeysIn.len hmi hcm
 have hH : ∀ acc,HpOk 2000000 (hpY lr sp bb bm (.raw (.map (some bp)) (.map es ck)) acc):=fun acc=>hpY_ok lr sp bb bm (mok_raw _ _) acc
 repeat' (first|refine T.zk fun K hK=>?_|apply T.block|apply T.skip|apply T.exit|refine T.zh rfl ?_|refine T.zg rfl ?_|refine T.cond rfl (fun hc=>?_) (fun hc=>?_)|apply T.ret|simp only [ze,z8,reduceIte,Nat.reduceEqDiff]|((repeat ((fail_if_success apply hK);clear hK K));apply hK;clear hK K))
 simp only [hpY,hpC]
 (refine T.reg (by kernel_rfl) fun K' hK'=>?_;simp only [bz];(repeat' (first|(with_reducible refine WL.fin ?_;apply hK';clear hK' K')|((with_reducible refine WL.step fun K2 hK2=>?_);simp only [simprocAttr,implies_true,amz,zf,tys];(repeat' (first|with_reducible (first|(apply hK2;clear hK2 K2)|apply And.intro|intro hb)|((with_reducible refine nextArm 6 r bp ck ck seen es ck ?_);refine ⟨⟨rfl,rfl,hmi.born,Nat.le_refl _⟩,fun h0=>?_,fun e hem=>?_⟩) )))));all_goals ((try simp only [ze,z8,reduceIte,Nat.reduceEqDiff]);(try ((repeat ((fail_if_success apply hK);clear hK K));apply hK;clear hK K))))
 ·clear hKL
  repeat' (first|refine T.zk fun K hK=>?_|apply T.block|apply T.skip|apply T.exit|refine T.zh rfl ?_|refine T.zg rfl ?_|refine T.cond rfl (fun hc=>?_) (fun hc=>?_)|apply T.ret|simp only [ze,z8,reduceIte,Nat.reduceEqDiff]|((repeat ((fail_if_success apply hK);clear hK K));apply hK;clear hK K))
  have hks:=hcm.done hmi h0
  refine FinM.ret (s':=⟨[],hpY lr sp bb bm (prM (some bp) nb m) acc,14,2000000⟩) (r := .tup []) (.inl rfl) Tryz.results44 ((zi.unraw _ Tryz.prog 6 bp 70 nb (mapN 6 m) es ck (some bp) (fun q e=>by cases e;rfl) rfl hmi).trans (by refine zi.of' rfl ?_;simp only [wks,reduceIte,Nat.reduceEqDiff,ASt.okB,AV.okB,Nat.reduceLT,implies_true,zO,yl,hpY,hpC,AO.z0b,AO.zL,AO.z3B,AO.z0H,AO.z7l])) rfl (by simp only [zI,zu]) ⟨⟨acc,rfl,hks,hlen⟩,rfl⟩
 ·obtain ⟨hin,hns⟩:=z6s hem
  obtain ⟨k,hkw,hke,hks⟩:=entry_key hmi hin
  have hmeas:(lefts es (seen.push e.born)).size<(lefts es seen).size:=left_shrinks es seen e hem
  have hpush:=hcm.push hmi hem hkw hke hks
  have hyl:=hyld (.raw (.map (some bp)) (.map es ck)) acc k (mok_raw _ _) hlen hkw.1
  obtain ⟨k1,k2,k3,k4,k5,k6,rfl⟩:=z1v hkw.1
  simp only [keyA,yl] at hyl
  repeat' (first|refine T.zk fun K hK=>?_|apply T.block|apply T.skip|apply T.exit|refine T.zh rfl ?_|refine T.zg rfl ?_|refine T.cond rfl (fun hc=>?_) (fun hc=>?_)|apply T.ret|simp only [ze,z8,reduceIte,Nat.reduceEqDiff]|((repeat ((fail_if_success apply hK);clear hK K));apply hK;clear hK K))
  (refine T.reg (by kernel_rfl) fun K' hK'=>?_;simp only [bz];(repeat' (first|(with_reducible refine WL.fin ?_;apply hK';clear hK' K')|((with_reducible refine WL.step fun K2 hK2=>?_);simp only [simprocAttr,implies_true,amz,zf,tys,hke,cv_kv];(repeat' (first|with_reducible (first|(apply hK2;clear hK2 K2)|apply And.intro|intro hb)|((with_reducible refine entryArm 6 r bp ck seen es ck e ?_);refine ⟨⟨rfl,rfl,hin,hmi.nodup⟩,?_⟩) )))));all_goals ((try simp only [ze,z8,reduceIte,Nat.reduceEqDiff]);(try ((repeat ((fail_if_success apply hK);clear hK K));apply hK;clear hK K))))
  repeat' (first|refine T.zk fun K hK=>?_|apply T.block|apply T.skip|apply T.exit|refine T.zh rfl ?_|refine T.zg rfl ?_|refine T.cond rfl (fun hc=>?_) (fun hc=>?_)|apply T.ret|simp only [ze,z8,reduceIte,Nat.reduceEqDiff]|((repeat ((fail_if_success apply hK);clear hK K));apply hK;clear hK K))
  refine T.weak (s':=⟨[(0,.own 1999999),(3,.ptr 2000001 0),(5,.own 2000000)],[(2000001,.boxP none 70 [.int k1,.int k2,.int k3,.int k4,.int k5,.int k6]),(2000000,.raw (.pointer (some ⟨r,0,none⟩)) (.mapIter (some bp) ck (seen.push e.born) ck))]++hpY lr sp bb bm (.raw (.map (some bp)) (.map es ck)) acc,14,2000002⟩) (by refine zi.of' rfl ?_;simp only [wks,reduceIte,Nat.reduceEqDiff,ASt.okB,AV.okB,Nat.reduceLT,implies_true,hpY,hpC,AO.z0b,AO.zL,AO.z3B,AO.z0H,List.cons_append,List.nil_append]) ?_
  refine T.regI (by kernel_rfl) fun K' hK'=>?_;simp only [yl]
  simp only [hpY,hpC,List.cons_append,List.nil_append]
  iterate 2 ((with_reducible refine WLI.stepP fun K2 hK2=>?_);simp only [simprocAttr,implies_true,amz,zf,tys];(repeat' (first|with_reducible (first|(apply hK2;clear hK2 K2)|apply And.intro|intro hb))))
  have hAge : ∀ p ∈ [(2000001,AO.boxP none 70 [.int k1,.int k2,.int k3,.int k4,.int k5,.int k6]),(2000000,AO.raw (.pointer (some ⟨r,0,none⟩)) (.mapIter (some bp) ck (seen.push e.born) ck))],2000000≤p.1:=by simp
  (with_reducible refine WLI.stepY fun K2 hK2=>?_);simp only [WSY,WY,simprocAttr,implies_true,amz,zf,tys]
  refine z6d.of 2000000 [(2000001,.boxP none 70 [.int k1,.int k2,.int k3,.int k4,.int k5,.int k6]),(2000000,.raw (.pointer (some ⟨r,0,none⟩)) (.mapIter (some bp) ck (seen.push e.born) ck))] (hpY lr sp bb bm (.raw (.map (some bp)) (.map es ck)) acc) (hpY lr sp bb bm (.raw (.map (some bp)) (.map es ck)) (acc ++ [[k1,k2,k3,k4,k5,k6]])) lr sp [(2,.ptr 5 0)] rfl hAge ?_ (hH _) hyl rfl (by simp [Kept,hpY,zq,AO.handle]) (by decide) (by simp [AV.okB,AV.zT]) ?_
  ·simp only [List.map_cons,AO.keep_box,AO.keep_raw,AV.z5d,List.map_nil]
  apply hK2;clear hK2 K2
  refine WLI.weak (zi.hpe _ ([(2000001,.boxP none 70 [.int k1,.int k2,.int k3,.int k4,.int k5,.int k6]),(2000000,.raw (.pointer (some ⟨r,0,none⟩)) (.mapIter (some bp) ck (seen.push e.born) ck))]++hpY lr sp bb bm (.raw (.map (some bp)) (.map es ck)) (acc ++ [[k1,k2,k3,k4,k5,k6]])) (lk_swap hAge (hH _))) ?_
  simp only [yl,AV.z1c,AV.z0h,AV.z3m,AV.z4a,AV.z5d,AV.z3Z,AV.z2d,AV.z3l,AV.z2c,AV.z3Y,AV.z4b,Nat.reduceLeDiff,true_or,reduceIte,List.mem_singleton,or_true,List.cons_append,List.nil_append,z07,tys]
  (with_reducible refine WLI.stepP fun K2 hK2=>?_);simp only [simprocAttr,implies_true,amz,zf,tys];(repeat' (first|with_reducible (first|(apply hK2;clear hK2 K2)|apply And.intro|intro hb)))
  (with_reducible refine WLI.fin ?_);apply hK';clear hK' K';(try simp only [ze,z8,reduceIte,Nat.reduceEqDiff]);(try ((repeat ((fail_if_success apply hK);clear hK K));apply hK;clear hK K))
  repeat' (first|refine T.zk fun K hK=>?_|apply T.block|apply T.skip|apply T.exit|refine T.zh rfl ?_|refine T.zg rfl ?_|refine T.cond rfl (fun hc=>?_) (fun hc=>?_)|apply T.ret|simp only [ze,z8,reduceIte,Nat.reduceEqDiff]|((repeat ((fail_if_success apply hK);clear hK K));apply hK;clear hK K))
  refine hKL _ (seen.push e.born,acc ++ [[k1,k2,k3,k4,k5,k6]]) (by refine zi.of' rfl ?_;simp only [wks,reduceIte,Nat.reduceEqDiff,ASt.okB,AV.okB,Nat.reduceLT,implies_true,hpY,hpC,AO.z0b,AO.zL,AO.z3B,AO.z0H,List.map_append,yl]) hpush hmeas
end Go.Proofs.YtbkkginjfnjffaaGreatDoor
