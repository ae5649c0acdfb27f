/- Texts Og, Oe, Oh, Oi. -/
import Derived.Test.YtbkkginjfnjffaaGreatDoorZ10
set_option maxHeartbeats 32000000
set_option maxRecDepth 100000
set_option linter.unusedSimpArgs false
set_option linter.unusedVariables false
namespace Go.Proofs.YtbkkginjfnjffaaGreatDoor
open Go.RowKit Go.Sort Go.Maps
theorem qZ {t:Nat} {o:AO} (h:hpG.lookup t=some o):t=1000000∧o = .boxP (some 0) 186 (z0c z3T):=by
 unfold hpG at h
 rw [zq,qp] at h
 split at h
 ·rename_i e;cases h;exact ⟨e,rfl⟩
 ·cases h
theorem z2z (n:Nat) (ks:List Nat) (l:List Value):(z0c l).map (AV.keep n ks)=z0c l:=by
 simp [z0c,AV.z5d]
theorem bsQ_acc (t:Tx) (k:Int) (l:List P2) (bs:List UInt8):bsQ t l (bs++(hdN k).data.toList) 0=bs++(accN t.fs t.st t.sz k l).data.toList:=by
 unfold bsQ accN
 have e:(⟨(bs++(hdN k).data.toList).toArray⟩ : ByteArray)=⟨bs.toArray⟩++hdN k:=by apply z6f;rw [z1V]
 rw [e,List.drop_zero,put_out,z1V]
theorem clos_ok (t:Tx) (hn:NmOk t.fs) (hl:t.st.length≤1000000) (k:Int) (l:List P2) (hll:l.length≤1000) (bs:List UInt8) (hbs:bs.length≤1500000000) :
  MemC Tryz.prog 31 1000001 (hpT t bs) [.int k,.p (.seq 2 (rowP l)),.ptr 0 0,.ptr 2 0,.ptr 3 0,.ptr 4 0] fun hp' r=>hp' = hpT t (bs++(accN t.fs t.st t.sz k l).data.toList)∧r = .tup []:=by
 have hfin:=fun (c:Nat)=>bsQ_acc { t with cb:=c } k l bs
 by_cases k1:k=1
 ·subst k1
  have f1:((1:Int)==1)=true:=rfl
  have f2:=f1
  have hwd:z7y 1=⟨#[114,101,97,100]⟩:=by rfl
  have hhd:hdN 1=(⟨#[32,32]⟩++⟨#[114,101,97,100]⟩)++⟨#[10]⟩:=by rw [hdN,hwd]
  obtain ⟨z,hz⟩ : ∃ z,z=hdN 1:=⟨_,rfl⟩
  rw [← hz] at hhd
  have hzs:z.size≤20:=by rw [hz];exact hd_le _
  have c0:((⟨#[32,32]⟩ : ByteArray).size+(⟨#[114,101,97,100]⟩ : ByteArray).size≤9223372036854775807)=True:=eq_true (by decide)
  obtain ⟨z0,hz0⟩ : ∃ z0,z0=(⟨#[32,32]⟩ : ByteArray)++⟨#[114,101,97,100]⟩:=⟨_,rfl⟩
  rw [← hz0] at hhd
  have c1:(z0.size+(⟨#[10]⟩ : ByteArray).size≤9223372036854775807)=True:=eq_true (by have:=congrArg ByteArray.size hhd;rw [ByteArray.size_append] at this;omega)
  have hw:=z4T t.q (.ptr 0 0) bs z (.inr rfl) (by omega)
  have hbk:=z6U t l (bs++z.data.toList)
  simp only [hpB] at hw
  simp only [hpT] at hbk ⊢
  refine MemC.of Tryz.func31 rfl 55 rfl (by decide) ?_;simp only [z08,frOf]
  repeat' (first|refine T.zk fun K hK=>?_|apply T.block|(refine T.reg (by kernel_rfl) fun K' hK'=>?_;simp only [bz];(repeat' (first|(with_reducible refine WL.fin ?_;apply hK';clear hK' K')|((with_reducible refine WL.step fun K2 hK2=>?_);simp only [simprocAttr,implies_true,amz,zf,tys,f1,f2,c0,← hz0,c1,← hhd];(repeat' (first|with_reducible (first|(apply hK2;clear hK2 K2)|apply And.intro|intro hb)|((with_reducible refine qg 2 _ _ [0] (Ent.of Tryz.func30 (by kernel_rfl) rfl) (hw) ?_ ?_ ?_);(focus ((refine ⟨Nat.le_of_ble_eq_true rfl,?_,?_⟩ <;> simp only [pz,reduceIte,Nat.reduceEqDiff,AV.okB,Nat.reduceLT,zH]);done));(focus (simp [AV.okB];done));rintro hp' r ⟨rfl,rfl⟩;refine ⟨by simp [Kept,zq,AO.handle],?_⟩;simp only [cz,ASt.qh,AO.keep,Nat.reduceLeDiff,reduceIte,Nat.reduceEqDiff,z2z])|((with_reducible refine qg 1000001 _ _ [0,2,3,4] (Ent.of Tryz.func32 (by kernel_rfl) rfl) (hbk) ?_ ?_ ?_);(focus ((refine ⟨Nat.le_of_ble_eq_true rfl,?_,?_⟩ <;> simp only [pz,reduceIte,Nat.reduceEqDiff,AV.okB,Nat.reduceLT,zH,AV.qm]);done));(focus (simp [AV.okB];done));rintro hp' r ⟨⟨c,rfl⟩,rfl⟩;refine ⟨by simp [Kept,hpT5,hpT,zq,AO.handle],?_⟩;simp only [hpT5,hpT];simp only [cz,ASt.qh,AO.keep,Nat.reduceLeDiff,reduceIte,Nat.reduceEqDiff,])))))))|apply T.skip|apply T.exit|refine T.zh rfl ?_|refine T.zg rfl ?_|refine T.cond rfl (fun hc=>?_) (fun hc=>?_)|apply T.ret|simp only [ze,z8,reduceIte,Nat.reduceEqDiff]|((repeat ((fail_if_success apply hK);clear hK K));apply hK;clear hK K))
  refine T.weak (s':=⟨[(2,.ptr 0 0),(3,.ptr 2 0),(4,.ptr 3 0),(5,.ptr 4 0),(22,.fn (.func 50) [.ptr 5 0])],hpT5 ({ t with cb:=c } : Tx) l (bs++z.data.toList),55,1999999⟩) ?_ ?_
  ·refine zi.frm _ _ _ _ (fun t=>?_) (by simp only [wks,reduceIte,Nat.reduceEqDiff,implies_true,and_self,AV.qm]) (by simp only [wks,AV.okB,Nat.reduceLT,decide_true,List.all_cons,List.all_nil,Bool.and_self,AV.qm]) ?_
   ·simp only [hpT5,hpT,zq,qp]
    repeat' split
    all_goals first|rfl|omega
   ·exact fun t' o h=>(z01 ({ t with cb:=c } : Tx) l _ 1999999 (by omega)).at' h
  refine T.z5R 50 [.ptr 5 0] [(2,.ptr 0 0),(3,.ptr 2 0),(4,.ptr 3 0),(5,.ptr 4 0)] rfl (Ent.of Tryz.func50 (by kernel_rfl) rfl) (by simp [z5b,zq]) fun lr sp hsn hsp hsa hsb=>?_
  have hyld : ∀ bs (p:Nat) (s:P2),l[p]? = some s→bs.length≤4000000000→YldC Tryz.prog lr 2000000 (hpTY lr sp ({ t with cb:=c } : Tx) l bs) [.int p,.agg [.int s.1,.int s.2]] fun hp' r=>hp' = hpTY lr sp ({ t with cb:=c } : Tx) l (bs++(entN t.fs t.st t.sz s).data.toList)∧r = .bool true:=by
   intro bs p s hs hbl
   refine YldC.of 1999999 [0,2,3,4] (fun hp3=>hp3=hpT5 ({ t with cb:=c } : Tx) l (bs++(entN t.fs t.st t.sz s).data.toList)) (sp:=sp) (fr := [(2,.ptr 0 0),(3,.ptr 2 0),(4,.ptr 3 0),(5,.ptr 4 0)]) rfl (by rw [hsp];rfl) (by rw [hsp,hsn];simp) (by simp [AV.z0h]) ?_ ?_ (by simp [AV.zT,AV.okB])
   ·have hfil:(hpTY lr sp ({ t with cb:=c } : Tx) l bs).filter (fun p=>p.1 != 1999999)=hpT5 ({ t with cb:=c } : Tx) l bs:=by
     rw [hpTY,List.filter_cons,if_neg (by simp)]
     exact List.filter_eq_self.2 fun p hp=>by have:=((z01 ({ t with cb:=c } : Tx) l bs 1999999 (by omega)).ok p hp).1;simp;omega
    rw [hsa,hsb,hsp,hsn,hfil]
    have hfl:(t.fs.map fuC).length=t.fs.length:=by simp
    have hln:=z7i t.fs t.g t.y t.mn t.st t.sz s hl
    simp only [pgA,lnA,p2A] at hln
    obtain ⟨n1,n2⟩:=z2q t.fs t.st t.sz s hl
    have hit:=z8G (x:=z0d t.fs t.st t.sz s) (by omega) (by omega)
    have hdl:=z4V (x:=z0d t.fs t.st t.sz s) (by omega) (by omega)
    have hnm:=z81 hn s
    have e1:(⟨#[32,32,32,32]⟩ : ByteArray).size=4:=rfl
    have e2:(⟨#[58]⟩ : ByteArray).size=1:=rfl
    have e3:(⟨#[10]⟩ : ByteArray).size=1:=rfl
    obtain ⟨z0,ez0⟩ : ∃ z9:ByteArray,(⟨#[32,32,32,32]⟩ : ByteArray)++nmN t.fs s=z9:=⟨_,rfl⟩
    have bz0:z0.size=((⟨#[32,32,32,32]⟩ : ByteArray)).size+(nmN t.fs s).size:=by rw [← ez0,ByteArray.size_append]
    have cz0:(((⟨#[32,32,32,32]⟩ : ByteArray)).size+(nmN t.fs s).size≤9223372036854775807)=True:=eq_true (by omega)
    obtain ⟨z1,ez1⟩ : ∃ z9:ByteArray,z0++(⟨#[58]⟩ : ByteArray)=z9:=⟨_,rfl⟩
    have bz1:z1.size=(z0).size+((⟨#[58]⟩ : ByteArray)).size:=by rw [← ez1,ByteArray.size_append]
    have cz1:((z0).size+((⟨#[58]⟩ : ByteArray)).size≤9223372036854775807)=True:=eq_true (by omega)
    obtain ⟨z2,ez2⟩ : ∃ z9:ByteArray,z1++dI (z0d t.fs t.st t.sz s)=z9:=⟨_,rfl⟩
    have bz2:z2.size=(z1).size+(dI (z0d t.fs t.st t.sz s)).size:=by rw [← ez2,ByteArray.size_append]
    have cz2:((z1).size+(dI (z0d t.fs t.st t.sz s)).size≤9223372036854775807)=True:=eq_true (by omega)
    obtain ⟨z3,ez3⟩ : ∃ z9:ByteArray,z2++(⟨#[10]⟩ : ByteArray)=z9:=⟨_,rfl⟩
    have bz3:z3.size=(z2).size+((⟨#[10]⟩ : ByteArray)).size:=by rw [← ez3,ByteArray.size_append]
    have cz3:((z2).size+((⟨#[10]⟩ : ByteArray)).size≤9223372036854775807)=True:=eq_true (by omega)
    have hres:entN t.fs t.st t.sz s=z3:=by rw [entN,ez0,ez1,ez2,ez3]
    have hz3:z3.size≤1048700:=by rw [← hres];exact z7L hn t.st t.sz s hl
    have w4:=z4T t.q (.ptr 0 0) bs z3 (.inr rfl) (by omega)
    rw [hres]
    simp only [hpB] at w4
    simp only [z6m,hpT5,hpT]
    by_cases a1:s.1<0
    ·have g1:decide (0≤s.1)=false:=by simpa using a1
     have hnn:nmN t.fs s=⟨#[63]⟩:=by simp [nmN,z3g a1]
     rw [hnn] at ez0 cz0
     repeat' (first|refine T.zk fun K hK=>?_|apply T.block|(refine T.reg (by kernel_rfl) fun K' hK'=>?_;simp only [bz];(with_reducible repeat' (first|(apply WL.fin;apply hK';clear hK' K')|(refine WL.step fun K2 hK2=>?_;simp only [simprocAttr,implies_true,amz,zf,tys,g1];repeat' (first|(apply hK2;clear hK2 K2)|apply And.intro|intro hb)))))|apply T.skip|apply T.exit|refine T.zh rfl ?_|refine T.zg rfl ?_|refine T.cond rfl (fun hc=>?_) (fun hc=>?_)|apply T.ret|simp only [ze,z8,reduceIte,Nat.reduceEqDiff]|((repeat ((fail_if_success apply hK);clear hK K));apply hK;clear hK K))
     refine T.drw 11 (by kernel_rfl) (by kernel_rfl) fun K' hK'=>?_;simp only [yl];(repeat' (first|(with_reducible refine WL.fin ?_;apply hK';clear hK' K')|(with_reducible refine WD.fin ?_)|((with_reducible first|refine WL.step fun K2 hK2=>?_|refine WD.step fun K2 hK2=>?_);simp only [simprocAttr,implies_true,amz,zf,tys,ez0,cz0,ez1,cz1,ez2,cz2,ez3,cz3];(repeat' (first|with_reducible (first|(apply hK2;clear hK2 K2)|apply And.intro|intro hb)|((with_reducible first|apply zl|apply zn);case h=>exact CallV.plain (Ent.of Tryz.func33 (by kernel_rfl) rfl) (hln) (by simp [AV.okB]))|((with_reducible refine ⟨_,CallR.read 1000001 hpG _ rfl rfl (Ent.of Tryz.func29 (by kernel_rfl) rfl) (hit) (z2P (by decide) (fun t o ho=>by obtain ⟨rfl,rfl⟩:=qZ ho;simp [zq])) ?_ ?_,?_⟩);(focus (simp [AV.okB];done));(focus rfl))|((with_reducible refine qg 2 _ _ [0] (Ent.of Tryz.func30 (by kernel_rfl) rfl) (w4) ?_ ?_ ?_);(focus ((refine ⟨Nat.le_of_ble_eq_true rfl,?_,?_⟩ <;> simp only [pz,reduceIte,Nat.reduceEqDiff,AV.okB,Nat.reduceLT,zH]);done));(focus (simp [AV.okB];done));rintro hp' r ⟨rfl,rfl⟩;refine ⟨by simp [Kept,zq,AO.handle],?_⟩;simp only [cz,ASt.qh,AO.keep,Nat.reduceLeDiff,reduceIte,Nat.reduceEqDiff,z2z]))))));all_goals ((try simp only [ze,z8,reduceIte,Nat.reduceEqDiff]);(try ((repeat ((fail_if_success apply hK);clear hK K));apply hK;clear hK K)))
     all_goals repeat' (first|refine T.zk fun K hK=>?_|apply T.block|(refine T.reg (by kernel_rfl) fun K' hK'=>?_;simp only [bz];(with_reducible repeat' (first|(apply WL.fin;apply hK';clear hK' K')|(refine WL.step fun K2 hK2=>?_;simp only [simprocAttr,implies_true,amz,zf,tys];repeat' (first|(apply hK2;clear hK2 K2)|apply And.intro|intro hb)))))|apply T.skip|apply T.exit|refine T.zh rfl ?_|refine T.zg rfl ?_|refine T.cond rfl (fun hc=>?_) (fun hc=>?_)|apply T.ret|simp only [ze,z8,reduceIte,Nat.reduceEqDiff]|((repeat ((fail_if_success apply hK);clear hK K));apply hK;clear hK K))
     all_goals (refine ⟨rfl,⟨[],hpT5 ({ t with cb:=c } : Tx) l (bs++z3.data.toList),55,2000000⟩,(by refine zi.of' rfl ?_;simp only [wks,reduceIte,Nat.reduceEqDiff,ASt.okB,AV.okB,Nat.reduceLT,implies_true,hpT5,hpT,zH]),rfl,(z01 ({ t with cb:=c } : Tx) l _ 1999999 (by omega)).none (Nat.le_refl _),rfl⟩)
    have g1:decide (0≤s.1)=true:=by simpa using a1
    by_cases a2:s.1<(t.fs.length:Int)
    ·have g2:decide (s.1<(t.fs.length:Int))=true:=by simpa using a2
     obtain ⟨f,hf,hf2⟩:=z4s (l:=t.fs) (i:=s.1) (by omega) a2
     have mf:=fu_at hf2
     have i1:(0≤s.1)=True:=eq_true (by omega)
     have hnn:nmN t.fs s=f.name:=by simp [nmN,hf]
     rw [hnn] at ez0 cz0
     repeat' (first|refine T.zk fun K hK=>?_|apply T.block|(refine T.reg (by kernel_rfl) fun K' hK'=>?_;simp only [bz];(with_reducible repeat' (first|(apply WL.fin;apply hK';clear hK' K')|(refine WL.step fun K2 hK2=>?_;simp only [simprocAttr,implies_true,amz,zf,tys,hfl,g1,g2,mf,i1,decide_true];repeat' (first|(apply hK2;clear hK2 K2)|apply And.intro|intro hb)))))|apply T.skip|apply T.exit|refine T.zh rfl ?_|refine T.zg rfl ?_|refine T.cond rfl (fun hc=>?_) (fun hc=>?_)|apply T.ret|simp only [ze,z8,reduceIte,Nat.reduceEqDiff]|((repeat ((fail_if_success apply hK);clear hK K));apply hK;clear hK K))
     refine T.drw 11 (by kernel_rfl) (by kernel_rfl) fun K' hK'=>?_;simp only [yl];(repeat' (first|(with_reducible refine WL.fin ?_;apply hK';clear hK' K')|(with_reducible refine WD.fin ?_)|((with_reducible first|refine WL.step fun K2 hK2=>?_|refine WD.step fun K2 hK2=>?_);simp only [simprocAttr,implies_true,amz,zf,tys,ez0,cz0,ez1,cz1,ez2,cz2,ez3,cz3];(repeat' (first|with_reducible (first|(apply hK2;clear hK2 K2)|apply And.intro|intro hb)|((with_reducible first|apply zl|apply zn);case h=>exact CallV.plain (Ent.of Tryz.func33 (by kernel_rfl) rfl) (hln) (by simp [AV.okB]))|((with_reducible refine ⟨_,CallR.read 1000001 hpG _ rfl rfl (Ent.of Tryz.func29 (by kernel_rfl) rfl) (hit) (z2P (by decide) (fun t o ho=>by obtain ⟨rfl,rfl⟩:=qZ ho;simp [zq])) ?_ ?_,?_⟩);(focus (simp [AV.okB];done));(focus rfl))|((with_reducible refine qg 2 _ _ [0] (Ent.of Tryz.func30 (by kernel_rfl) rfl) (w4) ?_ ?_ ?_);(focus ((refine ⟨Nat.le_of_ble_eq_true rfl,?_,?_⟩ <;> simp only [pz,reduceIte,Nat.reduceEqDiff,AV.okB,Nat.reduceLT,zH]);done));(focus (simp [AV.okB];done));rintro hp' r ⟨rfl,rfl⟩;refine ⟨by simp [Kept,zq,AO.handle],?_⟩;simp only [cz,ASt.qh,AO.keep,Nat.reduceLeDiff,reduceIte,Nat.reduceEqDiff,z2z]))))));all_goals ((try simp only [ze,z8,reduceIte,Nat.reduceEqDiff]);(try ((repeat ((fail_if_success apply hK);clear hK K));apply hK;clear hK K)))
     all_goals repeat' (first|refine T.zk fun K hK=>?_|apply T.block|(refine T.reg (by kernel_rfl) fun K' hK'=>?_;simp only [bz];(with_reducible repeat' (first|(apply WL.fin;apply hK';clear hK' K')|(refine WL.step fun K2 hK2=>?_;simp only [simprocAttr,implies_true,amz,zf,tys];repeat' (first|(apply hK2;clear hK2 K2)|apply And.intro|intro hb)))))|apply T.skip|apply T.exit|refine T.zh rfl ?_|refine T.zg rfl ?_|refine T.cond rfl (fun hc=>?_) (fun hc=>?_)|apply T.ret|simp only [ze,z8,reduceIte,Nat.reduceEqDiff]|((repeat ((fail_if_success apply hK);clear hK K));apply hK;clear hK K))
     all_goals (refine ⟨rfl,⟨[],hpT5 ({ t with cb:=c } : Tx) l (bs++z3.data.toList),55,2000000⟩,(by refine zi.of' rfl ?_;simp only [wks,reduceIte,Nat.reduceEqDiff,ASt.okB,AV.okB,Nat.reduceLT,implies_true,hpT5,hpT,zH]),rfl,(z01 ({ t with cb:=c } : Tx) l _ 1999999 (by omega)).none (Nat.le_refl _),rfl⟩)
    ·have g2:decide (s.1<(t.fs.length:Int))=false:=by simpa using a2
     have hnn:nmN t.fs s=⟨#[63]⟩:=by simp [nmN,z4t (Int.not_lt.1 a2)]
     rw [hnn] at ez0 cz0
     repeat' (first|refine T.zk fun K hK=>?_|apply T.block|(refine T.reg (by kernel_rfl) fun K' hK'=>?_;simp only [bz];(with_reducible repeat' (first|(apply WL.fin;apply hK';clear hK' K')|(refine WL.step fun K2 hK2=>?_;simp only [simprocAttr,implies_true,amz,zf,tys,hfl,g1,g2];repeat' (first|(apply hK2;clear hK2 K2)|apply And.intro|intro hb)))))|apply T.skip|apply T.exit|refine T.zh rfl ?_|refine T.zg rfl ?_|refine T.cond rfl (fun hc=>?_) (fun hc=>?_)|apply T.ret|simp only [ze,z8,reduceIte,Nat.reduceEqDiff]|((repeat ((fail_if_success apply hK);clear hK K));apply hK;clear hK K))
     refine T.drw 11 (by kernel_rfl) (by kernel_rfl) fun K' hK'=>?_;simp only [yl];(repeat' (first|(with_reducible refine WL.fin ?_;apply hK';clear hK' K')|(with_reducible refine WD.fin ?_)|((with_reducible first|refine WL.step fun K2 hK2=>?_|refine WD.step fun K2 hK2=>?_);simp only [simprocAttr,implies_true,amz,zf,tys,ez0,cz0,ez1,cz1,ez2,cz2,ez3,cz3];(repeat' (first|with_reducible (first|(apply hK2;clear hK2 K2)|apply And.intro|intro hb)|((with_reducible first|apply zl|apply zn);case h=>exact CallV.plain (Ent.of Tryz.func33 (by kernel_rfl) rfl) (hln) (by simp [AV.okB]))|((with_reducible refine ⟨_,CallR.read 1000001 hpG _ rfl rfl (Ent.of Tryz.func29 (by kernel_rfl) rfl) (hit) (z2P (by decide) (fun t o ho=>by obtain ⟨rfl,rfl⟩:=qZ ho;simp [zq])) ?_ ?_,?_⟩);(focus (simp [AV.okB];done));(focus rfl))|((with_reducible refine qg 2 _ _ [0] (Ent.of Tryz.func30 (by kernel_rfl) rfl) (w4) ?_ ?_ ?_);(focus ((refine ⟨Nat.le_of_ble_eq_true rfl,?_,?_⟩ <;> simp only [pz,reduceIte,Nat.reduceEqDiff,AV.okB,Nat.reduceLT,zH]);done));(focus (simp [AV.okB];done));rintro hp' r ⟨rfl,rfl⟩;refine ⟨by simp [Kept,zq,AO.handle],?_⟩;simp only [cz,ASt.qh,AO.keep,Nat.reduceLeDiff,reduceIte,Nat.reduceEqDiff,z2z]))))));all_goals ((try simp only [ze,z8,reduceIte,Nat.reduceEqDiff]);(try ((repeat ((fail_if_success apply hK);clear hK K));apply hK;clear hK K)))
     all_goals repeat' (first|refine T.zk fun K hK=>?_|apply T.block|(refine T.reg (by kernel_rfl) fun K' hK'=>?_;simp only [bz];(with_reducible repeat' (first|(apply WL.fin;apply hK';clear hK' K')|(refine WL.step fun K2 hK2=>?_;simp only [simprocAttr,implies_true,amz,zf,tys];repeat' (first|(apply hK2;clear hK2 K2)|apply And.intro|intro hb)))))|apply T.skip|apply T.exit|refine T.zh rfl ?_|refine T.zg rfl ?_|refine T.cond rfl (fun hc=>?_) (fun hc=>?_)|apply T.ret|simp only [ze,z8,reduceIte,Nat.reduceEqDiff]|((repeat ((fail_if_success apply hK);clear hK K));apply hK;clear hK K))
     all_goals (refine ⟨rfl,⟨[],hpT5 ({ t with cb:=c } : Tx) l (bs++z3.data.toList),55,2000000⟩,(by refine zi.of' rfl ?_;simp only [wks,reduceIte,Nat.reduceEqDiff,ASt.okB,AV.okB,Nat.reduceLT,implies_true,hpT5,hpT,zH]),rfl,(z01 ({ t with cb:=c } : Tx) l _ 1999999 (by omega)).none (Nat.le_refl _),rfl⟩)
   ·rintro hp3 rfl
    refine ⟨?_,?_,?_,rfl⟩
    ·intro x hx
     simp only [List.mem_cons,List.not_mem_nil,or_false] at hx
     rcases hx with rfl|rfl|rfl|rfl <;> simp [Kept,hpTY,hpT5,hpT,zq,AO.z2p]
    ·exact fun p hp=>AO.z1g .zy (Nat.le_refl _) ((z01 ({ t with cb:=c } : Tx) l _ 1999999 (by omega)).ok p hp).2
    ·rfl
  have hzl:z.data.toList.length=z.size:=by rw [Array.length_toList];rfl
  have hmem:=z5q lr sp ({ t with cb:=c } : Tx) l (bs++z.data.toList) hn hl hll (by rw [List.length_append];omega) hyld
  have hfc:=hfin c
  rw [← hz] at hfc
  rw [hfc] at hmem
  have hH:=z4y lr sp ({ t with cb:=c } : Tx) l (bs++z.data.toList)
  refine ⟨2000000,hpTY lr sp ({ t with cb:=c } : Tx) l (bs++z.data.toList),_,[0],hmem,?_,by simp [AV.okB,AV.qm],?_⟩
  ·have he:ASt.hp (ASt.add ⟨[(2,.ptr 0 0),(3,.ptr 2 0),(4,.ptr 3 0),(5,.ptr 4 0),(22,.fn (.func 50) [.ptr 5 0])],hpT5 ({ t with cb:=c } : Tx) l (bs++z.data.toList),55,1999999⟩ (.lrec lr sp [(2,.ptr 0 0),(3,.ptr 2 0),(4,.ptr 3 0),(5,.ptr 4 0)]))=hpTY lr sp ({ t with cb:=c } : Tx) l (bs++z.data.toList):=rfl
   refine ⟨Nat.le_refl _,fun p hp=>⟨?_,hH.ok p hp⟩,fun p hp _=>?_⟩
   ·rw [he];exact hH.one p hp
   ·rw [he] at hp;rw [hH.one p hp];rfl
  rintro hp' r ⟨rfl,rfl⟩
  refine ⟨fun x hx _=>?_,⟨_,rfl⟩,fun ob=>?_⟩
  ·rw [List.mem_singleton.1 hx]
   simp [Kept,hpTY,hpT5,hpT,zq,AO.handle]
  have hfl:List.filter (fun p=>decide (2000000≤p.1)) (hpTY lr sp ({ t with cb:=c } : Tx) l (bs++z.data.toList)) = []:=hH.le
  have hadd:(ASt.add ⟨[(2,.ptr 0 0),(3,.ptr 2 0),(4,.ptr 3 0),(5,.ptr 4 0),(22,.fn (.func 50) [.ptr 5 0])],hpT5 ({ t with cb:=c } : Tx) l (bs++z.data.toList),55,1999999⟩ (.lrec lr sp [(2,.ptr 0 0),(3,.ptr 2 0),(4,.ptr 3 0),(5,.ptr 4 0)]))=⟨[(2,.ptr 0 0),(3,.ptr 2 0),(4,.ptr 3 0),(5,.ptr 4 0),(22,.fn (.func 50) [.ptr 5 0])],hpTY lr sp ({ t with cb:=c } : Tx) l (bs++z.data.toList),55,2000000⟩:=rfl
  rw [hadd]
  simp only [ASt.qh,hfl,List.map_nil,List.append_nil,List.map_cons,zO,hpTY,hpT5,hpT,AV.z1c,AV.z0h,AV.z2c,List.mem_cons,List.not_mem_nil,or_false,or_true,true_or,reduceIte,Nat.reduceEqDiff,Nat.reduceLeDiff,false_or]
  (try simp only [ze,z8,reduceIte,Nat.reduceEqDiff]);(try ((repeat ((fail_if_success apply hK);clear hK K));apply hK;clear hK K))
  repeat' (first|refine T.zk fun K hK=>?_|apply T.block|(refine T.reg (by kernel_rfl) fun K' hK'=>?_;simp only [bz];(with_reducible repeat' (first|(apply WL.fin;apply hK';clear hK' K')|(refine WL.step fun K2 hK2=>?_;simp only [simprocAttr,implies_true,amz,zf,tys];repeat' (first|(apply hK2;clear hK2 K2)|apply And.intro|intro hb)))))|apply T.skip|apply T.exit|refine T.zh rfl ?_|refine T.zg rfl ?_|refine T.cond rfl (fun hc=>?_) (fun hc=>?_)|apply T.ret|simp only [ze,z8,reduceIte,Nat.reduceEqDiff]|((repeat ((fail_if_success apply hK);clear hK K));apply hK;clear hK K))
  refine FinM.ret (s':=⟨[],hpT t (bs++(accN t.fs t.st t.sz 1 l).data.toList),55,1000001⟩) (r := .tup []) (.inl rfl) Tryz.results31 (by refine zi.of' rfl ?_;simp only [wks,reduceIte,Nat.reduceEqDiff,ASt.okB,AV.okB,Nat.reduceLT,implies_true,hpT,zH,AV.qm,yl,List.filter_cons,List.filter_nil,Nat.reduceLeDiff,decide_true,decide_false,Bool.false_eq_true,List.append_nil,List.cons_append,List.nil_append]) rfl (by simp only [zI,zu]) ⟨rfl,rfl⟩
 have f1:(k==1)=false:=by simpa using k1
 by_cases k2:k=2
 ·clear f1
  subst k2
  have f1:((2:Int)==1)=false:=rfl
  have f2:((2:Int)==2)=true:=rfl
  have hwd:z7y 2=⟨#[119,114,105,116,101]⟩:=by rfl
  have hhd:hdN 2=(⟨#[32,32]⟩++⟨#[119,114,105,116,101]⟩)++⟨#[10]⟩:=by rw [hdN,hwd]
  obtain ⟨z,hz⟩ : ∃ z,z=hdN 2:=⟨_,rfl⟩
  rw [← hz] at hhd
  have hzs:z.size≤20:=by rw [hz];exact hd_le _
  have c0:((⟨#[32,32]⟩ : ByteArray).size+(⟨#[119,114,105,116,101]⟩ : ByteArray).size≤9223372036854775807)=True:=eq_true (by decide)
  obtain ⟨z0,hz0⟩ : ∃ z0,z0=(⟨#[32,32]⟩ : ByteArray)++⟨#[119,114,105,116,101]⟩:=⟨_,rfl⟩
  rw [← hz0] at hhd
  have c1:(z0.size+(⟨#[10]⟩ : ByteArray).size≤9223372036854775807)=True:=eq_true (by have:=congrArg ByteArray.size hhd;rw [ByteArray.size_append] at this;omega)
  have hw:=z4T t.q (.ptr 0 0) bs z (.inr rfl) (by omega)
  have hbk:=z6U t l (bs++z.data.toList)
  simp only [hpB] at hw
  simp only [hpT] at hbk ⊢
  refine MemC.of Tryz.func31 rfl 55 rfl (by decide) ?_;simp only [z08,frOf]
  repeat' (first|refine T.zk fun K hK=>?_|apply T.block|(refine T.reg (by kernel_rfl) fun K' hK'=>?_;simp only [bz];(repeat' (first|(with_reducible refine WL.fin ?_;apply hK';clear hK' K')|((with_reducible refine WL.step fun K2 hK2=>?_);simp only [simprocAttr,implies_true,amz,zf,tys,f1,f2,c0,← hz0,c1,← hhd];(repeat' (first|with_reducible (first|(apply hK2;clear hK2 K2)|apply And.intro|intro hb)|((with_reducible refine qg 2 _ _ [0] (Ent.of Tryz.func30 (by kernel_rfl) rfl) (hw) ?_ ?_ ?_);(focus ((refine ⟨Nat.le_of_ble_eq_true rfl,?_,?_⟩ <;> simp only [pz,reduceIte,Nat.reduceEqDiff,AV.okB,Nat.reduceLT,zH]);done));(focus (simp [AV.okB];done));rintro hp' r ⟨rfl,rfl⟩;refine ⟨by simp [Kept,zq,AO.handle],?_⟩;simp only [cz,ASt.qh,AO.keep,Nat.reduceLeDiff,reduceIte,Nat.reduceEqDiff,z2z])|((with_reducible refine qg 1000001 _ _ [0,2,3,4] (Ent.of Tryz.func32 (by kernel_rfl) rfl) (hbk) ?_ ?_ ?_);(focus ((refine ⟨Nat.le_of_ble_eq_true rfl,?_,?_⟩ <;> simp only [pz,reduceIte,Nat.reduceEqDiff,AV.okB,Nat.reduceLT,zH,AV.qm]);done));(focus (simp [AV.okB];done));rintro hp' r ⟨⟨c,rfl⟩,rfl⟩;refine ⟨by simp [Kept,hpT5,hpT,zq,AO.handle],?_⟩;simp only [hpT5,hpT];simp only [cz,ASt.qh,AO.keep,Nat.reduceLeDiff,reduceIte,Nat.reduceEqDiff,])))))))|apply T.skip|apply T.exit|refine T.zh rfl ?_|refine T.zg rfl ?_|refine T.cond rfl (fun hc=>?_) (fun hc=>?_)|apply T.ret|simp only [ze,z8,reduceIte,Nat.reduceEqDiff]|((repeat ((fail_if_success apply hK);clear hK K));apply hK;clear hK K))
  refine T.weak (s':=⟨[(2,.ptr 0 0),(3,.ptr 2 0),(4,.ptr 3 0),(5,.ptr 4 0),(22,.fn (.func 50) [.ptr 5 0])],hpT5 ({ t with cb:=c } : Tx) l (bs++z.data.toList),55,1999999⟩) ?_ ?_
  ·refine zi.frm _ _ _ _ (fun t=>?_) (by simp only [wks,reduceIte,Nat.reduceEqDiff,implies_true,and_self,AV.qm]) (by simp only [wks,AV.okB,Nat.reduceLT,decide_true,List.all_cons,List.all_nil,Bool.and_self,AV.qm]) ?_
   ·simp only [hpT5,hpT,zq,qp]
    repeat' split
    all_goals first|rfl|omega
   ·exact fun t' o h=>(z01 ({ t with cb:=c } : Tx) l _ 1999999 (by omega)).at' h
  refine T.z5R 50 [.ptr 5 0] [(2,.ptr 0 0),(3,.ptr 2 0),(4,.ptr 3 0),(5,.ptr 4 0)] rfl (Ent.of Tryz.func50 (by kernel_rfl) rfl) (by simp [z5b,zq]) fun lr sp hsn hsp hsa hsb=>?_
  have hyld : ∀ bs (p:Nat) (s:P2),l[p]? = some s→bs.length≤4000000000→YldC Tryz.prog lr 2000000 (hpTY lr sp ({ t with cb:=c } : Tx) l bs) [.int p,.agg [.int s.1,.int s.2]] fun hp' r=>hp' = hpTY lr sp ({ t with cb:=c } : Tx) l (bs++(entN t.fs t.st t.sz s).data.toList)∧r = .bool true:=by
   intro bs p s hs hbl
   refine YldC.of 1999999 [0,2,3,4] (fun hp3=>hp3=hpT5 ({ t with cb:=c } : Tx) l (bs++(entN t.fs t.st t.sz s).data.toList)) (sp:=sp) (fr := [(2,.ptr 0 0),(3,.ptr 2 0),(4,.ptr 3 0),(5,.ptr 4 0)]) rfl (by rw [hsp];rfl) (by rw [hsp,hsn];simp) (by simp [AV.z0h]) ?_ ?_ (by simp [AV.zT,AV.okB])
   ·have hfil:(hpTY lr sp ({ t with cb:=c } : Tx) l bs).filter (fun p=>p.1 != 1999999)=hpT5 ({ t with cb:=c } : Tx) l bs:=by
     rw [hpTY,List.filter_cons,if_neg (by simp)]
     exact List.filter_eq_self.2 fun p hp=>by have:=((z01 ({ t with cb:=c } : Tx) l bs 1999999 (by omega)).ok p hp).1;simp;omega
    rw [hsa,hsb,hsp,hsn,hfil]
    have hfl:(t.fs.map fuC).length=t.fs.length:=by simp
    have hln:=z7i t.fs t.g t.y t.mn t.st t.sz s hl
    simp only [pgA,lnA,p2A] at hln
    obtain ⟨n1,n2⟩:=z2q t.fs t.st t.sz s hl
    have hit:=z8G (x:=z0d t.fs t.st t.sz s) (by omega) (by omega)
    have hdl:=z4V (x:=z0d t.fs t.st t.sz s) (by omega) (by omega)
    have hnm:=z81 hn s
    have e1:(⟨#[32,32,32,32]⟩ : ByteArray).size=4:=rfl
    have e2:(⟨#[58]⟩ : ByteArray).size=1:=rfl
    have e3:(⟨#[10]⟩ : ByteArray).size=1:=rfl
    obtain ⟨z0,ez0⟩ : ∃ z9:ByteArray,(⟨#[32,32,32,32]⟩ : ByteArray)++nmN t.fs s=z9:=⟨_,rfl⟩
    have bz0:z0.size=((⟨#[32,32,32,32]⟩ : ByteArray)).size+(nmN t.fs s).size:=by rw [← ez0,ByteArray.size_append]
    have cz0:(((⟨#[32,32,32,32]⟩ : ByteArray)).size+(nmN t.fs s).size≤9223372036854775807)=True:=eq_true (by omega)
    obtain ⟨z1,ez1⟩ : ∃ z9:ByteArray,z0++(⟨#[58]⟩ : ByteArray)=z9:=⟨_,rfl⟩
    have bz1:z1.size=(z0).size+((⟨#[58]⟩ : ByteArray)).size:=by rw [← ez1,ByteArray.size_append]
    have cz1:((z0).size+((⟨#[58]⟩ : ByteArray)).size≤9223372036854775807)=True:=eq_true (by omega)
    obtain ⟨z2,ez2⟩ : ∃ z9:ByteArray,z1++dI (z0d t.fs t.st t.sz s)=z9:=⟨_,rfl⟩
    have bz2:z2.size=(z1).size+(dI (z0d t.fs t.st t.sz s)).size:=by rw [← ez2,ByteArray.size_append]
    have cz2:((z1).size+(dI (z0d t.fs t.st t.sz s)).size≤9223372036854775807)=True:=eq_true (by omega)
    obtain ⟨z3,ez3⟩ : ∃ z9:ByteArray,z2++(⟨#[10]⟩ : ByteArray)=z9:=⟨_,rfl⟩
    have bz3:z3.size=(z2).size+((⟨#[10]⟩ : ByteArray)).size:=by rw [← ez3,ByteArray.size_append]
    have cz3:((z2).size+((⟨#[10]⟩ : ByteArray)).size≤9223372036854775807)=True:=eq_true (by omega)
    have hres:entN t.fs t.st t.sz s=z3:=by rw [entN,ez0,ez1,ez2,ez3]
    have hz3:z3.size≤1048700:=by rw [← hres];exact z7L hn t.st t.sz s hl
    have w4:=z4T t.q (.ptr 0 0) bs z3 (.inr rfl) (by omega)
    rw [hres]
    simp only [hpB] at w4
    simp only [z6m,hpT5,hpT]
    by_cases a1:s.1<0
    ·have g1:decide (0≤s.1)=false:=by simpa using a1
     have hnn:nmN t.fs s=⟨#[63]⟩:=by simp [nmN,z3g a1]
     rw [hnn] at ez0 cz0
     repeat' (first|refine T.zk fun K hK=>?_|apply T.block|(refine T.reg (by kernel_rfl) fun K' hK'=>?_;simp only [bz];(with_reducible repeat' (first|(apply WL.fin;apply hK';clear hK' K')|(refine WL.step fun K2 hK2=>?_;simp only [simprocAttr,implies_true,amz,zf,tys,g1];repeat' (first|(apply hK2;clear hK2 K2)|apply And.intro|intro hb)))))|apply T.skip|apply T.exit|refine T.zh rfl ?_|refine T.zg rfl ?_|refine T.cond rfl (fun hc=>?_) (fun hc=>?_)|apply T.ret|simp only [ze,z8,reduceIte,Nat.reduceEqDiff]|((repeat ((fail_if_success apply hK);clear hK K));apply hK;clear hK K))
     refine T.drw 11 (by kernel_rfl) (by kernel_rfl) fun K' hK'=>?_;simp only [yl];(repeat' (first|(with_reducible refine WL.fin ?_;apply hK';clear hK' K')|(with_reducible refine WD.fin ?_)|((with_reducible first|refine WL.step fun K2 hK2=>?_|refine WD.step fun K2 hK2=>?_);simp only [simprocAttr,implies_true,amz,zf,tys,ez0,cz0,ez1,cz1,ez2,cz2,ez3,cz3];(repeat' (first|with_reducible (first|(apply hK2;clear hK2 K2)|apply And.intro|intro hb)|((with_reducible first|apply zl|apply zn);case h=>exact CallV.plain (Ent.of Tryz.func33 (by kernel_rfl) rfl) (hln) (by simp [AV.okB]))|((with_reducible refine ⟨_,CallR.read 1000001 hpG _ rfl rfl (Ent.of Tryz.func29 (by kernel_rfl) rfl) (hit) (z2P (by decide) (fun t o ho=>by obtain ⟨rfl,rfl⟩:=qZ ho;simp [zq])) ?_ ?_,?_⟩);(focus (simp [AV.okB];done));(focus rfl))|((with_reducible refine qg 2 _ _ [0] (Ent.of Tryz.func30 (by kernel_rfl) rfl) (w4) ?_ ?_ ?_);(focus ((refine ⟨Nat.le_of_ble_eq_true rfl,?_,?_⟩ <;> simp only [pz,reduceIte,Nat.reduceEqDiff,AV.okB,Nat.reduceLT,zH]);done));(focus (simp [AV.okB];done));rintro hp' r ⟨rfl,rfl⟩;refine ⟨by simp [Kept,zq,AO.handle],?_⟩;simp only [cz,ASt.qh,AO.keep,Nat.reduceLeDiff,reduceIte,Nat.reduceEqDiff,z2z]))))));all_goals ((try simp only [ze,z8,reduceIte,Nat.reduceEqDiff]);(try ((repeat ((fail_if_success apply hK);clear hK K));apply hK;clear hK K)))
     all_goals repeat' (first|refine T.zk fun K hK=>?_|apply T.block|(refine T.reg (by kernel_rfl) fun K' hK'=>?_;simp only [bz];(with_reducible repeat' (first|(apply WL.fin;apply hK';clear hK' K')|(refine WL.step fun K2 hK2=>?_;simp only [simprocAttr,implies_true,amz,zf,tys];repeat' (first|(apply hK2;clear hK2 K2)|apply And.intro|intro hb)))))|apply T.skip|apply T.exit|refine T.zh rfl ?_|refine T.zg rfl ?_|refine T.cond rfl (fun hc=>?_) (fun hc=>?_)|apply T.ret|simp only [ze,z8,reduceIte,Nat.reduceEqDiff]|((repeat ((fail_if_success apply hK);clear hK K));apply hK;clear hK K))
     all_goals (refine ⟨rfl,⟨[],hpT5 ({ t with cb:=c } : Tx) l (bs++z3.data.toList),55,2000000⟩,(by refine zi.of' rfl ?_;simp only [wks,reduceIte,Nat.reduceEqDiff,ASt.okB,AV.okB,Nat.reduceLT,implies_true,hpT5,hpT,zH]),rfl,(z01 ({ t with cb:=c } : Tx) l _ 1999999 (by omega)).none (Nat.le_refl _),rfl⟩)
    have g1:decide (0≤s.1)=true:=by simpa using a1
    by_cases a2:s.1<(t.fs.length:Int)
    ·have g2:decide (s.1<(t.fs.length:Int))=true:=by simpa using a2
     obtain ⟨f,hf,hf2⟩:=z4s (l:=t.fs) (i:=s.1) (by omega) a2
     have mf:=fu_at hf2
     have i1:(0≤s.1)=True:=eq_true (by omega)
     have hnn:nmN t.fs s=f.name:=by simp [nmN,hf]
     rw [hnn] at ez0 cz0
     repeat' (first|refine T.zk fun K hK=>?_|apply T.block|(refine T.reg (by kernel_rfl) fun K' hK'=>?_;simp only [bz];(with_reducible repeat' (first|(apply WL.fin;apply hK';clear hK' K')|(refine WL.step fun K2 hK2=>?_;simp only [simprocAttr,implies_true,amz,zf,tys,hfl,g1,g2,mf,i1,decide_true];repeat' (first|(apply hK2;clear hK2 K2)|apply And.intro|intro hb)))))|apply T.skip|apply T.exit|refine T.zh rfl ?_|refine T.zg rfl ?_|refine T.cond rfl (fun hc=>?_) (fun hc=>?_)|apply T.ret|simp only [ze,z8,reduceIte,Nat.reduceEqDiff]|((repeat ((fail_if_success apply hK);clear hK K));apply hK;clear hK K))
     refine T.drw 11 (by kernel_rfl) (by kernel_rfl) fun K' hK'=>?_;simp only [yl];(repeat' (first|(with_reducible refine WL.fin ?_;apply hK';clear hK' K')|(with_reducible refine WD.fin ?_)|((with_reducible first|refine WL.step fun K2 hK2=>?_|refine WD.step fun K2 hK2=>?_);simp only [simprocAttr,implies_true,amz,zf,tys,ez0,cz0,ez1,cz1,ez2,cz2,ez3,cz3];(repeat' (first|with_reducible (first|(apply hK2;clear hK2 K2)|apply And.intro|intro hb)|((with_reducible first|apply zl|apply zn);case h=>exact CallV.plain (Ent.of Tryz.func33 (by kernel_rfl) rfl) (hln) (by simp [AV.okB]))|((with_reducible refine ⟨_,CallR.read 1000001 hpG _ rfl rfl (Ent.of Tryz.func29 (by kernel_rfl) rfl) (hit) (z2P (by decide) (fun t o ho=>by obtain ⟨rfl,rfl⟩:=qZ ho;simp [zq])) ?_ ?_,?_⟩);(focus (simp [AV.okB];done));(focus rfl))|((with_reducible refine qg 2 _ _ [0] (Ent.of Tryz.func30 (by kernel_rfl) rfl) (w4) ?_ ?_ ?_);(focus ((refine ⟨Nat.le_of_ble_eq_true rfl,?_,?_⟩ <;> simp only [pz,reduceIte,Nat.reduceEqDiff,AV.okB,Nat.reduceLT,zH]);done));(focus (simp [AV.okB];done));rintro hp' r ⟨rfl,rfl⟩;refine ⟨by simp [Kept,zq,AO.handle],?_⟩;simp only [cz,ASt.qh,AO.keep,Nat.reduceLeDiff,reduceIte,Nat.reduceEqDiff,z2z]))))));all_goals ((try simp only [ze,z8,reduceIte,Nat.reduceEqDiff]);(try ((repeat ((fail_if_success apply hK);clear hK K));apply hK;clear hK K)))
     all_goals repeat' (first|refine T.zk fun K hK=>?_|apply T.block|(refine T.reg (by kernel_rfl) fun K' hK'=>?_;simp only [bz];(with_reducible repeat' (first|(apply WL.fin;apply hK';clear hK' K')|(refine WL.step fun K2 hK2=>?_;simp only [simprocAttr,implies_true,amz,zf,tys];repeat' (first|(apply hK2;clear hK2 K2)|apply And.intro|intro hb)))))|apply T.skip|apply T.exit|refine T.zh rfl ?_|refine T.zg rfl ?_|refine T.cond rfl (fun hc=>?_) (fun hc=>?_)|apply T.ret|simp only [ze,z8,reduceIte,Nat.reduceEqDiff]|((repeat ((fail_if_success apply hK);clear hK K));apply hK;clear hK K))
     all_goals (refine ⟨rfl,⟨[],hpT5 ({ t with cb:=c } : Tx) l (bs++z3.data.toList),55,2000000⟩,(by refine zi.of' rfl ?_;simp only [wks,reduceIte,Nat.reduceEqDiff,ASt.okB,AV.okB,Nat.reduceLT,implies_true,hpT5,hpT,zH]),rfl,(z01 ({ t with cb:=c } : Tx) l _ 1999999 (by omega)).none (Nat.le_refl _),rfl⟩)
    ·have g2:decide (s.1<(t.fs.length:Int))=false:=by simpa using a2
     have hnn:nmN t.fs s=⟨#[63]⟩:=by simp [nmN,z4t (Int.not_lt.1 a2)]
     rw [hnn] at ez0 cz0
     repeat' (first|refine T.zk fun K hK=>?_|apply T.block|(refine T.reg (by kernel_rfl) fun K' hK'=>?_;simp only [bz];(with_reducible repeat' (first|(apply WL.fin;apply hK';clear hK' K')|(refine WL.step fun K2 hK2=>?_;simp only [simprocAttr,implies_true,amz,zf,tys,hfl,g1,g2];repeat' (first|(apply hK2;clear hK2 K2)|apply And.intro|intro hb)))))|apply T.skip|apply T.exit|refine T.zh rfl ?_|refine T.zg rfl ?_|refine T.cond rfl (fun hc=>?_) (fun hc=>?_)|apply T.ret|simp only [ze,z8,reduceIte,Nat.reduceEqDiff]|((repeat ((fail_if_success apply hK);clear hK K));apply hK;clear hK K))
     refine T.drw 11 (by kernel_rfl) (by kernel_rfl) fun K' hK'=>?_;simp only [yl];(repeat' (first|(with_reducible refine WL.fin ?_;apply hK';clear hK' K')|(with_reducible refine WD.fin ?_)|((with_reducible first|refine WL.step fun K2 hK2=>?_|refine WD.step fun K2 hK2=>?_);simp only [simprocAttr,implies_true,amz,zf,tys,ez0,cz0,ez1,cz1,ez2,cz2,ez3,cz3];(repeat' (first|with_reducible (first|(apply hK2;clear hK2 K2)|apply And.intro|intro hb)|((with_reducible first|apply zl|apply zn);case h=>exact CallV.plain (Ent.of Tryz.func33 (by kernel_rfl) rfl) (hln) (by simp [AV.okB]))|((with_reducible refine ⟨_,CallR.read 1000001 hpG _ rfl rfl (Ent.of Tryz.func29 (by kernel_rfl) rfl) (hit) (z2P (by decide) (fun t o ho=>by obtain ⟨rfl,rfl⟩:=qZ ho;simp [zq])) ?_ ?_,?_⟩);(focus (simp [AV.okB];done));(focus rfl))|((with_reducible refine qg 2 _ _ [0] (Ent.of Tryz.func30 (by kernel_rfl) rfl) (w4) ?_ ?_ ?_);(focus ((refine ⟨Nat.le_of_ble_eq_true rfl,?_,?_⟩ <;> simp only [pz,reduceIte,Nat.reduceEqDiff,AV.okB,Nat.reduceLT,zH]);done));(focus (simp [AV.okB];done));rintro hp' r ⟨rfl,rfl⟩;refine ⟨by simp [Kept,zq,AO.handle],?_⟩;simp only [cz,ASt.qh,AO.keep,Nat.reduceLeDiff,reduceIte,Nat.reduceEqDiff,z2z]))))));all_goals ((try simp only [ze,z8,reduceIte,Nat.reduceEqDiff]);(try ((repeat ((fail_if_success apply hK);clear hK K));apply hK;clear hK K)))
     all_goals repeat' (first|refine T.zk fun K hK=>?_|apply T.block|(refine T.reg (by kernel_rfl) fun K' hK'=>?_;simp only [bz];(with_reducible repeat' (first|(apply WL.fin;apply hK';clear hK' K')|(refine WL.step fun K2 hK2=>?_;simp only [simprocAttr,implies_true,amz,zf,tys];repeat' (first|(apply hK2;clear hK2 K2)|apply And.intro|intro hb)))))|apply T.skip|apply T.exit|refine T.zh rfl ?_|refine T.zg rfl ?_|refine T.cond rfl (fun hc=>?_) (fun hc=>?_)|apply T.ret|simp only [ze,z8,reduceIte,Nat.reduceEqDiff]|((repeat ((fail_if_success apply hK);clear hK K));apply hK;clear hK K))
     all_goals (refine ⟨rfl,⟨[],hpT5 ({ t with cb:=c } : Tx) l (bs++z3.data.toList),55,2000000⟩,(by refine zi.of' rfl ?_;simp only [wks,reduceIte,Nat.reduceEqDiff,ASt.okB,AV.okB,Nat.reduceLT,implies_true,hpT5,hpT,zH]),rfl,(z01 ({ t with cb:=c } : Tx) l _ 1999999 (by omega)).none (Nat.le_refl _),rfl⟩)
   ·rintro hp3 rfl
    refine ⟨?_,?_,?_,rfl⟩
    ·intro x hx
     simp only [List.mem_cons,List.not_mem_nil,or_false] at hx
     rcases hx with rfl|rfl|rfl|rfl <;> simp [Kept,hpTY,hpT5,hpT,zq,AO.z2p]
    ·exact fun p hp=>AO.z1g .zy (Nat.le_refl _) ((z01 ({ t with cb:=c } : Tx) l _ 1999999 (by omega)).ok p hp).2
    ·rfl
  have hzl:z.data.toList.length=z.size:=by rw [Array.length_toList];rfl
  have hmem:=z5q lr sp ({ t with cb:=c } : Tx) l (bs++z.data.toList) hn hl hll (by rw [List.length_append];omega) hyld
  have hfc:=hfin c
  rw [← hz] at hfc
  rw [hfc] at hmem
  have hH:=z4y lr sp ({ t with cb:=c } : Tx) l (bs++z.data.toList)
  refine ⟨2000000,hpTY lr sp ({ t with cb:=c } : Tx) l (bs++z.data.toList),_,[0],hmem,?_,by simp [AV.okB,AV.qm],?_⟩
  ·have he:ASt.hp (ASt.add ⟨[(2,.ptr 0 0),(3,.ptr 2 0),(4,.ptr 3 0),(5,.ptr 4 0),(22,.fn (.func 50) [.ptr 5 0])],hpT5 ({ t with cb:=c } : Tx) l (bs++z.data.toList),55,1999999⟩ (.lrec lr sp [(2,.ptr 0 0),(3,.ptr 2 0),(4,.ptr 3 0),(5,.ptr 4 0)]))=hpTY lr sp ({ t with cb:=c } : Tx) l (bs++z.data.toList):=rfl
   refine ⟨Nat.le_refl _,fun p hp=>⟨?_,hH.ok p hp⟩,fun p hp _=>?_⟩
   ·rw [he];exact hH.one p hp
   ·rw [he] at hp;rw [hH.one p hp];rfl
  rintro hp' r ⟨rfl,rfl⟩
  refine ⟨fun x hx _=>?_,⟨_,rfl⟩,fun ob=>?_⟩
  ·rw [List.mem_singleton.1 hx]
   simp [Kept,hpTY,hpT5,hpT,zq,AO.handle]
  have hfl:List.filter (fun p=>decide (2000000≤p.1)) (hpTY lr sp ({ t with cb:=c } : Tx) l (bs++z.data.toList)) = []:=hH.le
  have hadd:(ASt.add ⟨[(2,.ptr 0 0),(3,.ptr 2 0),(4,.ptr 3 0),(5,.ptr 4 0),(22,.fn (.func 50) [.ptr 5 0])],hpT5 ({ t with cb:=c } : Tx) l (bs++z.data.toList),55,1999999⟩ (.lrec lr sp [(2,.ptr 0 0),(3,.ptr 2 0),(4,.ptr 3 0),(5,.ptr 4 0)]))=⟨[(2,.ptr 0 0),(3,.ptr 2 0),(4,.ptr 3 0),(5,.ptr 4 0),(22,.fn (.func 50) [.ptr 5 0])],hpTY lr sp ({ t with cb:=c } : Tx) l (bs++z.data.toList),55,2000000⟩:=rfl
  rw [hadd]
  simp only [ASt.qh,hfl,List.map_nil,List.append_nil,List.map_cons,zO,hpTY,hpT5,hpT,AV.z1c,AV.z0h,AV.z2c,List.mem_cons,List.not_mem_nil,or_false,or_true,true_or,reduceIte,Nat.reduceEqDiff,Nat.reduceLeDiff,false_or]
  (try simp only [ze,z8,reduceIte,Nat.reduceEqDiff]);(try ((repeat ((fail_if_success apply hK);clear hK K));apply hK;clear hK K))
  repeat' (first|refine T.zk fun K hK=>?_|apply T.block|(refine T.reg (by kernel_rfl) fun K' hK'=>?_;simp only [bz];(with_reducible repeat' (first|(apply WL.fin;apply hK';clear hK' K')|(refine WL.step fun K2 hK2=>?_;simp only [simprocAttr,implies_true,amz,zf,tys];repeat' (first|(apply hK2;clear hK2 K2)|apply And.intro|intro hb)))))|apply T.skip|apply T.exit|refine T.zh rfl ?_|refine T.zg rfl ?_|refine T.cond rfl (fun hc=>?_) (fun hc=>?_)|apply T.ret|simp only [ze,z8,reduceIte,Nat.reduceEqDiff]|((repeat ((fail_if_success apply hK);clear hK K));apply hK;clear hK K))
  refine FinM.ret (s':=⟨[],hpT t (bs++(accN t.fs t.st t.sz 2 l).data.toList),55,1000001⟩) (r := .tup []) (.inl rfl) Tryz.results31 (by refine zi.of' rfl ?_;simp only [wks,reduceIte,Nat.reduceEqDiff,ASt.okB,AV.okB,Nat.reduceLT,implies_true,hpT,zH,AV.qm,yl,List.filter_cons,List.filter_nil,Nat.reduceLeDiff,decide_true,decide_false,Bool.false_eq_true,List.append_nil,List.cons_append,List.nil_append]) rfl (by simp only [zI,zu]) ⟨rfl,rfl⟩
 have f2:(k==2)=false:=by simpa using k2
 have hwd:z7y k=⟨#[63]⟩:=by simp [z7y,k1,k2]
 have hhd:hdN k=(⟨#[32,32]⟩++⟨#[63]⟩)++⟨#[10]⟩:=by rw [hdN,hwd]
 obtain ⟨z,hz⟩ : ∃ z,z=hdN k:=⟨_,rfl⟩
 rw [← hz] at hhd
 have hzs:z.size≤20:=by rw [hz];exact hd_le _
 have c0:((⟨#[32,32]⟩ : ByteArray).size+(⟨#[63]⟩ : ByteArray).size≤9223372036854775807)=True:=eq_true (by decide)
 obtain ⟨z0,hz0⟩ : ∃ z0,z0=(⟨#[32,32]⟩ : ByteArray)++⟨#[63]⟩:=⟨_,rfl⟩
 rw [← hz0] at hhd
 have c1:(z0.size+(⟨#[10]⟩ : ByteArray).size≤9223372036854775807)=True:=eq_true (by have:=congrArg ByteArray.size hhd;rw [ByteArray.size_append] at this;omega)
 have hw:=z4T t.q (.ptr 0 0) bs z (.inr rfl) (by omega)
 have hbk:=z6U t l (bs++z.data.toList)
 simp only [hpB] at hw
 simp only [hpT] at hbk ⊢
 refine MemC.of Tryz.func31 rfl 55 rfl (by decide) ?_;simp only [z08,frOf]
 repeat' (first|refine T.zk fun K hK=>?_|apply T.block|(refine T.reg (by kernel_rfl) fun K' hK'=>?_;simp only [bz];(repeat' (first|(with_reducible refine WL.fin ?_;apply hK';clear hK' K')|((with_reducible refine WL.step fun K2 hK2=>?_);simp only [simprocAttr,implies_true,amz,zf,tys,f1,f2,c0,← hz0,c1,← hhd];(repeat' (first|with_reducible (first|(apply hK2;clear hK2 K2)|apply And.intro|intro hb)|((with_reducible refine qg 2 _ _ [0] (Ent.of Tryz.func30 (by kernel_rfl) rfl) (hw) ?_ ?_ ?_);(focus ((refine ⟨Nat.le_of_ble_eq_true rfl,?_,?_⟩ <;> simp only [pz,reduceIte,Nat.reduceEqDiff,AV.okB,Nat.reduceLT,zH]);done));(focus (simp [AV.okB];done));rintro hp' r ⟨rfl,rfl⟩;refine ⟨by simp [Kept,zq,AO.handle],?_⟩;simp only [cz,ASt.qh,AO.keep,Nat.reduceLeDiff,reduceIte,Nat.reduceEqDiff,z2z])|((with_reducible refine qg 1000001 _ _ [0,2,3,4] (Ent.of Tryz.func32 (by kernel_rfl) rfl) (hbk) ?_ ?_ ?_);(focus ((refine ⟨Nat.le_of_ble_eq_true rfl,?_,?_⟩ <;> simp only [pz,reduceIte,Nat.reduceEqDiff,AV.okB,Nat.reduceLT,zH,AV.qm]);done));(focus (simp [AV.okB];done));rintro hp' r ⟨⟨c,rfl⟩,rfl⟩;refine ⟨by simp [Kept,hpT5,hpT,zq,AO.handle],?_⟩;simp only [hpT5,hpT];simp only [cz,ASt.qh,AO.keep,Nat.reduceLeDiff,reduceIte,Nat.reduceEqDiff,])))))))|apply T.skip|apply T.exit|refine T.zh rfl ?_|refine T.zg rfl ?_|refine T.cond rfl (fun hc=>?_) (fun hc=>?_)|apply T.ret|simp only [ze,z8,reduceIte,Nat.reduceEqDiff]|((repeat ((fail_if_success apply hK);clear hK K));apply hK;clear hK K))
 refine T.weak (s':=⟨[(2,.ptr 0 0),(3,.ptr 2 0),(4,.ptr 3 0),(5,.ptr 4 0),(22,.fn (.func 50) [.ptr 5 0])],hpT5 ({ t with cb:=c } : Tx) l (bs++z.data.toList),55,1999999⟩) ?_ ?_
 ·refine zi.frm _ _ _ _ (fun t=>?_) (by simp only [wks,reduceIte,Nat.reduceEqDiff,implies_true,and_self,AV.qm]) (by simp only [wks,AV.okB,Nat.reduceLT,decide_true,List.all_cons,List.all_nil,Bool.and_self,AV.qm]) ?_
  ·simp only [hpT5,hpT,zq,qp]
   repeat' split
   all_goals first|rfl|omega
  ·exact fun t' o h=>(z01 ({ t with cb:=c } : Tx) l _ 1999999 (by omega)).at' h
 refine T.z5R 50 [.ptr 5 0] [(2,.ptr 0 0),(3,.ptr 2 0),(4,.ptr 3 0),(5,.ptr 4 0)] rfl (Ent.of Tryz.func50 (by kernel_rfl) rfl) (by simp [z5b,zq]) fun lr sp hsn hsp hsa hsb=>?_
 have hyld : ∀ bs (p:Nat) (s:P2),l[p]? = some s→bs.length≤4000000000→YldC Tryz.prog lr 2000000 (hpTY lr sp ({ t with cb:=c } : Tx) l bs) [.int p,.agg [.int s.1,.int s.2]] fun hp' r=>hp' = hpTY lr sp ({ t with cb:=c } : Tx) l (bs++(entN t.fs t.st t.sz s).data.toList)∧r = .bool true:=by
  intro bs p s hs hbl
  refine YldC.of 1999999 [0,2,3,4] (fun hp3=>hp3=hpT5 ({ t with cb:=c } : Tx) l (bs++(entN t.fs t.st t.sz s).data.toList)) (sp:=sp) (fr := [(2,.ptr 0 0),(3,.ptr 2 0),(4,.ptr 3 0),(5,.ptr 4 0)]) rfl (by rw [hsp];rfl) (by rw [hsp,hsn];simp) (by simp [AV.z0h]) ?_ ?_ (by simp [AV.zT,AV.okB])
  ·have hfil:(hpTY lr sp ({ t with cb:=c } : Tx) l bs).filter (fun p=>p.1 != 1999999)=hpT5 ({ t with cb:=c } : Tx) l bs:=by
    rw [hpTY,List.filter_cons,if_neg (by simp)]
    exact List.filter_eq_self.2 fun p hp=>by have:=((z01 ({ t with cb:=c } : Tx) l bs 1999999 (by omega)).ok p hp).1;simp;omega
   rw [hsa,hsb,hsp,hsn,hfil]
   have hfl:(t.fs.map fuC).length=t.fs.length:=by simp
   have hln:=z7i t.fs t.g t.y t.mn t.st t.sz s hl
   simp only [pgA,lnA,p2A] at hln
   obtain ⟨n1,n2⟩:=z2q t.fs t.st t.sz s hl
   have hit:=z8G (x:=z0d t.fs t.st t.sz s) (by omega) (by omega)
   have hdl:=z4V (x:=z0d t.fs t.st t.sz s) (by omega) (by omega)
   have hnm:=z81 hn s
   have e1:(⟨#[32,32,32,32]⟩ : ByteArray).size=4:=rfl
   have e2:(⟨#[58]⟩ : ByteArray).size=1:=rfl
   have e3:(⟨#[10]⟩ : ByteArray).size=1:=rfl
   obtain ⟨z0,ez0⟩ : ∃ z9:ByteArray,(⟨#[32,32,32,32]⟩ : ByteArray)++nmN t.fs s=z9:=⟨_,rfl⟩
   have bz0:z0.size=((⟨#[32,32,32,32]⟩ : ByteArray)).size+(nmN t.fs s).size:=by rw [← ez0,ByteArray.size_append]
   have cz0:(((⟨#[32,32,32,32]⟩ : ByteArray)).size+(nmN t.fs s).size≤9223372036854775807)=True:=eq_true (by omega)
   obtain ⟨z1,ez1⟩ : ∃ z9:ByteArray,z0++(⟨#[58]⟩ : ByteArray)=z9:=⟨_,rfl⟩
   have bz1:z1.size=(z0).size+((⟨#[58]⟩ : ByteArray)).size:=by rw [← ez1,ByteArray.size_append]
   have cz1:((z0).size+((⟨#[58]⟩ : ByteArray)).size≤9223372036854775807)=True:=eq_true (by omega)
   obtain ⟨z2,ez2⟩ : ∃ z9:ByteArray,z1++dI (z0d t.fs t.st t.sz s)=z9:=⟨_,rfl⟩
   have bz2:z2.size=(z1).size+(dI (z0d t.fs t.st t.sz s)).size:=by rw [← ez2,ByteArray.size_append]
   have cz2:((z1).size+(dI (z0d t.fs t.st t.sz s)).size≤9223372036854775807)=True:=eq_true (by omega)
   obtain ⟨z3,ez3⟩ : ∃ z9:ByteArray,z2++(⟨#[10]⟩ : ByteArray)=z9:=⟨_,rfl⟩
   have bz3:z3.size=(z2).size+((⟨#[10]⟩ : ByteArray)).size:=by rw [← ez3,ByteArray.size_append]
   have cz3:((z2).size+((⟨#[10]⟩ : ByteArray)).size≤9223372036854775807)=True:=eq_true (by omega)
   have hres:entN t.fs t.st t.sz s=z3:=by rw [entN,ez0,ez1,ez2,ez3]
   have hz3:z3.size≤1048700:=by rw [← hres];exact z7L hn t.st t.sz s hl
   have w4:=z4T t.q (.ptr 0 0) bs z3 (.inr rfl) (by omega)
   rw [hres]
   simp only [hpB] at w4
   simp only [z6m,hpT5,hpT]
   by_cases a1:s.1<0
   ·have g1:decide (0≤s.1)=false:=by simpa using a1
    have hnn:nmN t.fs s=⟨#[63]⟩:=by simp [nmN,z3g a1]
    rw [hnn] at ez0 cz0
    repeat' (first|refine T.zk fun K hK=>?_|apply T.block|(refine T.reg (by kernel_rfl) fun K' hK'=>?_;simp only [bz];(with_reducible repeat' (first|(apply WL.fin;apply hK';clear hK' K')|(refine WL.step fun K2 hK2=>?_;simp only [simprocAttr,implies_true,amz,zf,tys,g1];repeat' (first|(apply hK2;clear hK2 K2)|apply And.intro|intro hb)))))|apply T.skip|apply T.exit|refine T.zh rfl ?_|refine T.zg rfl ?_|refine T.cond rfl (fun hc=>?_) (fun hc=>?_)|apply T.ret|simp only [ze,z8,reduceIte,Nat.reduceEqDiff]|((repeat ((fail_if_success apply hK);clear hK K));apply hK;clear hK K))
    refine T.drw 11 (by kernel_rfl) (by kernel_rfl) fun K' hK'=>?_;simp only [yl];(repeat' (first|(with_reducible refine WL.fin ?_;apply hK';clear hK' K')|(with_reducible refine WD.fin ?_)|((with_reducible first|refine WL.step fun K2 hK2=>?_|refine WD.step fun K2 hK2=>?_);simp only [simprocAttr,implies_true,amz,zf,tys,ez0,cz0,ez1,cz1,ez2,cz2,ez3,cz3];(repeat' (first|with_reducible (first|(apply hK2;clear hK2 K2)|apply And.intro|intro hb)|((with_reducible first|apply zl|apply zn);case h=>exact CallV.plain (Ent.of Tryz.func33 (by kernel_rfl) rfl) (hln) (by simp [AV.okB]))|((with_reducible refine ⟨_,CallR.read 1000001 hpG _ rfl rfl (Ent.of Tryz.func29 (by kernel_rfl) rfl) (hit) (z2P (by decide) (fun t o ho=>by obtain ⟨rfl,rfl⟩:=qZ ho;simp [zq])) ?_ ?_,?_⟩);(focus (simp [AV.okB];done));(focus rfl))|((with_reducible refine qg 2 _ _ [0] (Ent.of Tryz.func30 (by kernel_rfl) rfl) (w4) ?_ ?_ ?_);(focus ((refine ⟨Nat.le_of_ble_eq_true rfl,?_,?_⟩ <;> simp only [pz,reduceIte,Nat.reduceEqDiff,AV.okB,Nat.reduceLT,zH]);done));(focus (simp [AV.okB];done));rintro hp' r ⟨rfl,rfl⟩;refine ⟨by simp [Kept,zq,AO.handle],?_⟩;simp only [cz,ASt.qh,AO.keep,Nat.reduceLeDiff,reduceIte,Nat.reduceEqDiff,z2z]))))));all_goals ((try simp only [ze,z8,reduceIte,Nat.reduceEqDiff]);(try ((repeat ((fail_if_success apply hK);clear hK K));apply hK;clear hK K)))
    all_goals repeat' (first|refine T.zk fun K hK=>?_|apply T.block|(refine T.reg (by kernel_rfl) fun K' hK'=>?_;simp only [bz];(with_reducible repeat' (first|(apply WL.fin;apply hK';clear hK' K')|(refine WL.step fun K2 hK2=>?_;simp only [simprocAttr,implies_true,amz,zf,tys];repeat' (first|(apply hK2;clear hK2 K2)|apply And.intro|intro hb)))))|apply T.skip|apply T.exit|refine T.zh rfl ?_|refine T.zg rfl ?_|refine T.cond rfl (fun hc=>?_) (fun hc=>?_)|apply T.ret|simp only [ze,z8,reduceIte,Nat.reduceEqDiff]|((repeat ((fail_if_success apply hK);clear hK K));apply hK;clear hK K))
    all_goals (refine ⟨rfl,⟨[],hpT5 ({ t with cb:=c } : Tx) l (bs++z3.data.toList),55,2000000⟩,(by refine zi.of' rfl ?_;simp only [wks,reduceIte,Nat.reduceEqDiff,ASt.okB,AV.okB,Nat.reduceLT,implies_true,hpT5,hpT,zH]),rfl,(z01 ({ t with cb:=c } : Tx) l _ 1999999 (by omega)).none (Nat.le_refl _),rfl⟩)
   have g1:decide (0≤s.1)=true:=by simpa using a1
   by_cases a2:s.1<(t.fs.length:Int)
   ·have g2:decide (s.1<(t.fs.length:Int))=true:=by simpa using a2
    obtain ⟨f,hf,hf2⟩:=z4s (l:=t.fs) (i:=s.1) (by omega) a2
    have mf:=fu_at hf2
    have i1:(0≤s.1)=True:=eq_true (by omega)
    have hnn:nmN t.fs s=f.name:=by simp [nmN,hf]
    rw [hnn] at ez0 cz0
    repeat' (first|refine T.zk fun K hK=>?_|apply T.block|(refine T.reg (by kernel_rfl) fun K' hK'=>?_;simp only [bz];(with_reducible repeat' (first|(apply WL.fin;apply hK';clear hK' K')|(refine WL.step fun K2 hK2=>?_;simp only [simprocAttr,implies_true,amz,zf,tys,hfl,g1,g2,mf,i1,decide_true];repeat' (first|(apply hK2;clear hK2 K2)|apply And.intro|intro hb)))))|apply T.skip|apply T.exit|refine T.zh rfl ?_|refine T.zg rfl ?_|refine T.cond rfl (fun hc=>?_) (fun hc=>?_)|apply T.ret|simp only [ze,z8,reduceIte,Nat.reduceEqDiff]|((repeat ((fail_if_success apply hK);clear hK K));apply hK;clear hK K))
    refine T.drw 11 (by kernel_rfl) (by kernel_rfl) fun K' hK'=>?_;simp only [yl];(repeat' (first|(with_reducible refine WL.fin ?_;apply hK';clear hK' K')|(with_reducible refine WD.fin ?_)|((with_reducible first|refine WL.step fun K2 hK2=>?_|refine WD.step fun K2 hK2=>?_);simp only [simprocAttr,implies_true,amz,zf,tys,ez0,cz0,ez1,cz1,ez2,cz2,ez3,cz3];(repeat' (first|with_reducible (first|(apply hK2;clear hK2 K2)|apply And.intro|intro hb)|((with_reducible first|apply zl|apply zn);case h=>exact CallV.plain (Ent.of Tryz.func33 (by kernel_rfl) rfl) (hln) (by simp [AV.okB]))|((with_reducible refine ⟨_,CallR.read 1000001 hpG _ rfl rfl (Ent.of Tryz.func29 (by kernel_rfl) rfl) (hit) (z2P (by decide) (fun t o ho=>by obtain ⟨rfl,rfl⟩:=qZ ho;simp [zq])) ?_ ?_,?_⟩);(focus (simp [AV.okB];done));(focus rfl))|((with_reducible refine qg 2 _ _ [0] (Ent.of Tryz.func30 (by kernel_rfl) rfl) (w4) ?_ ?_ ?_);(focus ((refine ⟨Nat.le_of_ble_eq_true rfl,?_,?_⟩ <;> simp only [pz,reduceIte,Nat.reduceEqDiff,AV.okB,Nat.reduceLT,zH]);done));(focus (simp [AV.okB];done));rintro hp' r ⟨rfl,rfl⟩;refine ⟨by simp [Kept,zq,AO.handle],?_⟩;simp only [cz,ASt.qh,AO.keep,Nat.reduceLeDiff,reduceIte,Nat.reduceEqDiff,z2z]))))));all_goals ((try simp only [ze,z8,reduceIte,Nat.reduceEqDiff]);(try ((repeat ((fail_if_success apply hK);clear hK K));apply hK;clear hK K)))
    all_goals repeat' (first|refine T.zk fun K hK=>?_|apply T.block|(refine T.reg (by kernel_rfl) fun K' hK'=>?_;simp only [bz];(with_reducible repeat' (first|(apply WL.fin;apply hK';clear hK' K')|(refine WL.step fun K2 hK2=>?_;simp only [simprocAttr,implies_true,amz,zf,tys];repeat' (first|(apply hK2;clear hK2 K2)|apply And.intro|intro hb)))))|apply T.skip|apply T.exit|refine T.zh rfl ?_|refine T.zg rfl ?_|refine T.cond rfl (fun hc=>?_) (fun hc=>?_)|apply T.ret|simp only [ze,z8,reduceIte,Nat.reduceEqDiff]|((repeat ((fail_if_success apply hK);clear hK K));apply hK;clear hK K))
    all_goals (refine ⟨rfl,⟨[],hpT5 ({ t with cb:=c } : Tx) l (bs++z3.data.toList),55,2000000⟩,(by refine zi.of' rfl ?_;simp only [wks,reduceIte,Nat.reduceEqDiff,ASt.okB,AV.okB,Nat.reduceLT,implies_true,hpT5,hpT,zH]),rfl,(z01 ({ t with cb:=c } : Tx) l _ 1999999 (by omega)).none (Nat.le_refl _),rfl⟩)
   ·have g2:decide (s.1<(t.fs.length:Int))=false:=by simpa using a2
    have hnn:nmN t.fs s=⟨#[63]⟩:=by simp [nmN,z4t (Int.not_lt.1 a2)]
    rw [hnn] at ez0 cz0
    repeat' (first|refine T.zk fun K hK=>?_|apply T.block|(refine T.reg (by kernel_rfl) fun K' hK'=>?_;simp only [bz];(with_reducible repeat' (first|(apply WL.fin;apply hK';clear hK' K')|(refine WL.step fun K2 hK2=>?_;simp only [simprocAttr,implies_true,amz,zf,tys,hfl,g1,g2];repeat' (first|(apply hK2;clear hK2 K2)|apply And.intro|intro hb)))))|apply T.skip|apply T.exit|refine T.zh rfl ?_|refine T.zg rfl ?_|refine T.cond rfl (fun hc=>?_) (fun hc=>?_)|apply T.ret|simp only [ze,z8,reduceIte,Nat.reduceEqDiff]|((repeat ((fail_if_success apply hK);clear hK K));apply hK;clear hK K))
    refine T.drw 11 (by kernel_rfl) (by kernel_rfl) fun K' hK'=>?_;simp only [yl];(repeat' (first|(with_reducible refine WL.fin ?_;apply hK';clear hK' K')|(with_reducible refine WD.fin ?_)|((with_reducible first|refine WL.step fun K2 hK2=>?_|refine WD.step fun K2 hK2=>?_);simp only [simprocAttr,implies_true,amz,zf,tys,ez0,cz0,ez1,cz1,ez2,cz2,ez3,cz3];(repeat' (first|with_reducible (first|(apply hK2;clear hK2 K2)|apply And.intro|intro hb)|((with_reducible first|apply zl|apply zn);case h=>exact CallV.plain (Ent.of Tryz.func33 (by kernel_rfl) rfl) (hln) (by simp [AV.okB]))|((with_reducible refine ⟨_,CallR.read 1000001 hpG _ rfl rfl (Ent.of Tryz.func29 (by kernel_rfl) rfl) (hit) (z2P (by decide) (fun t o ho=>by obtain ⟨rfl,rfl⟩:=qZ ho;simp [zq])) ?_ ?_,?_⟩);(focus (simp [AV.okB];done));(focus rfl))|((with_reducible refine qg 2 _ _ [0] (Ent.of Tryz.func30 (by kernel_rfl) rfl) (w4) ?_ ?_ ?_);(focus ((refine ⟨Nat.le_of_ble_eq_true rfl,?_,?_⟩ <;> simp only [pz,reduceIte,Nat.reduceEqDiff,AV.okB,Nat.reduceLT,zH]);done));(focus (simp [AV.okB];done));rintro hp' r ⟨rfl,rfl⟩;refine ⟨by simp [Kept,zq,AO.handle],?_⟩;simp only [cz,ASt.qh,AO.keep,Nat.reduceLeDiff,reduceIte,Nat.reduceEqDiff,z2z]))))));all_goals ((try simp only [ze,z8,reduceIte,Nat.reduceEqDiff]);(try ((repeat ((fail_if_success apply hK);clear hK K));apply hK;clear hK K)))
    all_goals repeat' (first|refine T.zk fun K hK=>?_|apply T.block|(refine T.reg (by kernel_rfl) fun K' hK'=>?_;simp only [bz];(with_reducible repeat' (first|(apply WL.fin;apply hK';clear hK' K')|(refine WL.step fun K2 hK2=>?_;simp only [simprocAttr,implies_true,amz,zf,tys];repeat' (first|(apply hK2;clear hK2 K2)|apply And.intro|intro hb)))))|apply T.skip|apply T.exit|refine T.zh rfl ?_|refine T.zg rfl ?_|refine T.cond rfl (fun hc=>?_) (fun hc=>?_)|apply T.ret|simp only [ze,z8,reduceIte,Nat.reduceEqDiff]|((repeat ((fail_if_success apply hK);clear hK K));apply hK;clear hK K))
    all_goals (refine ⟨rfl,⟨[],hpT5 ({ t with cb:=c } : Tx) l (bs++z3.data.toList),55,2000000⟩,(by refine zi.of' rfl ?_;simp only [wks,reduceIte,Nat.reduceEqDiff,ASt.okB,AV.okB,Nat.reduceLT,implies_true,hpT5,hpT,zH]),rfl,(z01 ({ t with cb:=c } : Tx) l _ 1999999 (by omega)).none (Nat.le_refl _),rfl⟩)
  ·rintro hp3 rfl
   refine ⟨?_,?_,?_,rfl⟩
   ·intro x hx
    simp only [List.mem_cons,List.not_mem_nil,or_false] at hx
    rcases hx with rfl|rfl|rfl|rfl <;> simp [Kept,hpTY,hpT5,hpT,zq,AO.z2p]
   ·exact fun p hp=>AO.z1g .zy (Nat.le_refl _) ((z01 ({ t with cb:=c } : Tx) l _ 1999999 (by omega)).ok p hp).2
   ·rfl
 have hzl:z.data.toList.length=z.size:=by rw [Array.length_toList];rfl
 have hmem:=z5q lr sp ({ t with cb:=c } : Tx) l (bs++z.data.toList) hn hl hll (by rw [List.length_append];omega) hyld
 have hfc:=hfin c
 rw [← hz] at hfc
 rw [hfc] at hmem
 have hH:=z4y lr sp ({ t with cb:=c } : Tx) l (bs++z.data.toList)
 refine ⟨2000000,hpTY lr sp ({ t with cb:=c } : Tx) l (bs++z.data.toList),_,[0],hmem,?_,by simp [AV.okB,AV.qm],?_⟩
 ·have he:ASt.hp (ASt.add ⟨[(2,.ptr 0 0),(3,.ptr 2 0),(4,.ptr 3 0),(5,.ptr 4 0),(22,.fn (.func 50) [.ptr 5 0])],hpT5 ({ t with cb:=c } : Tx) l (bs++z.data.toList),55,1999999⟩ (.lrec lr sp [(2,.ptr 0 0),(3,.ptr 2 0),(4,.ptr 3 0),(5,.ptr 4 0)]))=hpTY lr sp ({ t with cb:=c } : Tx) l (bs++z.data.toList):=rfl
  refine ⟨Nat.le_refl _,fun p hp=>⟨?_,hH.ok p hp⟩,fun p hp _=>?_⟩
  ·rw [he];exact hH.one p hp
  ·rw [he] at hp;rw [hH.one p hp];rfl
 rintro hp' r ⟨rfl,rfl⟩
 refine ⟨fun x hx _=>?_,⟨_,rfl⟩,fun ob=>?_⟩
 ·rw [List.mem_singleton.1 hx]
  simp [Kept,hpTY,hpT5,hpT,zq,AO.handle]
 have hfl:List.filter (fun p=>decide (2000000≤p.1)) (hpTY lr sp ({ t with cb:=c } : Tx) l (bs++z.data.toList)) = []:=hH.le
 have hadd:(ASt.add ⟨[(2,.ptr 0 0),(3,.ptr 2 0),(4,.ptr 3 0),(5,.ptr 4 0),(22,.fn (.func 50) [.ptr 5 0])],hpT5 ({ t with cb:=c } : Tx) l (bs++z.data.toList),55,1999999⟩ (.lrec lr sp [(2,.ptr 0 0),(3,.ptr 2 0),(4,.ptr 3 0),(5,.ptr 4 0)]))=⟨[(2,.ptr 0 0),(3,.ptr 2 0),(4,.ptr 3 0),(5,.ptr 4 0),(22,.fn (.func 50) [.ptr 5 0])],hpTY lr sp ({ t with cb:=c } : Tx) l (bs++z.data.toList),55,2000000⟩:=rfl
 rw [hadd]
 simp only [ASt.qh,hfl,List.map_nil,List.append_nil,List.map_cons,zO,hpTY,hpT5,hpT,AV.z1c,AV.z0h,AV.z2c,List.mem_cons,List.not_mem_nil,or_false,or_true,true_or,reduceIte,Nat.reduceEqDiff,Nat.reduceLeDiff,false_or]
 (try simp only [ze,z8,reduceIte,Nat.reduceEqDiff]);(try ((repeat ((fail_if_success apply hK);clear hK K));apply hK;clear hK K))
 repeat' (first|refine T.zk fun K hK=>?_|apply T.block|(refine T.reg (by kernel_rfl) fun K' hK'=>?_;simp only [bz];(with_reducible repeat' (first|(apply WL.fin;apply hK';clear hK' K')|(refine WL.step fun K2 hK2=>?_;simp only [simprocAttr,implies_true,amz,zf,tys];repeat' (first|(apply hK2;clear hK2 K2)|apply And.intro|intro hb)))))|apply T.skip|apply T.exit|refine T.zh rfl ?_|refine T.zg rfl ?_|refine T.cond rfl (fun hc=>?_) (fun hc=>?_)|apply T.ret|simp only [ze,z8,reduceIte,Nat.reduceEqDiff]|((repeat ((fail_if_success apply hK);clear hK K));apply hK;clear hK K))
 refine FinM.ret (s':=⟨[],hpT t (bs++(accN t.fs t.st t.sz k l).data.toList),55,1000001⟩) (r := .tup []) (.inl rfl) Tryz.results31 (by refine zi.of' rfl ?_;simp only [wks,reduceIte,Nat.reduceEqDiff,ASt.okB,AV.okB,Nat.reduceLT,implies_true,hpT,zH,AV.qm,yl,List.filter_cons,List.filter_nil,Nat.reduceLeDiff,decide_true,decide_false,Bool.false_eq_true,List.append_nil,List.cons_append,List.nil_append]) rfl (by simp only [zI,zu]) ⟨rfl,rfl⟩
end Go.Proofs.YtbkkginjfnjffaaGreatDoor
namespace Go.Proofs.YtbkkginjfnjffaaGreatDoor
open Go.RowKit Go.Sort
theorem hed_le {r:Rep} (h:RepW r):(hedN r).size≤100:=by
 have h1:=z4V h.obj.1 h.obj.2
 have h2:=z4V h.off.1 h.off.2
 have h3:=z4V h.cnt.1 h.cnt.2
 unfold hedN
 simp only [ByteArray.size_append]
 have e1:(⟨#[114,97,99,101,32]⟩ : ByteArray).size=5:=rfl
 have e2:(⟨#[46]⟩ : ByteArray).size=1:=rfl
 have e3:(⟨#[32]⟩ : ByteArray).size=1:=rfl
 have e4:(⟨#[10]⟩ : ByteArray).size=1:=rfl
 omega
end Go.Proofs.YtbkkginjfnjffaaGreatDoor
namespace Go.Proofs.YtbkkginjfnjffaaGreatDoor
open Go.RowKit Go.Sort Go.Maps
theorem z8w:z0t [] = []:=rfl
theorem txt_bytes (fs:List Fu) (st:List Int) (sz:Int) (r:Rep):(⟨(((hedN r).data.toList++(accN fs st sz r.k1 r.s1).data.toList)++(accN fs st sz r.k2 r.s2).data.toList).toArray⟩ : ByteArray)=txtN fs st sz r:=by
 apply z6f
 unfold txtN
 rw [z1V,z1V]
theorem z7U (z:ByteArray):z.data.toList.length=z.size:=by rw [Array.length_toList];rfl
theorem textP_mem (fs:List Fu) (g y:PV) (mn:Int) (st:List Int) (sz:Int) (r:Rep) (hn:NmOk fs) (hl:st.length≤1000000) (h1:r.s1.length≤1000) (h2:r.s2.length≤1000) (hw:RepW r) :
  MemC Tryz.prog 9 1000001 hpG [pgA fs g y mn,lnA st sz,repA r] fun hp' r'=>hp' = hpG∧r' = .p (.val (.string (txtN fs st sz r))):=by
 have i1:=z8G hw.obj.1 hw.obj.2
 have i2:=z8G hw.off.1 hw.off.2
 have i3:=z8G hw.cnt.1 hw.cnt.2
 have q1:=z4V hw.obj.1 hw.obj.2
 have q2:=z4V hw.off.1 hw.off.2
 have q3:=z4V hw.cnt.1 hw.cnt.2
 have b1:=acc_le hn st sz hl r.k1 r.s1
 have hh:=hed_le hw
 have n1:(⟨#[114,97,99,101,32]⟩ : ByteArray).size=5:=rfl
 have n2:(⟨#[46]⟩ : ByteArray).size=1:=rfl
 have n3:(⟨#[32]⟩ : ByteArray).size=1:=rfl
 have n4:(⟨#[10]⟩ : ByteArray).size=1:=rfl
 have m1:r.s1.length*1048700≤1000*1048700:=Nat.mul_le_mul_right _ h1
 obtain ⟨t0,et0⟩ : ∃ z9:ByteArray,(⟨#[114,97,99,101,32]⟩ : ByteArray)++dI r.obj=z9:=⟨_,rfl⟩
 have bt0:t0.size=((⟨#[114,97,99,101,32]⟩ : ByteArray)).size+(dI r.obj).size:=by rw [← et0,ByteArray.size_append]
 have ct0:(((⟨#[114,97,99,101,32]⟩ : ByteArray)).size+(dI r.obj).size≤9223372036854775807)=True:=eq_true (by omega)
 obtain ⟨t1,et1⟩ : ∃ z9:ByteArray,t0++(⟨#[46]⟩ : ByteArray)=z9:=⟨_,rfl⟩
 have bt1:t1.size=(t0).size+((⟨#[46]⟩ : ByteArray)).size:=by rw [← et1,ByteArray.size_append]
 have ct1:((t0).size+((⟨#[46]⟩ : ByteArray)).size≤9223372036854775807)=True:=eq_true (by omega)
 obtain ⟨t2,et2⟩ : ∃ z9:ByteArray,t1++dI r.off=z9:=⟨_,rfl⟩
 have bt2:t2.size=(t1).size+(dI r.off).size:=by rw [← et2,ByteArray.size_append]
 have ct2:((t1).size+(dI r.off).size≤9223372036854775807)=True:=eq_true (by omega)
 obtain ⟨t3,et3⟩ : ∃ z9:ByteArray,t2++(⟨#[32]⟩ : ByteArray)=z9:=⟨_,rfl⟩
 have bt3:t3.size=(t2).size+((⟨#[32]⟩ : ByteArray)).size:=by rw [← et3,ByteArray.size_append]
 have ct3:((t2).size+((⟨#[32]⟩ : ByteArray)).size≤9223372036854775807)=True:=eq_true (by omega)
 obtain ⟨t4,et4⟩ : ∃ z9:ByteArray,t3++dI r.cnt=z9:=⟨_,rfl⟩
 have bt4:t4.size=(t3).size+(dI r.cnt).size:=by rw [← et4,ByteArray.size_append]
 have ct4:((t3).size+(dI r.cnt).size≤9223372036854775807)=True:=eq_true (by omega)
 obtain ⟨t5,et5⟩ : ∃ z9:ByteArray,t4++(⟨#[10]⟩ : ByteArray)=z9:=⟨_,rfl⟩
 have bt5:t5.size=(t4).size+((⟨#[10]⟩ : ByteArray)).size:=by rw [← et5,ByteArray.size_append]
 have ct5:((t4).size+((⟨#[10]⟩ : ByteArray)).size≤9223372036854775807)=True:=eq_true (by omega)
 have hhd:hedN r=t5:=by rw [hedN,et0,et1,et2,et3,et4,et5]
 have hfin:=txt_bytes fs st sz r
 have hlh:=z7U (hedN r)
 have hla:=z7U (accN fs st sz r.k1 r.s1)
 have hne:(((hedN r).data.toList++(accN fs st sz r.k1 r.s1).data.toList)++(accN fs st sz r.k2 r.s2).data.toList) ≠ []:=by
  intro h
  have h3:=congrArg List.length h
  rw [List.length_append,List.length_append,hlh,hhd] at h3
  simp only [List.length_nil] at h3
  omega
 simp only [pgA,lnA,repA,repC,hpG,yl]
 refine MemC.of Tryz.func9 rfl 43 rfl (by decide) ?_;simp only [z08,frOf]
 repeat' (first|refine T.zk fun K hK=>?_|apply T.block|apply T.skip|apply T.exit|refine T.zh rfl ?_|refine T.zg rfl ?_|refine T.cond rfl (fun hc=>?_) (fun hc=>?_)|apply T.ret|simp only [ze,z8,reduceIte,Nat.reduceEqDiff]|((repeat ((fail_if_success apply hK);clear hK K));apply hK;clear hK K))
 (refine T.reg (by kernel_rfl) fun K' hK'=>?_;simp only [bz];(with_reducible repeat' (first|(apply WL.fin;apply hK';clear hK' K')|(refine WL.step fun K2 hK2=>?_;simp only [simprocAttr,implies_true,amz,zf,tys];repeat' (first|(apply hK2;clear hK2 K2)|apply And.intro|intro hb))));all_goals ((try simp only [ze,z8,reduceIte,Nat.reduceEqDiff]);(try ((repeat ((fail_if_success apply hK);clear hK K));apply hK;clear hK K))))
 repeat' (first|refine T.zk fun K hK=>?_|apply T.block|apply T.skip|apply T.exit|refine T.zh rfl ?_|refine T.zg rfl ?_|refine T.cond rfl (fun hc=>?_) (fun hc=>?_)|apply T.ret|simp only [ze,z8,reduceIte,Nat.reduceEqDiff]|((repeat ((fail_if_success apply hK);clear hK K));apply hK;clear hK K))
 (refine T.reg (by kernel_rfl) fun K' hK'=>?_;simp only [bz];(with_reducible repeat' (first|(apply WL.fin;apply hK';clear hK' K')|(refine WL.step fun K2 hK2=>?_;simp only [simprocAttr,implies_true,amz,zf,tys];repeat' (first|(apply hK2;clear hK2 K2)|apply And.intro|intro hb))));all_goals ((try simp only [ze,z8,reduceIte,Nat.reduceEqDiff]);(try ((repeat ((fail_if_success apply hK);clear hK K));apply hK;clear hK K))))
 refine T.weak (zi.newrowB _ 1000004 1 5 1 _ _ _ rfl rfl) ?_;simp only [zO,yl,reduceIte,Nat.reduceEqDiff,List.set_cons_succ,List.set_cons_zero,Nat.reduceAdd]
 refine T.weak (zi.ren _ 1000001 2) ?_;simp only [ASt.ren,AV.zZ,AV.zG,AV.qd,AV.qw,AV.zW,AV.zF,AV.zA,AV.qc,AV.qO,AV.zD,AV.qx,AO.qD,AO.qG,AO.qE,AO.qF,yl,List.filter_cons,List.filter_nil,zq,qp,reduceIte,Nat.reduceEqDiff,Nat.reduceLT,Nat.reduceBneDiff,bne_self_eq_false,Bool.and_true,Bool.and_false,Bool.true_and,Bool.false_and,Bool.and_self,Bool.false_eq_true,ne_eq,not_false_eq_true,not_true_eq_false,and_self,and_true,true_and,and_false,renC]
 refine T.weak (zi.ren _ 1000002 4) ?_;simp only [ASt.ren,AV.zZ,AV.zG,AV.qd,AV.qw,AV.zW,AV.zF,AV.zA,AV.qc,AV.qO,AV.zD,AV.qx,AO.qD,AO.qG,AO.qE,AO.qF,yl,List.filter_cons,List.filter_nil,zq,qp,reduceIte,Nat.reduceEqDiff,Nat.reduceLT,Nat.reduceBneDiff,bne_self_eq_false,Bool.and_true,Bool.and_false,Bool.true_and,Bool.false_and,Bool.and_self,Bool.false_eq_true,ne_eq,not_false_eq_true,not_true_eq_false,and_self,and_true,true_and,and_false,renC]
 refine T.weak (zi.ren _ 1000004 0) ?_;simp only [ASt.ren,AV.zZ,AV.zG,AV.qd,AV.qw,AV.zW,AV.zF,AV.zA,AV.qc,AV.qO,AV.zD,AV.qx,AO.qD,AO.qG,AO.qE,AO.qF,yl,List.filter_cons,List.filter_nil,zq,qp,reduceIte,Nat.reduceEqDiff,Nat.reduceLT,Nat.reduceBneDiff,bne_self_eq_false,Bool.and_true,Bool.and_false,Bool.true_and,Bool.false_and,Bool.and_self,Bool.false_eq_true,ne_eq,not_false_eq_true,not_true_eq_false,and_self,and_true,true_and,and_false,renC]
 refine T.weak (zi.ren _ 1000005 1) ?_;simp only [ASt.ren,AV.zZ,AV.zG,AV.qd,AV.qw,AV.zW,AV.zF,AV.zA,AV.qc,AV.qO,AV.zD,AV.qx,AO.qD,AO.qG,AO.qE,AO.qF,yl,List.filter_cons,List.filter_nil,zq,qp,reduceIte,Nat.reduceEqDiff,Nat.reduceLT,Nat.reduceBneDiff,bne_self_eq_false,Bool.and_true,Bool.and_false,Bool.true_and,Bool.false_and,Bool.and_self,Bool.false_eq_true,ne_eq,not_false_eq_true,not_true_eq_false,and_self,and_true,true_and,and_false,renC]
 refine T.pin 2 _ rfl fun pb=>?_;simp only [zO,AO.pin,yl,reduceIte,Nat.reduceEqDiff]
 refine T.pin 4 _ rfl fun lb=>?_;simp only [zO,AO.pin,yl,reduceIte,Nat.reduceEqDiff]
 refine T.pin 0 _ rfl fun q=>?_;simp only [zO,AO.pin,yl,reduceIte,Nat.reduceEqDiff]
 repeat' (first|refine T.zk fun K hK=>?_|apply T.block|apply T.skip|apply T.exit|refine T.zh rfl ?_|refine T.zg rfl ?_|refine T.cond rfl (fun hc=>?_) (fun hc=>?_)|apply T.ret|simp only [ze,z8,reduceIte,Nat.reduceEqDiff]|((repeat ((fail_if_success apply hK);clear hK K));apply hK;clear hK K))
 (refine T.reg (by kernel_rfl) fun K' hK'=>?_;simp only [bz];(with_reducible repeat' (first|(apply WL.fin;apply hK';clear hK' K')|(refine WL.step fun K2 hK2=>?_;simp only [simprocAttr,implies_true,amz,zf,tys];repeat' (first|(apply hK2;clear hK2 K2)|apply And.intro|intro hb))));all_goals ((try simp only [ze,z8,reduceIte,Nat.reduceEqDiff]);(try ((repeat ((fail_if_success apply hK);clear hK K));apply hK;clear hK K))))
 refine T.weak (zi.ren _ 1000006 3) ?_;simp only [ASt.ren,AV.zZ,AV.zG,AV.qd,AV.qw,AV.zW,AV.zF,AV.zA,AV.qc,AV.qO,AV.zD,AV.qx,AO.qD,AO.qG,AO.qE,AO.qF,yl,List.filter_cons,List.filter_nil,zq,qp,reduceIte,Nat.reduceEqDiff,Nat.reduceLT,Nat.reduceBneDiff,bne_self_eq_false,Bool.and_true,Bool.and_false,Bool.true_and,Bool.false_and,Bool.and_self,Bool.false_eq_true,ne_eq,not_false_eq_true,not_true_eq_false,and_self,and_true,true_and,and_false,renC,AV.qO,List.map_nil]
 refine T.pin 3 _ rfl fun db=>?_;simp only [zO,AO.pin,yl,reduceIte,Nat.reduceEqDiff]
 have w1:=z4T q (.p (.val (.pointer none))) [] (hedN r) (.inl rfl) (by simp only [List.length_nil];omega)
 have c1:=clos_ok ⟨q,pb,db,lb,0,fs,g,y,mn,st,sz⟩ hn hl r.k1 r.s1 h1 (hedN r).data.toList (by omega)
 have c2:=clos_ok ⟨q,pb,db,lb,0,fs,g,y,mn,st,sz⟩ hn hl r.k2 r.s2 h2 ((hedN r).data.toList++(accN fs st sz r.k1 r.s1).data.toList) (by rw [List.length_append];omega)
 have w2:=stringC q (.ptr 0 0) _ hne
 rw [hfin] at w2
 simp only [hpB,hpT,z8w,List.nil_append] at w1 w2 c1 c2
 rw [hhd] at w1 c1 c2 w2
 repeat' (first|refine T.zk fun K hK=>?_|apply T.block|apply T.skip|apply T.exit|refine T.zh rfl ?_|refine T.zg rfl ?_|refine T.cond rfl (fun hc=>?_) (fun hc=>?_)|apply T.ret|simp only [ze,z8,reduceIte,Nat.reduceEqDiff]|((repeat ((fail_if_success apply hK);clear hK K));apply hK;clear hK K))
 refine T.drw 18 (by kernel_rfl) (by kernel_rfl) fun K' hK'=>?_;simp only [yl];(repeat' (first|(with_reducible refine WL.fin ?_;apply hK';clear hK' K')|(with_reducible refine WD.fin ?_)|((with_reducible first|refine WL.step fun K2 hK2=>?_|refine WD.step fun K2 hK2=>?_);simp only [simprocAttr,implies_true,amz,zf,tys,et0,ct0,et1,ct1,et2,ct2,et3,ct3,et4,ct4,et5,ct5];(repeat' (first|with_reducible (first|(apply hK2;clear hK2 K2)|apply And.intro|intro hb)|((with_reducible refine ⟨_,CallR.read 1000001 hpG _ rfl rfl (Ent.of Tryz.func29 (by kernel_rfl) rfl) (i1) (z2P (by decide) (fun t o ho=>by obtain ⟨rfl,rfl⟩:=qZ ho;simp [zq])) ?_ ?_,?_⟩);(focus (simp [AV.okB];done));(focus rfl))|((with_reducible refine ⟨_,CallR.read 1000001 hpG _ rfl rfl (Ent.of Tryz.func29 (by kernel_rfl) rfl) (i2) (z2P (by decide) (fun t o ho=>by obtain ⟨rfl,rfl⟩:=qZ ho;simp [zq])) ?_ ?_,?_⟩);(focus (simp [AV.okB];done));(focus rfl))|((with_reducible refine ⟨_,CallR.read 1000001 hpG _ rfl rfl (Ent.of Tryz.func29 (by kernel_rfl) rfl) (i3) (z2P (by decide) (fun t o ho=>by obtain ⟨rfl,rfl⟩:=qZ ho;simp [zq])) ?_ ?_,?_⟩);(focus (simp [AV.okB];done));(focus rfl))|((with_reducible refine qg 2 _ _ [0] (Ent.of Tryz.func30 (by kernel_rfl) rfl) (w1) ?_ ?_ ?_);(focus ((refine ⟨Nat.le_of_ble_eq_true rfl,?_,?_⟩ <;> simp only [pz,reduceIte,Nat.reduceEqDiff,AV.okB,Nat.reduceLT,zH]);done));(focus (simp [AV.okB];done));rintro hp' r ⟨rfl,rfl⟩;refine ⟨by simp [Kept,zq,AO.handle],?_⟩;simp only [cz,ASt.qh,AO.keep,Nat.reduceLeDiff,reduceIte,Nat.reduceEqDiff,z2z]))))));all_goals ((try simp only [ze,z8,reduceIte,Nat.reduceEqDiff]);(try ((repeat ((fail_if_success apply hK);clear hK K));apply hK;clear hK K)))
 all_goals repeat' (first|refine T.zk fun K hK=>?_|apply T.block|(refine T.reg (by kernel_rfl) fun K' hK'=>?_;simp only [bz];(repeat' (first|(with_reducible refine WL.fin ?_;apply hK';clear hK' K')|((with_reducible refine WL.step fun K2 hK2=>?_);simp only [simprocAttr,implies_true,amz,zf,tys];(repeat' (first|with_reducible (first|(apply hK2;clear hK2 K2)|apply And.intro|intro hb)|((with_reducible refine qg 1000001 _ _ [0,2,3,4] (Ent.of Tryz.func31 (by kernel_rfl) rfl) (c1) ?_ ?_ ?_);(focus ((refine ⟨Nat.le_of_ble_eq_true rfl,?_,?_⟩ <;> simp only [pz,reduceIte,Nat.reduceEqDiff,AV.okB,Nat.reduceLT,zH,AV.qm]);done));(focus (simp [AV.okB];done));rintro hp' r' ⟨rfl,rfl⟩;refine ⟨by simp [Kept,zq,AO.handle],?_⟩;simp only [cz,ASt.qh,AO.keep,Nat.reduceLeDiff,reduceIte,Nat.reduceEqDiff,z2z,AV.qm])|((with_reducible refine qg 1000001 _ _ [0,2,3,4] (Ent.of Tryz.func31 (by kernel_rfl) rfl) (c2) ?_ ?_ ?_);(focus ((refine ⟨Nat.le_of_ble_eq_true rfl,?_,?_⟩ <;> simp only [pz,reduceIte,Nat.reduceEqDiff,AV.okB,Nat.reduceLT,zH,AV.qm]);done));(focus (simp [AV.okB];done));rintro hp' r' ⟨rfl,rfl⟩;refine ⟨by simp [Kept,zq,AO.handle],?_⟩;simp only [cz,ASt.qh,AO.keep,Nat.reduceLeDiff,reduceIte,Nat.reduceEqDiff,z2z,AV.qm])|((with_reducible refine qg 2 _ _ [] (Ent.of Tryz.func34 (by kernel_rfl) rfl) (w2) ?_ ?_ ?_);(focus ((refine ⟨Nat.le_of_ble_eq_true rfl,?_,?_⟩ <;> simp only [pz,reduceIte,Nat.reduceEqDiff,AV.okB,Nat.reduceLT,zH]);done));(focus (simp [AV.okB];done));rintro hp' r ⟨rfl,rfl⟩;refine ⟨by simp,?_⟩;simp only [cz,ASt.qh,AO.keep,Nat.reduceLeDiff,reduceIte,Nat.reduceEqDiff,z2z])))))))|apply T.skip|apply T.exit|refine T.zh rfl ?_|refine T.zg rfl ?_|refine T.cond rfl (fun hc=>?_) (fun hc=>?_)|apply T.ret|simp only [ze,z8,reduceIte,Nat.reduceEqDiff]|((repeat ((fail_if_success apply hK);clear hK K));apply hK;clear hK K))
 all_goals (refine FinM.ret (s':=⟨[(6,.p (.val (.string (txtN fs st sz r))))],hpG,43,1000001⟩) (r := .p (.val (.string (txtN fs st sz r)))) (.inr rfl) Tryz.results9 (by refine zi.of' rfl ?_;simp only [wks,reduceIte,Nat.reduceEqDiff,ASt.okB,AV.okB,Nat.reduceLT,implies_true,hpG,zH]) rfl ?_ ?_;(focus (simp only [zI,zu,zw,simprocAttr,implies_true,amz,zf,tys,];done)))
 all_goals exact ⟨rfl,rfl⟩
theorem z97 (fs:List Fu) (g y:PV) (mn:Int) (st:List Int) (sz:Int) (r:Rep) (hn:NmOk fs) (hl:st.length≤1000000) (h1:r.s1.length≤1000) (h2:r.s2.length≤1000) (hw:RepW r) :
  z4k Tryz.prog 9 1000001 hpG [pgA fs g y mn,lnA st sz,repA r] (.string (txtN fs st sz r)):=MemC.read (textP_mem fs g y mn st sz r hn hl h1 h2 hw) z3j
theorem subC (t:Nat) (y:AV) (l:List Value):(z0c l).map (AV.sub t y)=z0c l:=by simp [z0c,AV.z6N]
def lAw:List Ev := [⟨0,2,0,0,0,0,0,4,0⟩,⟨1,1,0,0,0,0,1,2,1⟩]
def rAw:Rep:=⟨0,0,2,1,[(0,4)],[(1,2)],1⟩
theorem outAw:outM lAw [(0,4),(1,2)] [-1,-1] [(0,1)] = [rAw]:=by kernel_rfl
theorem errAw:errM lAw [(0,4),(1,2)] [-1,-1] [(0,1)]=0:=by decide +kernel
theorem mergeAw:zt Tryz.prog 6 [trA lAw [(0,4),(1,2)] [-1,-1],raA [(0,1)]] (.tup [.p (.seq 7 [repC rAw]),.int 0]):=by
 have h:=z6x lAw (fun e he=>by
  simp only [lAw,List.mem_cons,List.not_mem_nil,or_false] at he
  rcases he with rfl|rfl <;> exact ⟨by unfold inW;decide,by unfold inW;decide,by unfold inW;decide⟩) [(0,4),(1,2)] [-1,-1] ⟨by unfold inW;decide,by unfold inW;decide⟩ (by decide) [(0,1)] (by decide)
 rw [merA,outAw,errAw] at h
 exact h
def z5:In5:=⟨0,0,0,0,0⟩
def fsAw:List Fu := [⟨⟨#[109,97,105,110]⟩,0,0,[z5,z5,z5,z5,⟨0,0,0,0,25⟩]⟩,⟨⟨#[109,97,105,110,46,49]⟩,0,0,[z5,z5,⟨0,0,0,0,50⟩]⟩]
def z95:List Int := [0,10,20,30,40,50]
def resAw:ByteArray:=⟨#[114,97,99,101,32,48,46,48,32,49,10,32,32,119,114,105,116,101,10,32,32,32,32,109,97,105,110,58,51,10,32,32,114,101,97,100,10,32,32,32,32,109,97,105,110,46,49,58,54,10]⟩
theorem z3W {x:Int} {u:Nat} (e:x=u) (h:u<10):(dI x).data.toList = [UInt8.ofNat (48+u)]:=by
 subst e
 rw [dI_pos (Int.natCast_nonneg u),Int.toNat_natCast,D10_data,Go.Lib.decDigits,dif_pos h]
theorem lin0:z0d fsAw z95 60 (0,4)=3:=by decide +kernel
theorem lin1:z0d fsAw z95 60 (1,2)=6:=by decide +kernel
theorem txtAw:txtN fsAw z95 60 rAw=resAw:=by
 apply z6f
 simp only [txtN,hedN,accN,putN,hdN,entN,rAw,List.reverse_cons,List.reverse_nil,List.nil_append,List.foldl_cons,List.foldl_nil,z1V,lin0,lin1]
 rw [z3W (x := 0) (u := 0) rfl (by decide),z3W (x := 1) (u := 1) rfl (by decide),z3W (x := 3) (u := 3) rfl (by decide),z3W (x := 6) (u := 6) rfl (by decide)]
 rfl
theorem readAw:z4k Tryz.prog 9 1000001 hpG [pgA fsAw (.val (.slice none 0 0)) (.val (.slice none 0 0)) 0,lnA z95 60,repA rAw] (.string resAw):=by
 have h:=z97 fsAw (.val (.slice none 0 0)) (.val (.slice none 0 0)) 0 z95 60 rAw (fun f hf=>by
  simp only [fsAw,List.mem_cons,List.not_mem_nil,or_false] at hf
  rcases hf with rfl|rfl <;> (show ByteArray.size _≤_;decide)) (by decide) (by decide) (by decide) ⟨by decide,by decide,by decide⟩
 rw [txtAw] at h
 exact h
def stAw (FR:List (Nat × AV)) (HP:Hp) (b:Nat→Bool):ASt:=⟨(22,bif b 0 then .own 1000002 else .zy) :: (23,bif b 1 then .agg [.p (.val (.string (⟨#[109,97,105,110]⟩ : ByteArray))),.int 0,.int 0,.own 1000002] else .zy) :: (24,bif b 2 then .own 1000003 else .zy) :: (25,bif b 3 then .agg [.p (.val (.string (⟨#[109,97,105,110,46,49]⟩ : ByteArray))),.int 0,.int 0,.own 1000003] else .zy) :: (26,bif b 4 then .own 1000004 else .zy) :: (27,bif b 5 then .agg [.own 1000004,.p (.val (.slice none 0 0)),.p (.val (.slice none 0 0)),.int 0] else .zy) :: (4,bif b 6 then .ptr 1000005 0 else .zy) :: FR,(bif b 0 then [(1000002,AO.row 55 5 [[PV.val (.int .i64 0),.val (.int .i64 0),.val (.int .i64 0),.val (.int .i64 0),.val (.int .i64 0)],[PV.val (.int .i64 0),.val (.int .i64 0),.val (.int .i64 0),.val (.int .i64 0),.val (.int .i64 0)],[PV.val (.int .i64 0),.val (.int .i64 0),.val (.int .i64 0),.val (.int .i64 0),.val (.int .i64 0)],[PV.val (.int .i64 0),.val (.int .i64 0),.val (.int .i64 0),.val (.int .i64 0),.val (.int .i64 0)],[PV.val (.int .i64 0),.val (.int .i64 0),.val (.int .i64 0),.val (.int .i64 0),.val (.int .i64 0)]])] else [])++((bif b 2 then [(1000003,AO.row 55 5 [[PV.val (.int .i64 0),.val (.int .i64 0),.val (.int .i64 0),.val (.int .i64 0),.val (.int .i64 0)],[PV.val (.int .i64 0),.val (.int .i64 0),.val (.int .i64 0),.val (.int .i64 0),.val (.int .i64 0)],[PV.val (.int .i64 0),.val (.int .i64 0),.val (.int .i64 0),.val (.int .i64 0),.val (.int .i64 0)]])] else [])++((bif b 4 then [(1000004,AO.afix 48 4 2 [.p (.val (.string (⟨#[109,97,105,110]⟩ : ByteArray))),.int 0,.int 0,.own 1000002,.p (.val (.string (⟨#[109,97,105,110,46,49]⟩ : ByteArray))),.int 0,.int 0,.own 1000003])] else [])++((bif b 6 then [(1000005,AO.boxP none 53 (bif b 7 then [.own 1000004,.p (.val (.slice none 0 0)),.p (.val (.slice none 0 0)),.int 0] else [.p (.val (.slice none 0 0)),.p (.val (.slice none 0 0)),.p (.val (.slice none 0 0)),.int 0]))] else [])++HP))),79,1000006⟩
theorem awake_mem:MemC Tryz.prog 4 1000001 hpG [] fun hp' r'=>hp' = hpG∧r' = .p (.val (.bool true)):=by
 have hM:=mergeAw
 simp only [trA,raA,evC,rowP,rowZ,lAw,yl] at hM
 have hT:=readAw
 simp only [pgA,lnA,repA,repC,rAw,fsAw,z95,resAw,fuC,inC5,z5,rowP,rowZ,yl] at hT
 have m1:(1≤maxLen)=True:=eq_true (by unfold maxLen;omega)
 have m2:(2≤maxLen)=True:=eq_true (by unfold maxLen;omega)
 have m3:(3≤maxLen)=True:=eq_true (by unfold maxLen;omega)
 have m5:(5≤maxLen)=True:=eq_true (by unfold maxLen;omega)
 have r5 : ∀ z:List PV,List.replicate (Int.toNat 5) z = [z,z,z,z,z]:=fun _=>rfl
 have r3 : ∀ z:List PV,List.replicate (Int.toNat 3) z = [z,z,z]:=fun _=>rfl
 have n4:Int.toNat 4=4:=rfl
 have n2:Int.toNat 2=2:=rfl
 have n1:Int.toNat 1=1:=rfl
 have e0:((0:Int) != 0)=false:=rfl
 have e1:(((1:Nat):Int) != 1)=false:=rfl
 have m6:(6≤maxLen)=True:=eq_true (by unfold maxLen;omega)
 refine MemC.of Tryz.func4 rfl 79 rfl (by decide) ?_;simp only [z08,frOf]
 repeat' (first|refine T.zk fun K hK=>?_|apply T.block|apply T.skip|apply T.exit|refine T.zh rfl ?_|refine T.zg rfl ?_|refine T.cond rfl (fun hc=>?_) (fun hc=>?_)|apply T.ret|simp only [ze,z8,reduceIte,Nat.reduceEqDiff]|((repeat ((fail_if_success apply hK);clear hK K));apply hK;clear hK K))
 (refine T.reg (by kernel_rfl) fun K' hK'=>?_;simp only [bz];(with_reducible repeat' (first|(apply WL.fin;apply hK';clear hK' K')|(refine WL.step fun K2 hK2=>?_;simp only [Nat.reduceEqDiff,Nat.reduceLT,Nat.reduceLeDiff,Nat.reduceAdd,reduceIte,reduceCtorEq,implies_true,Int.reduceEq,Int.reduceNe,Int.reduceLT,Int.reduceLE,Int.reduceSub,Int.reduceAdd,Nat.reduceMul,Nat.reduceMod,amz,zf,tys,m1,m2,m3,m5,m6];repeat' (first|(apply hK2;clear hK2 K2)|apply And.intro|intro hb))));all_goals ((try simp only [ze,z8,reduceIte,Nat.reduceEqDiff]);(try ((repeat ((fail_if_success apply hK);clear hK K));apply hK;clear hK K))))
 repeat' (first|refine T.zk fun K hK=>?_|apply T.block|apply T.skip|apply T.exit|refine T.zh rfl ?_|refine T.zg rfl ?_|refine T.cond rfl (fun hc=>?_) (fun hc=>?_)|apply T.ret|simp only [ze,z8,reduceIte,Nat.reduceEqDiff]|((repeat ((fail_if_success apply hK);clear hK K));apply hK;clear hK K))
 (refine T.reg (by kernel_rfl) fun K' hK'=>?_;simp only [bz];(with_reducible repeat' (first|(apply WL.fin;apply hK';clear hK' K')|(refine WL.step fun K2 hK2=>?_;simp only [Nat.reduceEqDiff,Nat.reduceLT,Nat.reduceLeDiff,Nat.reduceAdd,reduceIte,reduceCtorEq,implies_true,Int.reduceEq,Int.reduceNe,Int.reduceLT,Int.reduceLE,Int.reduceSub,Int.reduceAdd,Nat.reduceMul,Nat.reduceMod,amz,zf,tys,m1,m2,m3,m5,m6];repeat' (first|(apply hK2;clear hK2 K2)|apply And.intro|intro hb))));all_goals ((try simp only [ze,z8,reduceIte,Nat.reduceEqDiff]);(try ((repeat ((fail_if_success apply hK);clear hK K));apply hK;clear hK K))))
 repeat' (first|refine T.zk fun K hK=>?_|apply T.block|apply T.skip|apply T.exit|refine T.zh rfl ?_|refine T.zg rfl ?_|refine T.cond rfl (fun hc=>?_) (fun hc=>?_)|apply T.ret|simp only [ze,z8,reduceIte,Nat.reduceEqDiff]|((repeat ((fail_if_success apply hK);clear hK K));apply hK;clear hK K))
 (refine T.reg (by kernel_rfl) fun K' hK'=>?_;simp only [bz];(repeat' (first|(with_reducible refine WL.fin ?_;apply hK';clear hK' K')|((with_reducible refine WL.step fun K2 hK2=>?_);simp only [Nat.reduceEqDiff,Nat.reduceLT,Nat.reduceLeDiff,Nat.reduceAdd,reduceIte,reduceCtorEq,implies_true,Int.reduceEq,Int.reduceNe,Int.reduceLT,Int.reduceLE,Int.reduceSub,Int.reduceAdd,Nat.reduceMul,Nat.reduceMod,amz,zf,tys,m1,m2,m3,m5,m6];(repeat' (first|with_reducible (first|(apply hK2;clear hK2 K2)|apply And.intro|intro hb)|((with_reducible first|apply zl|apply zn);case h=>exact CallV.plain (Ent.of Tryz.func6 (by kernel_rfl) rfl) (hM) (by simp [AV.okB])))))));all_goals ((try simp only [ze,z8,reduceIte,Nat.reduceEqDiff]);(try ((repeat ((fail_if_success apply hK);clear hK K));apply hK;clear hK K))))
 repeat' (first|refine T.zk fun K hK=>?_|apply T.block|apply T.skip|apply T.exit|refine T.zh rfl ?_|refine T.zg rfl ?_|refine T.cond rfl (fun hc=>?_) (fun hc=>?_)|apply T.ret|simp only [ze,z8,reduceIte,Nat.reduceEqDiff]|((repeat ((fail_if_success apply hK);clear hK K));apply hK;clear hK K))
 refine T.inv (stAw ([(0,.p (.val (.bool false))),(2,.p (.seq 7 [repC rAw])),(3,.int 0)]) hpG) (by kernel_rfl) (by kernel_rfl) ?_ (fun b hcl=>?_) fun K' hK'=>?_
 ·simp only [stAw,cond_false,List.nil_append];refine zi.of' rfl ?_;simp only [wks,reduceIte,Nat.reduceEqDiff,ASt.okB,AV.okB,AO.zL,AO.z0M,AO.z0H,AV.zT,List.all_cons,List.all_nil,Nat.reduceLT,implies_true,List.nil_append,List.cons_append,cond_true,cond_false,and_self,zS,zU,Bool.cond_self,Bool.and_self,AV.zG,AV.zW,AV.zF,AV.zA,AV.zZ,AV.zD,yl,lkc,reduceCtorEq,hpG,zH,renC]
 ·simp only [allL,Nat.reduceAdd]
  refine ⟨fun hb hd=>?_,fun hb hd=>?_,fun hb hd=>?_,fun hb hd=>?_,fun hb hd=>?_,fun hb hd=>?_,fun hb hd=>?_,fun hb hd=>?_,trivial⟩
  ·have n1:b 1=false:=by
    cases h:b 1 with
    | false=>rfl
    | true=>have h4:=zm (hcl 1 (by decide) h) (j := 0) (by decide) (by kernel_rfl);rw [hb] at h4;cases h4
   have n4:b 4=false:=by
    cases h:b 4 with
    | false=>rfl
    | true=>have h4:=zm (hcl 4 (by decide) h) (j := 1) (by decide) (by kernel_rfl);rw [n1] at h4;cases h4
   have n5:b 5=false:=by
    cases h:b 5 with
    | false=>rfl
    | true=>have h4:=zm (hcl 5 (by decide) h) (j := 4) (by decide) (by kernel_rfl);rw [n4] at h4;cases h4
   have n7:b 7=false:=by
    cases h:b 7 with
    | false=>rfl
    | true=>have h4:=zm (hcl 7 (by decide) h) (j := 5) (by decide) (by kernel_rfl);rw [n5] at h4;cases h4
   refine ⟨by trivial,by simp [zC,stAw],?_⟩
   cases h2:b 2 <;> cases h6:b 6 <;> (simp only [Nat.reduceEqDiff,Nat.reduceLT,Nat.reduceLeDiff,Nat.reduceAdd,reduceIte,reduceCtorEq,implies_true,Int.reduceEq,Int.reduceNe,Int.reduceLT,Int.reduceLE,Int.reduceSub,Int.reduceAdd,Nat.reduceMul,Nat.reduceMod,amz,zf,tys,r5,r3,m1,m2,m3,m5,z0T,lkc,zV,Nat.reduceBEq,yb,stAw,n1,n4,n5,n7,h2,h6,hb];refine ⟨⟨by unfold maxLen;decide,by decide⟩,?_⟩;refine (zi.ren _ 1000006 1000002).trans ?_;simp only [ASt.ren,AV.zZ,AV.zG,AV.qd,AV.qw,AV.zW,AV.zF,AV.zA,AV.qc,AV.qO,AV.zD,AV.qx,AO.qD,AO.qG,AO.qE,AO.qF,yl,List.filter_cons,List.filter_nil,zq,qp,reduceIte,Nat.reduceEqDiff,Nat.reduceLT,Nat.reduceBneDiff,bne_self_eq_false,Bool.and_true,Bool.and_false,Bool.true_and,Bool.false_and,Bool.and_self,Bool.false_eq_true,ne_eq,not_false_eq_true,not_true_eq_false,and_self,and_true,true_and,and_false,lkc,AO.z4f,zS,hpG];refine zi.of' rfl ?_;simp only [wks,reduceIte,Nat.reduceEqDiff,ASt.okB,AV.okB,AO.zL,AO.z0M,AO.z0H,AV.zT,List.all_cons,List.all_nil,Nat.reduceLT,implies_true,List.nil_append,List.cons_append,cond_true,cond_false,and_self,zS,zU,Bool.cond_self,Bool.and_self,AV.zG,AV.zW,AV.zF,AV.zA,AV.zZ,AV.zD,yl,lkc,reduceCtorEq,hpG,zH,renC])
  ·have d0:=zm hd (j := 0) (by decide) (by kernel_rfl)
   have n4:b 4=false:=by
    cases h:b 4 with
    | false=>rfl
    | true=>have h4:=zm (hcl 4 (by decide) h) (j := 1) (by decide) (by kernel_rfl);rw [hb] at h4;cases h4
   have n5:b 5=false:=by
    cases h:b 5 with
    | false=>rfl
    | true=>have h4:=zm (hcl 5 (by decide) h) (j := 4) (by decide) (by kernel_rfl);rw [n4] at h4;cases h4
   have n7:b 7=false:=by
    cases h:b 7 with
    | false=>rfl
    | true=>have h4:=zm (hcl 7 (by decide) h) (j := 5) (by decide) (by kernel_rfl);rw [n5] at h4;cases h4
   refine ⟨by trivial,by simp [zC,stAw],?_⟩
   simp only [Nat.reduceEqDiff,Nat.reduceLT,Nat.reduceLeDiff,Nat.reduceAdd,reduceIte,reduceCtorEq,implies_true,Int.reduceEq,Int.reduceNe,Int.reduceLT,Int.reduceLE,Int.reduceSub,Int.reduceAdd,Nat.reduceMul,Nat.reduceMod,amz,zf,tys,r5,r3,m1,m2,m3,m5,z0T,lkc,zV,Nat.reduceBEq,yb,stAw,d0,n4,n5,n7,hb]
   all_goals (refine zi.slots ?_;simp only [wks,reduceIte,Nat.reduceEqDiff,implies_true,cond_true,and_self,d0,n4,n5,n7])
  ·have n3:b 3=false:=by
    cases h:b 3 with
    | false=>rfl
    | true=>have h4:=zm (hcl 3 (by decide) h) (j := 2) (by decide) (by kernel_rfl);rw [hb] at h4;cases h4
   have n4:b 4=false:=by
    cases h:b 4 with
    | false=>rfl
    | true=>have h4:=zm (hcl 4 (by decide) h) (j := 3) (by decide) (by kernel_rfl);rw [n3] at h4;cases h4
   have n5:b 5=false:=by
    cases h:b 5 with
    | false=>rfl
    | true=>have h4:=zm (hcl 5 (by decide) h) (j := 4) (by decide) (by kernel_rfl);rw [n4] at h4;cases h4
   have n7:b 7=false:=by
    cases h:b 7 with
    | false=>rfl
    | true=>have h4:=zm (hcl 7 (by decide) h) (j := 5) (by decide) (by kernel_rfl);rw [n5] at h4;cases h4
   refine ⟨by trivial,by simp [zC,stAw],?_⟩
   cases h0:b 0 <;> cases h6:b 6 <;> (simp only [Nat.reduceEqDiff,Nat.reduceLT,Nat.reduceLeDiff,Nat.reduceAdd,reduceIte,reduceCtorEq,implies_true,Int.reduceEq,Int.reduceNe,Int.reduceLT,Int.reduceLE,Int.reduceSub,Int.reduceAdd,Nat.reduceMul,Nat.reduceMod,amz,zf,tys,r5,r3,m1,m2,m3,m5,z0T,lkc,zV,Nat.reduceBEq,yb,stAw,n3,n4,n5,n7,h0,h6,hb];refine ⟨⟨by unfold maxLen;decide,by decide⟩,?_⟩;refine (zi.ren _ 1000006 1000003).trans ?_;simp only [ASt.ren,AV.zZ,AV.zG,AV.qd,AV.qw,AV.zW,AV.zF,AV.zA,AV.qc,AV.qO,AV.zD,AV.qx,AO.qD,AO.qG,AO.qE,AO.qF,yl,List.filter_cons,List.filter_nil,zq,qp,reduceIte,Nat.reduceEqDiff,Nat.reduceLT,Nat.reduceBneDiff,bne_self_eq_false,Bool.and_true,Bool.and_false,Bool.true_and,Bool.false_and,Bool.and_self,Bool.false_eq_true,ne_eq,not_false_eq_true,not_true_eq_false,and_self,and_true,true_and,and_false,lkc,AO.z4f,zS,hpG];refine zi.of' rfl ?_;simp only [wks,reduceIte,Nat.reduceEqDiff,ASt.okB,AV.okB,AO.zL,AO.z0M,AO.z0H,AV.zT,List.all_cons,List.all_nil,Nat.reduceLT,implies_true,List.nil_append,List.cons_append,cond_true,cond_false,and_self,zS,zU,Bool.cond_self,Bool.and_self,AV.zG,AV.zW,AV.zF,AV.zA,AV.zZ,AV.zD,yl,lkc,reduceCtorEq,hpG,zH,renC])
  ·have d2:=zm hd (j := 2) (by decide) (by kernel_rfl)
   have n4:b 4=false:=by
    cases h:b 4 with
    | false=>rfl
    | true=>have h4:=zm (hcl 4 (by decide) h) (j := 3) (by decide) (by kernel_rfl);rw [hb] at h4;cases h4
   have n5:b 5=false:=by
    cases h:b 5 with
    | false=>rfl
    | true=>have h4:=zm (hcl 5 (by decide) h) (j := 4) (by decide) (by kernel_rfl);rw [n4] at h4;cases h4
   have n7:b 7=false:=by
    cases h:b 7 with
    | false=>rfl
    | true=>have h4:=zm (hcl 7 (by decide) h) (j := 5) (by decide) (by kernel_rfl);rw [n5] at h4;cases h4
   refine ⟨by trivial,by simp [zC,stAw],?_⟩
   simp only [Nat.reduceEqDiff,Nat.reduceLT,Nat.reduceLeDiff,Nat.reduceAdd,reduceIte,reduceCtorEq,implies_true,Int.reduceEq,Int.reduceNe,Int.reduceLT,Int.reduceLE,Int.reduceSub,Int.reduceAdd,Nat.reduceMul,Nat.reduceMod,amz,zf,tys,r5,r3,m1,m2,m3,m5,z0T,lkc,zV,Nat.reduceBEq,yb,stAw,d2,n4,n5,n7,hb]
   all_goals (refine zi.slots ?_;simp only [wks,reduceIte,Nat.reduceEqDiff,implies_true,cond_true,and_self,d2,n4,n5,n7])
  ·have d1:=zm hd (j := 1) (by decide) (by kernel_rfl)
   have d3:=zm hd (j := 3) (by decide) (by kernel_rfl)
   have d2:=zm (hcl 3 (by decide) d3) (j := 2) (by decide) (by kernel_rfl)
   have d0:=zm (hcl 1 (by decide) d1) (j := 0) (by decide) (by kernel_rfl)
   have n5:b 5=false:=by
    cases h:b 5 with
    | false=>rfl
    | true=>have h4:=zm (hcl 5 (by decide) h) (j := 4) (by decide) (by kernel_rfl);rw [hb] at h4;cases h4
   have n7:b 7=false:=by
    cases h:b 7 with
    | false=>rfl
    | true=>have h4:=zm (hcl 7 (by decide) h) (j := 5) (by decide) (by kernel_rfl);rw [n5] at h4;cases h4
   refine ⟨by trivial,by simp [zC,stAw],?_⟩
   cases h6:b 6 <;> (simp only [Nat.reduceEqDiff,Nat.reduceLT,Nat.reduceLeDiff,Nat.reduceAdd,reduceIte,reduceCtorEq,implies_true,Int.reduceEq,Int.reduceNe,Int.reduceLT,Int.reduceLE,Int.reduceSub,Int.reduceAdd,Nat.reduceMul,Nat.reduceMod,amz,zf,tys,r5,r3,m1,m2,m3,m5,z0T,lkc,zV,Nat.reduceBEq,yb,stAw,d0,d1,d2,d3,n5,n7,h6,hb];refine (zi.ren _ 1000006 1000004).trans ?_;simp only [ASt.ren,AV.zZ,AV.zG,AV.qd,AV.qw,AV.zW,AV.zF,AV.zA,AV.qc,AV.qO,AV.zD,AV.qx,AO.qD,AO.qG,AO.qE,AO.qF,yl,List.filter_cons,List.filter_nil,zq,qp,reduceIte,Nat.reduceEqDiff,Nat.reduceLT,Nat.reduceBneDiff,bne_self_eq_false,Bool.and_true,Bool.and_false,Bool.true_and,Bool.false_and,Bool.and_self,Bool.false_eq_true,ne_eq,not_false_eq_true,not_true_eq_false,and_self,and_true,true_and,and_false,lkc,AO.z4f,zS,hpG];refine zi.of' rfl ?_;simp only [wks,reduceIte,Nat.reduceEqDiff,ASt.okB,AV.okB,AO.zL,AO.z0M,AO.z0H,AV.zT,List.all_cons,List.all_nil,Nat.reduceLT,implies_true,List.nil_append,List.cons_append,cond_true,cond_false,and_self,zS,zU,Bool.cond_self,Bool.and_self,AV.zG,AV.zW,AV.zF,AV.zA,AV.zZ,AV.zD,yl,lkc,reduceCtorEq,hpG,zH,renC])
  ·have d4:=zm hd (j := 4) (by decide) (by kernel_rfl)
   have d1:=zm (hcl 4 (by decide) d4) (j := 1) (by decide) (by kernel_rfl)
   have d3:=zm (hcl 4 (by decide) d4) (j := 3) (by decide) (by kernel_rfl)
   have d2:=zm (hcl 3 (by decide) d3) (j := 2) (by decide) (by kernel_rfl)
   have d0:=zm (hcl 1 (by decide) d1) (j := 0) (by decide) (by kernel_rfl)
   have n7:b 7=false:=by
    cases h:b 7 with
    | false=>rfl
    | true=>have h4:=zm (hcl 7 (by decide) h) (j := 5) (by decide) (by kernel_rfl);rw [hb] at h4;cases h4
   refine ⟨by trivial,by simp [zC,stAw],?_⟩
   simp only [Nat.reduceEqDiff,Nat.reduceLT,Nat.reduceLeDiff,Nat.reduceAdd,reduceIte,reduceCtorEq,implies_true,Int.reduceEq,Int.reduceNe,Int.reduceLT,Int.reduceLE,Int.reduceSub,Int.reduceAdd,Nat.reduceMul,Nat.reduceMod,amz,zf,tys,r5,r3,m1,m2,m3,m5,z0T,lkc,zV,Nat.reduceBEq,yb,stAw,d0,d1,d2,d3,d4,n7,hb]
   all_goals (refine zi.slots ?_;simp only [wks,reduceIte,Nat.reduceEqDiff,implies_true,cond_true,and_self,d0,d1,d2,d3,d4,n7])
  ·have n7:b 7=false:=by
    cases h:b 7 with
    | false=>rfl
    | true=>have h4:=zm (hcl 7 (by decide) h) (j := 6) (by decide) (by kernel_rfl);rw [hb] at h4;cases h4
   refine ⟨by trivial,by simp [zC,stAw],?_⟩
   cases h0:b 0 <;> cases h2:b 2 <;> cases h4:b 4 <;> (simp only [Nat.reduceEqDiff,Nat.reduceLT,Nat.reduceLeDiff,Nat.reduceAdd,reduceIte,reduceCtorEq,implies_true,Int.reduceEq,Int.reduceNe,Int.reduceLT,Int.reduceLE,Int.reduceSub,Int.reduceAdd,Nat.reduceMul,Nat.reduceMod,amz,zf,tys,r5,r3,m1,m2,m3,m5,z0T,lkc,zV,Nat.reduceBEq,yb,stAw,n7,h0,h2,h4,hb];refine (zi.ren _ 1000006 1000005).trans ?_;simp only [ASt.ren,AV.zZ,AV.zG,AV.qd,AV.qw,AV.zW,AV.zF,AV.zA,AV.qc,AV.qO,AV.zD,AV.qx,AO.qD,AO.qG,AO.qE,AO.qF,yl,List.filter_cons,List.filter_nil,zq,qp,reduceIte,Nat.reduceEqDiff,Nat.reduceLT,Nat.reduceBneDiff,bne_self_eq_false,Bool.and_true,Bool.and_false,Bool.true_and,Bool.false_and,Bool.and_self,Bool.false_eq_true,ne_eq,not_false_eq_true,not_true_eq_false,and_self,and_true,true_and,and_false,lkc,AO.z4f,zS,hpG];refine zi.of' rfl ?_;simp only [wks,reduceIte,Nat.reduceEqDiff,ASt.okB,AV.okB,AO.zL,AO.z0M,AO.z0H,AV.zT,List.all_cons,List.all_nil,Nat.reduceLT,implies_true,List.nil_append,List.cons_append,cond_true,cond_false,and_self,zS,zU,Bool.cond_self,Bool.and_self,AV.zG,AV.zW,AV.zF,AV.zA,AV.zZ,AV.zD,yl,lkc,reduceCtorEq,hpG,zH,renC])
  ·have d5:=zm hd (j := 5) (by decide) (by kernel_rfl)
   have d6:=zm hd (j := 6) (by decide) (by kernel_rfl)
   have d4:=zm (hcl 5 (by decide) d5) (j := 4) (by decide) (by kernel_rfl)
   have d1:=zm (hcl 4 (by decide) d4) (j := 1) (by decide) (by kernel_rfl)
   have d3:=zm (hcl 4 (by decide) d4) (j := 3) (by decide) (by kernel_rfl)
   have d2:=zm (hcl 3 (by decide) d3) (j := 2) (by decide) (by kernel_rfl)
   have d0:=zm (hcl 1 (by decide) d1) (j := 0) (by decide) (by kernel_rfl)
   refine ⟨by trivial,by simp [zC,stAw],?_⟩
   (simp only [Nat.reduceEqDiff,Nat.reduceLT,Nat.reduceLeDiff,Nat.reduceAdd,reduceIte,reduceCtorEq,implies_true,Int.reduceEq,Int.reduceNe,Int.reduceLT,Int.reduceLE,Int.reduceSub,Int.reduceAdd,Nat.reduceMul,Nat.reduceMod,amz,zf,tys,r5,r3,m1,m2,m3,m5,z0T,lkc,zV,Nat.reduceBEq,yb,stAw,d0,d1,d2,d3,d4,d5,d6,hb];refine zi.of' rfl ?_;simp only [wks,reduceIte,Nat.reduceEqDiff,ASt.okB,AV.okB,AO.zL,AO.z0M,AO.z0H,AV.zT,List.all_cons,List.all_nil,Nat.reduceLT,implies_true,List.nil_append,List.cons_append,cond_true,cond_false,and_self,zS,zU,Bool.cond_self,Bool.and_self,AV.zG,AV.zW,AV.zF,AV.zA,AV.zZ,AV.zD,yl,lkc,reduceCtorEq,hpG,zH,renC])
 apply hK';clear hK' K';simp only [stAw,List.length_cons,List.length_nil,Nat.reduceAdd,Nat.reduceLT,decide_true,cond_true,List.cons_append,List.nil_append,hpG];(try simp only [ze,z8,reduceIte,Nat.reduceEqDiff]);(try ((repeat ((fail_if_success apply hK);clear hK K));apply hK;clear hK K))
 repeat' (first|refine T.zk fun K hK=>?_|apply T.block|apply T.skip|apply T.exit|refine T.zh rfl ?_|refine T.zg rfl ?_|refine T.cond rfl (fun hc=>?_) (fun hc=>?_)|apply T.ret|simp only [ze,z8,reduceIte,Nat.reduceEqDiff]|((repeat ((fail_if_success apply hK);clear hK K));apply hK;clear hK K))
 (refine T.reg (by kernel_rfl) fun K' hK'=>?_;simp only [bz];(with_reducible repeat' (first|(apply WL.fin;apply hK';clear hK' K')|(refine WL.step fun K2 hK2=>?_;simp only [Nat.reduceEqDiff,Nat.reduceLT,Nat.reduceLeDiff,Nat.reduceAdd,reduceIte,reduceCtorEq,implies_true,Int.reduceEq,Int.reduceNe,Int.reduceLT,Int.reduceLE,Int.reduceSub,Int.reduceAdd,Nat.reduceMul,Nat.reduceMod,amz,zf,tys,m1,m2,m3,m5,m6,n4,n2,n1];repeat' (first|(apply hK2;clear hK2 K2)|apply And.intro|intro hb))));all_goals ((try simp only [ze,z8,reduceIte,Nat.reduceEqDiff]);(try ((repeat ((fail_if_success apply hK);clear hK K));apply hK;clear hK K))))
 repeat' (first|refine T.zk fun K hK=>?_|apply T.block|apply T.skip|apply T.exit|refine T.zh rfl ?_|refine T.zg rfl ?_|refine T.cond rfl (fun hc=>?_) (fun hc=>?_)|apply T.ret|simp only [ze,z8,reduceIte,Nat.reduceEqDiff]|((repeat ((fail_if_success apply hK);clear hK K));apply hK;clear hK K))
 (refine T.reg (by kernel_rfl) fun K' hK'=>?_;simp only [bz];(with_reducible repeat' (first|(apply WL.fin;apply hK';clear hK' K')|(refine WL.step fun K2 hK2=>?_;simp only [Nat.reduceEqDiff,Nat.reduceLT,Nat.reduceLeDiff,Nat.reduceAdd,reduceIte,reduceCtorEq,implies_true,Int.reduceEq,Int.reduceNe,Int.reduceLT,Int.reduceLE,Int.reduceSub,Int.reduceAdd,Nat.reduceMul,Nat.reduceMod,amz,zf,tys,m1,m2,m3,m5,m6,n4,n2,n1];repeat' (first|(apply hK2;clear hK2 K2)|apply And.intro|intro hb))));all_goals ((try simp only [ze,z8,reduceIte,Nat.reduceEqDiff]);(try ((repeat ((fail_if_success apply hK);clear hK K));apply hK;clear hK K))))
 refine T.weak (zi.frz _ 1000002) ?_;simp only [ASt.frz,List.filter_cons,List.filter_nil,bne_self_eq_false,Nat.reduceBneDiff,Bool.false_eq_true,Nat.reduceEqDiff,Nat.reduceLT,Nat.reduceLeDiff,Nat.reduceAdd,reduceIte,reduceCtorEq,implies_true,Int.reduceEq,Int.reduceNe,Int.reduceLT,Int.reduceLE,Int.reduceSub,Int.reduceAdd,Nat.reduceMul,Nat.reduceMod,amz,zf,tys,subC,List.set_cons_succ,List.set_cons_zero,n4,n2]
 refine T.weak (zi.frz _ 1000003) ?_;simp only [ASt.frz,List.filter_cons,List.filter_nil,bne_self_eq_false,Nat.reduceBneDiff,Bool.false_eq_true,Nat.reduceEqDiff,Nat.reduceLT,Nat.reduceLeDiff,Nat.reduceAdd,reduceIte,reduceCtorEq,implies_true,Int.reduceEq,Int.reduceNe,Int.reduceLT,Int.reduceLE,Int.reduceSub,Int.reduceAdd,Nat.reduceMul,Nat.reduceMod,amz,zf,tys,subC,List.set_cons_succ,List.set_cons_zero,n4,n2]
 refine T.weak (zi.ofF _ 1000004 48 4 (fsAw.map fuC) (fun r hr=>by obtain ⟨f,_,rfl⟩:=List.mem_map.1 hr;rfl) rfl) ?_
 simp only [zO,Nat.reduceEqDiff,reduceIte,fsAw,fuC,inC5,z5,yl]
 refine T.weak (zi.frz _ 1000004) ?_;simp only [ASt.frz,List.filter_cons,List.filter_nil,bne_self_eq_false,Nat.reduceBneDiff,Bool.false_eq_true,Nat.reduceEqDiff,Nat.reduceLT,Nat.reduceLeDiff,Nat.reduceAdd,reduceIte,reduceCtorEq,implies_true,Int.reduceEq,Int.reduceNe,Int.reduceLT,Int.reduceLE,Int.reduceSub,Int.reduceAdd,Nat.reduceMul,Nat.reduceMod,amz,zf,tys,subC]
 repeat' (first|refine T.zk fun K hK=>?_|apply T.block|apply T.skip|apply T.exit|refine T.zh rfl ?_|refine T.zg rfl ?_|refine T.cond rfl (fun hc=>?_) (fun hc=>?_)|apply T.ret|simp only [ze,z8,reduceIte,Nat.reduceEqDiff]|((repeat ((fail_if_success apply hK);clear hK K));apply hK;clear hK K))
 (refine T.reg (by kernel_rfl) fun K' hK'=>?_;simp only [bz];(with_reducible repeat' (first|(apply WL.fin;apply hK';clear hK' K')|(refine WL.step fun K2 hK2=>?_;simp only [Nat.reduceEqDiff,Nat.reduceLT,Nat.reduceLeDiff,Nat.reduceAdd,reduceIte,reduceCtorEq,implies_true,Int.reduceEq,Int.reduceNe,Int.reduceLT,Int.reduceLE,Int.reduceSub,Int.reduceAdd,Nat.reduceMul,Nat.reduceMod,amz,zf,tys,m1,m2,m3,m5,m6,n4,n2,n1];repeat' (first|(apply hK2;clear hK2 K2)|apply And.intro|intro hb))));all_goals ((try simp only [ze,z8,reduceIte,Nat.reduceEqDiff]);(try ((repeat ((fail_if_success apply hK);clear hK K));apply hK;clear hK K))))
 repeat' (first|refine T.zk fun K hK=>?_|apply T.block|apply T.skip|apply T.exit|refine T.zh rfl ?_|refine T.zg rfl ?_|refine T.cond rfl (fun hc=>?_) (fun hc=>?_)|apply T.ret|simp only [ze,z8,reduceIte,Nat.reduceEqDiff]|((repeat ((fail_if_success apply hK);clear hK K));apply hK;clear hK K))
 (refine T.reg (by kernel_rfl) fun K' hK'=>?_;simp only [bz];(with_reducible repeat' (first|(apply WL.fin;apply hK';clear hK' K')|(refine WL.step fun K2 hK2=>?_;simp only [Nat.reduceEqDiff,Nat.reduceLT,Nat.reduceLeDiff,Nat.reduceAdd,reduceIte,reduceCtorEq,implies_true,Int.reduceEq,Int.reduceNe,Int.reduceLT,Int.reduceLE,Int.reduceSub,Int.reduceAdd,Nat.reduceMul,Nat.reduceMod,amz,zf,tys,e0,e1,Bool.false_eq_true,repC,rAw,rowP];repeat' (first|(apply hK2;clear hK2 K2)|apply And.intro|intro hb))));all_goals ((try simp only [ze,z8,reduceIte,Nat.reduceEqDiff]);(try ((repeat ((fail_if_success apply hK);clear hK K));apply hK;clear hK K))))
 repeat' (first|refine T.zk fun K hK=>?_|apply T.block|apply T.skip|apply T.exit|refine T.zh rfl ?_|refine T.zg rfl ?_|refine T.cond rfl (fun hc=>?_) (fun hc=>?_)|apply T.ret|simp only [ze,z8,reduceIte,Nat.reduceEqDiff]|((repeat ((fail_if_success apply hK);clear hK K));apply hK;clear hK K))
 refine T.drw 29 (by kernel_rfl) (by kernel_rfl) fun K' hK'=>?_;simp only [yl];(repeat' (first|(with_reducible refine WL.fin ?_;apply hK';clear hK' K')|(with_reducible refine WD.fin ?_)|((with_reducible first|refine WL.step fun K2 hK2=>?_|refine WD.step fun K2 hK2=>?_);simp only [Nat.reduceEqDiff,Nat.reduceLT,Nat.reduceLeDiff,Nat.reduceAdd,reduceIte,reduceCtorEq,implies_true,Int.reduceEq,Int.reduceNe,Int.reduceLT,Int.reduceLE,Int.reduceSub,Int.reduceAdd,Nat.reduceMul,Nat.reduceMod,amz,zf,tys,repC,rAw,rowP,beq_self_eq_true,Bool.true_eq_false];(repeat' (first|with_reducible (first|(apply hK2;clear hK2 K2)|apply And.intro|intro hb)|((with_reducible first|apply zl|apply zn);case h=>exact CallV.read 1000001 hpG _ rfl (Ent.of Tryz.func9 (by kernel_rfl) rfl) (hT) (z2P (by decide) (fun t o ho=>by obtain ⟨rfl,rfl⟩:=qZ ho;simp [zq])) (by simp [AV.okB]) rfl))))));all_goals ((try simp only [ze,z8,reduceIte,Nat.reduceEqDiff]);(try ((repeat ((fail_if_success apply hK);clear hK K));apply hK;clear hK K)))
 repeat' (first|refine T.zk fun K hK=>?_|apply T.block|apply T.skip|apply T.exit|refine T.zh rfl ?_|refine T.zg rfl ?_|refine T.cond rfl (fun hc=>?_) (fun hc=>?_)|apply T.ret|simp only [ze,z8,reduceIte,Nat.reduceEqDiff]|((repeat ((fail_if_success apply hK);clear hK K));apply hK;clear hK K))
 all_goals (refine FinM.ret (s':=⟨[(0,.p (.val (.bool true)))],hpG,79,1000001⟩) (r := .p (.val (.bool true))) (.inr rfl) Tryz.results4 (by refine zi.of' rfl ?_;simp only [wks,reduceIte,Nat.reduceEqDiff,ASt.okB,AV.okB,Nat.reduceLT,implies_true,hpG,zH]) rfl ?_ ?_;(focus (simp only [zI,zu,zw,Nat.reduceEqDiff,Nat.reduceLT,Nat.reduceLeDiff,Nat.reduceAdd,reduceIte,reduceCtorEq,implies_true,Int.reduceEq,Int.reduceNe,Int.reduceLT,Int.reduceLE,Int.reduceSub,Int.reduceAdd,Nat.reduceMul,Nat.reduceMod,amz,zf,tys,];done)))
 all_goals exact ⟨rfl,rfl⟩
theorem z8v:z4k Tryz.prog 4 1000001 hpG [] (.bool true):=MemC.read awake_mem z3j
end Go.Proofs.YtbkkginjfnjffaaGreatDoor
