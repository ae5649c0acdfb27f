/- Texts Mc, Dp, Dq, Ky, Dt, Av, Ba, Be, Bb. -/
import Derived.Maps.OwnSet
import Derived.DeepKeys4
import Derived.Shelf.SlSortCmp.Whole1
import Derived.Shelf.SlSortCmp.NoneTotal
import Derived.Shelf.SlicesQ.Reverse
import Derived.Test.YtbkkginjfnjffaaGreatDoorZ06
set_option maxHeartbeats 32000000
set_option maxRecDepth 100000
set_option linter.unusedSimpArgs false
set_option linter.unusedVariables false
namespace Go.Proofs.YtbkkginjfnjffaaGreatDoor
open Go.RowKit Go.Sort
def stB (n:Nat) (e:Ev):Bool:=decide (0≤e.st)&&decide (e.st<(n:Int))
def accE (n:Nat) (e f:Ev):Bool:=z0f e f&&stB n e&&stB n f
def accB (l:List Ev) (n:Nat) (r:P2):Bool:=decide (0≤r.1)&&decide (r.1<r.2)&&decide (r.2<(l.length:Int))&&match l[r.1.toNat]?,l[r.2.toNat]? with
 | some e,some f=>accE n e f
 | _,_=>false
theorem z5n {l:List Ev} {n:Nat} {r:P2} (h:accB l n r=true) : ∃ e f,Rac l r e f∧accE n e f=true:=by
 simp only [accB,Bool.and_eq_true,decide_eq_true_eq] at h
 obtain ⟨⟨⟨h1,h2⟩,h3⟩,h4⟩:=h
 cases he:l[r.1.toNat]? with
 | none=>rw [he] at h4;cases h4
 | some e =>
  cases hf:l[r.2.toNat]? with
  | none=>rw [he,hf] at h4;cases h4
  | some f=>rw [he,hf] at h4;exact ⟨e,f,⟨h1,h2,h3,he,hf⟩,h4⟩
theorem z7B {l:List Ev} {n:Nat} {r:P2} {e f:Ev} (h:Rac l r e f):accB l n r=accE n e f:=by
 simp [accB,h.i0,h.ij,h.j,h.e,h.f]
theorem rac_of {l:List Ev} {r:P2} (h1 : 0≤r.1) (h2:r.1<r.2) (h3:r.2<(l.length:Int)) : ∃ e f,Rac l r e f:=by
 obtain ⟨e,he⟩:=qA (l:=l) (k:=r.1.toNat) (by omega)
 obtain ⟨f,hf⟩:=qA (l:=l) (k:=r.2.toNat) (by omega)
 exact ⟨e,f,h1,h2,h3,he,hf⟩
def stAc (l:List Ev) (ss:List P2) (ps:List Int) (r:P2) (e f:Ev) (b:Nat→Bool):ASt:=⟨[(26,bif b 0 then .ptr 0 0 else .zy),(27,bif b 1 then (.p (.seq 9 (l.map evC))) else .zy),(28,bif b 2 then .ptr 1 0 else .zy),(29,bif b 3 then .int r.1 else .zy),(30,bif b 4 then .elt (evC e) 0 else .zy),(31,bif b 5 then evA e else .zy),(32,bif b 6 then .ptr 0 0 else .zy),(33,bif b 7 then (.p (.seq 9 (l.map evC))) else .zy),(34,bif b 8 then .ptr 1 1 else .zy),(35,bif b 9 then .int r.2 else .zy),(36,bif b 10 then .elt (evC f) 0 else .zy),(37,bif b 11 then evA f else .zy),(5,bif b 12 then .ptr 2 0 else .zy),(6,bif b 13 then .ptr 3 0 else .zy),(2,.ptr 0 0),(3,.ptr 1 0),(4,.bool false)],(bif b 12 then [(2,AO.boxP none 33 (bif b 14 then ((evC e).map .p) else [.int 0,.int 0,.int 0,.int 0,.int 0,.int 0,.int 0,.int 0,.int 0]))] else [])++((bif b 13 then [(3,AO.boxP none 33 (bif b 15 then ((evC f).map .p) else [.int 0,.int 0,.int 0,.int 0,.int 0,.int 0,.int 0,.int 0,.int 0]))] else []) ++ [(1,AO.boxP none 45 [.int r.1,.int r.2]),(0,AO.boxP none 31 [.p (.seq 9 (l.map evC)),.p (.seq 2 (rowP ss)),.p (.seq 1 (rowZ ps))])]),67,4⟩
def stAd (l:List Ev) (ss:List P2) (ps:List Int) (r:P2) (e f:Ev) (b:Nat→Bool):ASt:=⟨[(26,bif b 0 then .ptr 0 0 else .zy),(27,bif b 1 then (.p (.seq 9 (l.map evC))) else .zy),(28,bif b 2 then .ptr 1 0 else .zy),(29,bif b 3 then .int r.1 else .zy),(30,bif b 4 then .elt (evC e) 0 else .zy),(31,bif b 5 then evA e else .zy),(32,bif b 6 then .ptr 0 0 else .zy),(33,bif b 7 then (.p (.seq 9 (l.map evC))) else .zy),(34,bif b 8 then .ptr 1 1 else .zy),(35,bif b 9 then .int r.2 else .zy),(36,bif b 10 then .elt (evC f) 0 else .zy),(37,bif b 11 then evA f else .zy),(5,bif b 12 then .ptr 2 0 else .zy),(6,bif b 13 then .ptr 3 0 else .zy),(2,.ptr 0 0),(3,.ptr 1 0),(4,.bool false)],(bif b 12 then [(2,AO.boxP none 33 (bif b 14 then ((evC e).map .p) else [.int 0,.int 0,.int 0,.int 0,.int 0,.int 0,.int 0,.int 0,.int 0]))] else [])++((bif b 13 then [(3,AO.boxP none 33 (bif b 15 then ((evC f).map .p) else [.int 0,.int 0,.int 0,.int 0,.int 0,.int 0,.int 0,.int 0,.int 0]))] else []) ++ [(1,AO.boxP none 45 [.int r.1,.int r.2]),(0,AO.boxP none 31 [.p (.seq 9 (l.map evC)),.p (.seq 2 (rowP ss)),.p (.seq 1 (rowZ ps))])]),52,4⟩
theorem accR_ok (l:List Ev) (ss:List P2) (ps:List Int) (r:P2):zt Tryz.prog 23 [trA l ss ps,p2A r] (.bool (accB l ss.length r)):=by
 have hlm:(l.map evC).length=l.length:=by simp
 have hls:=z04 ss
 simp only [trA,p2A]
 by_cases h1:r.1<0
 ·have g1:decide (r.1<0)=true:=by simpa using h1
  have he:accB l ss.length r=false:=by simp [accB,Int.not_le.2 h1]
  refine zt.of Tryz.func23 rfl 67 rfl (by decide) (by simp [AV.okB]) ?_
  repeat' (first|refine T.zk fun K hK=>?_|apply T.block|(refine T.reg (by kernel_rfl) fun K' hK'=>?_;simp only [bz];(with_reducible repeat' (first|(apply WL.fin;apply hK';clear hK' K')|(refine WL.step fun K2 hK2=>?_;simp only [simprocAttr,az,g1,hlm];repeat' (first|(apply hK2;clear hK2 K2)|apply And.intro|intro hb)))))|apply T.skip|apply T.exit|refine T.zh rfl ?_|refine T.zg rfl ?_|refine T.cond rfl (fun hc=>?_) (fun hc=>?_)|apply T.ret|simp only [ze,z8,reduceIte,Nat.reduceEqDiff]|((repeat ((fail_if_success apply hK);clear hK K));apply hK;clear hK K))
  all_goals (refine zP.ret (.inr rfl) Tryz.results23 ?_;simp only [zI,zu,zw,simprocAttr,az,he])
 have g1:decide (r.1<0)=false:=by simpa using h1
 by_cases h2:r.2≤r.1
 ·have g2:decide (r.2≤r.1)=true:=by simpa using h2
  have he:accB l ss.length r=false:=by simp [accB,Int.not_lt.2 h2]
  refine zt.of Tryz.func23 rfl 67 rfl (by decide) (by simp [AV.okB]) ?_
  repeat' (first|refine T.zk fun K hK=>?_|apply T.block|(refine T.reg (by kernel_rfl) fun K' hK'=>?_;simp only [bz];(with_reducible repeat' (first|(apply WL.fin;apply hK';clear hK' K')|(refine WL.step fun K2 hK2=>?_;simp only [simprocAttr,az,g1,g2,hlm];repeat' (first|(apply hK2;clear hK2 K2)|apply And.intro|intro hb)))))|apply T.skip|apply T.exit|refine T.zh rfl ?_|refine T.zg rfl ?_|refine T.cond rfl (fun hc=>?_) (fun hc=>?_)|apply T.ret|simp only [ze,z8,reduceIte,Nat.reduceEqDiff]|((repeat ((fail_if_success apply hK);clear hK K));apply hK;clear hK K))
  all_goals (refine zP.ret (.inr rfl) Tryz.results23 ?_;simp only [zI,zu,zw,simprocAttr,az,he])
 have g2:decide (r.2≤r.1)=false:=by simpa using h2
 by_cases h3:(l.length:Int)≤r.2
 ·have g3:decide ((l.length:Int)≤r.2)=true:=by simpa using h3
  have he:accB l ss.length r=false:=by simp [accB,Int.not_lt.2 h3]
  refine zt.of Tryz.func23 rfl 67 rfl (by decide) (by simp [AV.okB]) ?_
  repeat' (first|refine T.zk fun K hK=>?_|apply T.block|(refine T.reg (by kernel_rfl) fun K' hK'=>?_;simp only [bz];(with_reducible repeat' (first|(apply WL.fin;apply hK';clear hK' K')|(refine WL.step fun K2 hK2=>?_;simp only [simprocAttr,az,g1,g2,g3,hlm];repeat' (first|(apply hK2;clear hK2 K2)|apply And.intro|intro hb)))))|apply T.skip|apply T.exit|refine T.zh rfl ?_|refine T.zg rfl ?_|refine T.cond rfl (fun hc=>?_) (fun hc=>?_)|apply T.ret|simp only [ze,z8,reduceIte,Nat.reduceEqDiff]|((repeat ((fail_if_success apply hK);clear hK K));apply hK;clear hK K))
  all_goals (refine zP.ret (.inr rfl) Tryz.results23 ?_;simp only [zI,zu,zw,simprocAttr,az,he])
 have g3:decide ((l.length:Int)≤r.2)=false:=by simpa using h3
 obtain ⟨e,f,hr⟩:=rac_of (l:=l) (r:=r) (by omega) (by omega) (by omega)
 have hi0:(0≤r.1)=True:=eq_true (by omega)
 have hj0:(0≤r.2)=True:=eq_true (by omega)
 have mi:=z0W hr.e
 have mj:=z0W hr.f
 rw [z7B hr]
 have hc:=z3K e f
 simp only [evA,evC,yl] at hc
 refine zt.of Tryz.func23 rfl 67 rfl (by decide) (by simp [AV.okB]) ?_
 repeat' (first|refine T.zk fun K hK=>?_|apply T.block|(refine T.reg (by kernel_rfl) fun K' hK'=>?_;simp only [bz];(with_reducible repeat' (first|(apply WL.fin;apply hK';clear hK' K')|(refine WL.step fun K2 hK2=>?_;simp only [simprocAttr,az,g1,g2,g3,hlm];repeat' (first|(apply hK2;clear hK2 K2)|apply And.intro|intro hb)))))|apply T.skip|apply T.exit|refine T.zh rfl ?_|refine T.zg rfl ?_|refine T.cond rfl (fun hc=>?_) (fun hc=>?_)|apply T.ret|simp only [ze,z8,reduceIte,Nat.reduceEqDiff]|((repeat ((fail_if_success apply hK);clear hK K));apply hK;clear hK K))
 refine T.inv (stAc l ss ps r e f) (by kernel_rfl) (by kernel_rfl) ?_ (fun b hcl=>?_) fun K' hK'=>?_
 ·simp only [stAc,cond_false,List.nil_append];refine zi.of' rfl ?_;simp only [wks,reduceIte,Nat.reduceEqDiff,ASt.okB,AV.okB,AO.zL,AV.zT,List.all_cons,List.all_nil,Nat.reduceLT,implies_true,List.nil_append,List.cons_append,cond_true,cond_false,and_self,zS,zU,Bool.cond_self,Bool.and_self,AV.zG,AV.zW,AV.zF,AV.zA,AV.zD,yl,evA,evC,yl,hlm,hi0,hj0,mi,mj]
 ·simp only [allL,Nat.reduceAdd]
  refine ⟨fun hb hd=>?_,fun hb hd=>?_,fun hb hd=>?_,fun hb hd=>?_,fun hb hd=>?_,fun hb hd=>?_,fun hb hd=>?_,fun hb hd=>?_,fun hb hd=>?_,fun hb hd=>?_,fun hb hd=>?_,fun hb hd=>?_,fun hb hd=>?_,fun hb hd=>?_,fun hb hd=>?_,fun hb hd=>?_,trivial⟩
  ·refine ⟨by trivial,by simp [zC,stAc],?_⟩
   simp only [simprocAttr,az,lkc,zV,Nat.reduceBEq,yb,stAc,evA,evC,yl,hlm,hi0,hj0,mi,mj]
   all_goals (refine zi.slots ?_;simp only [wks,reduceIte,Nat.reduceEqDiff,implies_true,cond_true,and_self])
  ·have d0:=zm hd (j := 0) (by decide) (by kernel_rfl);refine ⟨by trivial,by simp [zC,stAc],?_⟩
   simp only [simprocAttr,az,lkc,zV,Nat.reduceBEq,yb,stAc,evA,evC,yl,hlm,hi0,hj0,mi,mj,d0]
   all_goals (refine zi.slots ?_;simp only [wks,reduceIte,Nat.reduceEqDiff,implies_true,cond_true,and_self,d0])
  ·refine ⟨by trivial,by simp [zC,stAc],?_⟩
   simp only [simprocAttr,az,lkc,zV,Nat.reduceBEq,yb,stAc,evA,evC,yl,hlm,hi0,hj0,mi,mj]
   all_goals (refine zi.slots ?_;simp only [wks,reduceIte,Nat.reduceEqDiff,implies_true,cond_true,and_self])
  ·have d2:=zm hd (j := 2) (by decide) (by kernel_rfl);refine ⟨by trivial,by simp [zC,stAc],?_⟩
   simp only [simprocAttr,az,lkc,zV,Nat.reduceBEq,yb,stAc,evA,evC,yl,hlm,hi0,hj0,mi,mj,d2]
   all_goals (refine zi.slots ?_;simp only [wks,reduceIte,Nat.reduceEqDiff,implies_true,cond_true,and_self,d2])
  ·have d1:=zm hd (j := 1) (by decide) (by kernel_rfl);have d3:=zm hd (j := 3) (by decide) (by kernel_rfl);refine ⟨by trivial,by simp [zC,stAc],?_⟩
   simp only [simprocAttr,az,lkc,zV,Nat.reduceBEq,yb,stAc,evA,evC,yl,hlm,hi0,hj0,mi,mj,d1,d3]
   all_goals (refine zi.slots ?_;simp only [wks,reduceIte,Nat.reduceEqDiff,implies_true,cond_true,and_self,d1,d3])
  ·have d4:=zm hd (j := 4) (by decide) (by kernel_rfl);refine ⟨by trivial,by simp [zC,stAc],?_⟩
   simp only [simprocAttr,az,lkc,zV,Nat.reduceBEq,yb,stAc,evA,evC,yl,hlm,hi0,hj0,mi,mj,d4]
   all_goals (refine zi.slots ?_;simp only [wks,reduceIte,Nat.reduceEqDiff,implies_true,cond_true,and_self,d4])
  ·refine ⟨by trivial,by simp [zC,stAc],?_⟩
   simp only [simprocAttr,az,lkc,zV,Nat.reduceBEq,yb,stAc,evA,evC,yl,hlm,hi0,hj0,mi,mj]
   all_goals (refine zi.slots ?_;simp only [wks,reduceIte,Nat.reduceEqDiff,implies_true,cond_true,and_self])
  ·have d6:=zm hd (j := 6) (by decide) (by kernel_rfl);refine ⟨by trivial,by simp [zC,stAc],?_⟩
   simp only [simprocAttr,az,lkc,zV,Nat.reduceBEq,yb,stAc,evA,evC,yl,hlm,hi0,hj0,mi,mj,d6]
   all_goals (refine zi.slots ?_;simp only [wks,reduceIte,Nat.reduceEqDiff,implies_true,cond_true,and_self,d6])
  ·refine ⟨by trivial,by simp [zC,stAc],?_⟩
   simp only [simprocAttr,az,lkc,zV,Nat.reduceBEq,yb,stAc,evA,evC,yl,hlm,hi0,hj0,mi,mj]
   all_goals (refine zi.slots ?_;simp only [wks,reduceIte,Nat.reduceEqDiff,implies_true,cond_true,and_self])
  ·have d8:=zm hd (j := 8) (by decide) (by kernel_rfl);refine ⟨by trivial,by simp [zC,stAc],?_⟩
   simp only [simprocAttr,az,lkc,zV,Nat.reduceBEq,yb,stAc,evA,evC,yl,hlm,hi0,hj0,mi,mj,d8]
   all_goals (refine zi.slots ?_;simp only [wks,reduceIte,Nat.reduceEqDiff,implies_true,cond_true,and_self,d8])
  ·have d7:=zm hd (j := 7) (by decide) (by kernel_rfl);have d9:=zm hd (j := 9) (by decide) (by kernel_rfl);refine ⟨by trivial,by simp [zC,stAc],?_⟩
   simp only [simprocAttr,az,lkc,zV,Nat.reduceBEq,yb,stAc,evA,evC,yl,hlm,hi0,hj0,mi,mj,d7,d9]
   all_goals (refine zi.slots ?_;simp only [wks,reduceIte,Nat.reduceEqDiff,implies_true,cond_true,and_self,d7,d9])
  ·have d10:=zm hd (j := 10) (by decide) (by kernel_rfl);refine ⟨by trivial,by simp [zC,stAc],?_⟩
   simp only [simprocAttr,az,lkc,zV,Nat.reduceBEq,yb,stAc,evA,evC,yl,hlm,hi0,hj0,mi,mj,d10]
   all_goals (refine zi.slots ?_;simp only [wks,reduceIte,Nat.reduceEqDiff,implies_true,cond_true,and_self,d10])
  ·have h3:b 14=false:=by
    cases h:b 14 with
    | false=>rfl
    | true =>
     have h4:=zm (hcl 14 (by decide) h) (j := 12) (by decide) (by kernel_rfl)
     rw [hb] at h4;cases h4
   refine ⟨by trivial,by simp [zC,stAc],?_⟩
   cases h1:b 13 <;> cases h2:b 15 <;> (simp only [simprocAttr,az,lkc,zV,Nat.reduceBEq,yb,stAc,evA,evC,yl,hlm,hi0,hj0,mi,mj,hb,h1,h2,h3];refine (zi.ren _ 4 2).trans ?_;simp only [ASt.ren,AV.zZ,AV.zG,AV.qd,AV.qw,AV.zW,AV.zF,AV.zA,AV.qc,AV.qO,AV.zD,AV.qx,AO.qD,AO.qG,AO.qE,AO.qF,yl,List.filter_cons,List.filter_nil,zq,qp,reduceIte,Nat.reduceEqDiff,Nat.reduceLT,Nat.reduceBneDiff,bne_self_eq_false,Bool.and_true,Bool.and_false,Bool.true_and,Bool.false_and,Bool.and_self,Bool.false_eq_true,ne_eq,not_false_eq_true,not_true_eq_false,and_self,and_true,true_and,and_false];refine zi.of' rfl ?_;simp only [wks,reduceIte,Nat.reduceEqDiff,ASt.okB,AV.okB,AO.zL,AV.zT,List.all_cons,List.all_nil,Nat.reduceLT,implies_true,List.nil_append,List.cons_append,cond_true,cond_false,and_self,zS,zU,Bool.cond_self,Bool.and_self,AV.zG,AV.zW,AV.zF,AV.zA,AV.zD,yl,evA,evC,yl,hlm,hi0,hj0,mi,mj])
  ·have h3:b 15=false:=by
    cases h:b 15 with
    | false=>rfl
    | true =>
     have h4:=zm (hcl 15 (by decide) h) (j := 13) (by decide) (by kernel_rfl)
     rw [hb] at h4;cases h4
   refine ⟨by trivial,by simp [zC,stAc],?_⟩
   cases h1:b 12 <;> cases h2:b 14 <;> (simp only [simprocAttr,az,lkc,zV,Nat.reduceBEq,yb,stAc,evA,evC,yl,hlm,hi0,hj0,mi,mj,hb,h1,h2,h3];refine (zi.ren _ 4 3).trans ?_;simp only [ASt.ren,AV.zZ,AV.zG,AV.qd,AV.qw,AV.zW,AV.zF,AV.zA,AV.qc,AV.qO,AV.zD,AV.qx,AO.qD,AO.qG,AO.qE,AO.qF,yl,List.filter_cons,List.filter_nil,zq,qp,reduceIte,Nat.reduceEqDiff,Nat.reduceLT,Nat.reduceBneDiff,bne_self_eq_false,Bool.and_true,Bool.and_false,Bool.true_and,Bool.false_and,Bool.and_self,Bool.false_eq_true,ne_eq,not_false_eq_true,not_true_eq_false,and_self,and_true,true_and,and_false];refine zi.of' rfl ?_;simp only [wks,reduceIte,Nat.reduceEqDiff,ASt.okB,AV.okB,AO.zL,AV.zT,List.all_cons,List.all_nil,Nat.reduceLT,implies_true,List.nil_append,List.cons_append,cond_true,cond_false,and_self,zS,zU,Bool.cond_self,Bool.and_self,AV.zG,AV.zW,AV.zF,AV.zA,AV.zD,yl,evA,evC,yl,hlm,hi0,hj0,mi,mj])
  ·have d12:=zm hd (j := 12) (by decide) (by kernel_rfl);have d5:=zm hd (j := 5) (by decide) (by kernel_rfl)
   refine ⟨by trivial,by simp [zC,stAc],?_⟩
   cases h1:b 13 <;> cases h2:b 15 <;> (simp only [simprocAttr,az,lkc,zV,Nat.reduceBEq,yb,stAc,evA,evC,yl,hlm,hi0,hj0,mi,mj,hb,h1,h2,d12,d5];refine zi.of' rfl ?_;simp only [wks,reduceIte,Nat.reduceEqDiff,ASt.okB,AV.okB,AO.zL,AV.zT,List.all_cons,List.all_nil,Nat.reduceLT,implies_true,List.nil_append,List.cons_append,cond_true,cond_false,and_self,zS,zU,Bool.cond_self,Bool.and_self,AV.zG,AV.zW,AV.zF,AV.zA,AV.zD,yl,evA,evC,yl,hlm,hi0,hj0,mi,mj])
  ·have d13:=zm hd (j := 13) (by decide) (by kernel_rfl);have d11:=zm hd (j := 11) (by decide) (by kernel_rfl)
   refine ⟨by trivial,by simp [zC,stAc],?_⟩
   cases h1:b 12 <;> cases h2:b 14 <;> (simp only [simprocAttr,az,lkc,zV,Nat.reduceBEq,yb,stAc,evA,evC,yl,hlm,hi0,hj0,mi,mj,hb,h1,h2,d13,d11];refine zi.of' rfl ?_;simp only [wks,reduceIte,Nat.reduceEqDiff,ASt.okB,AV.okB,AO.zL,AV.zT,List.all_cons,List.all_nil,Nat.reduceLT,implies_true,List.nil_append,List.cons_append,cond_true,cond_false,and_self,zS,zU,Bool.cond_self,Bool.and_self,AV.zG,AV.zW,AV.zF,AV.zA,AV.zD,yl,evA,evC,yl,hlm,hi0,hj0,mi,mj])
 apply hK';clear hK' K';simp only [stAc,List.length_cons,List.length_nil,Nat.reduceAdd,Nat.reduceLT,decide_true,cond_true,List.cons_append,List.nil_append];(try simp only [ze,z8,reduceIte,Nat.reduceEqDiff]);(try ((repeat ((fail_if_success apply hK);clear hK K));apply hK;clear hK K))
 all_goals repeat' (first|refine T.zk fun K hK=>?_|apply T.block|(refine T.reg (by kernel_rfl) fun K' hK'=>?_;simp only [bz];(repeat' (first|(with_reducible refine WL.fin ?_;apply hK';clear hK' K')|((with_reducible refine WL.step fun K2 hK2=>?_);simp only [simprocAttr,az,evC,yl,hls];(repeat' (first|with_reducible (first|(apply hK2;clear hK2 K2)|apply And.intro|intro hb)|((with_reducible first|apply zl|apply zn);case h=>exact CallV.plain (Ent.of Tryz.func12 (by kernel_rfl) rfl) (hc) (by simp [AV.okB]))))))))|apply T.skip|apply T.exit|refine T.zh rfl ?_|refine T.zg rfl ?_|refine T.cond rfl (fun hc=>?_) (fun hc=>?_)|apply T.ret|simp only [ze,z8,reduceIte,Nat.reduceEqDiff]|((repeat ((fail_if_success apply hK);clear hK K));apply hK;clear hK K))
 all_goals (refine zP.ret (.inr rfl) Tryz.results23 ?_;simp only [zI,zu,zw,simprocAttr,az,];first|(simp [accE,stB, *];done)|(simp_all [accE,stB];done)|(simp_all [accE,stB];omega))
theorem z7S (bb:Nat) (l:List Ev) (ss:List P2) (ps:List Int) (e:Ev):MemC Tryz.prog 39 1 [(0,.boxP (some bb) 31 [.p (.seq 9 (l.map evC)),.p (.seq 2 (rowP ss)),.p (.seq 1 (rowZ ps))])] [evA e,.ptr 0 0]
  (fun hp' r=>hp' = [(0,.boxP (some bb) 31 [.p (.seq 9 (l.map evC)),.p (.seq 2 (rowP ss)),.p (.seq 1 (rowZ ps))])]∧r = .bool (stB ss.length e)):=by
 have hls:=z04 ss
 simp only [evA,evC,yl]
 refine MemC.of Tryz.func39 rfl 16 rfl (by decide) ?_;simp only [z08,frOf]
 repeat' (first|refine T.zk fun K hK=>?_|apply T.block|(refine T.reg (by kernel_rfl) fun K' hK'=>?_;simp only [bz];(with_reducible repeat' (first|(apply WL.fin;apply hK';clear hK' K')|(refine WL.step fun K2 hK2=>?_;simp only [simprocAttr,az,hls];repeat' (first|(apply hK2;clear hK2 K2)|apply And.intro|intro hb)))))|apply T.skip|apply T.exit|refine T.zh rfl ?_|refine T.zg rfl ?_|refine T.cond rfl (fun hc=>?_) (fun hc=>?_)|apply T.ret|simp only [ze,z8,reduceIte,Nat.reduceEqDiff]|((repeat ((fail_if_success apply hK);clear hK K));apply hK;clear hK K))
 all_goals (refine FinM.ret (s':=⟨[(3,.bool (stB ss.length e))],[(0,.boxP (some bb) 31 [.p (.seq 9 (l.map evC)),.p (.seq 2 (rowP ss)),.p (.seq 1 (rowZ ps))])],16,1⟩) (r := .bool (stB ss.length e)) (.inr rfl) Tryz.results39 (by refine zi.of' rfl ?_;simp only [wks,reduceIte,Nat.reduceEqDiff,ASt.okB,AV.okB,Nat.reduceLT,implies_true,stB,hb,Bool.true_and,Bool.false_and]) rfl ?_ ?_;(focus (simp only [zI,zu,zw,simprocAttr,az,];done)))
 all_goals exact ⟨rfl,rfl⟩
theorem acc_ok (l:List Ev) (ss:List P2) (ps:List Int) (r:P2):zt Tryz.prog 14 [trA l ss ps,p2A r] (.bool (accB l ss.length r)):=by
 have hlm:(l.map evC).length=l.length:=by simp
 have hls:=z04 ss
 simp only [trA,p2A]
 by_cases h1:r.1<0
 ·have g1:decide (r.1<0)=true:=by simpa using h1
  have he:accB l ss.length r=false:=by simp [accB,Int.not_le.2 h1]
  refine zt.of Tryz.func14 rfl 52 rfl (by decide) (by simp [AV.okB]) ?_
  repeat' (first|refine T.zk fun K hK=>?_|apply T.block|(refine T.reg (by kernel_rfl) fun K' hK'=>?_;simp only [bz];(with_reducible repeat' (first|(apply WL.fin;apply hK';clear hK' K')|(refine WL.step fun K2 hK2=>?_;simp only [simprocAttr,az,g1,hlm];repeat' (first|(apply hK2;clear hK2 K2)|apply And.intro|intro hb)))))|apply T.skip|apply T.exit|refine T.zh rfl ?_|refine T.zg rfl ?_|refine T.cond rfl (fun hc=>?_) (fun hc=>?_)|apply T.ret|simp only [ze,z8,reduceIte,Nat.reduceEqDiff]|((repeat ((fail_if_success apply hK);clear hK K));apply hK;clear hK K))
  all_goals (refine zP.ret (.inr rfl) Tryz.results14 ?_;simp only [zI,zu,zw,simprocAttr,az,he])
 have g1:decide (r.1<0)=false:=by simpa using h1
 by_cases h2:r.2≤r.1
 ·have g2:decide (r.2≤r.1)=true:=by simpa using h2
  have he:accB l ss.length r=false:=by simp [accB,Int.not_lt.2 h2]
  refine zt.of Tryz.func14 rfl 52 rfl (by decide) (by simp [AV.okB]) ?_
  repeat' (first|refine T.zk fun K hK=>?_|apply T.block|(refine T.reg (by kernel_rfl) fun K' hK'=>?_;simp only [bz];(with_reducible repeat' (first|(apply WL.fin;apply hK';clear hK' K')|(refine WL.step fun K2 hK2=>?_;simp only [simprocAttr,az,g1,g2,hlm];repeat' (first|(apply hK2;clear hK2 K2)|apply And.intro|intro hb)))))|apply T.skip|apply T.exit|refine T.zh rfl ?_|refine T.zg rfl ?_|refine T.cond rfl (fun hc=>?_) (fun hc=>?_)|apply T.ret|simp only [ze,z8,reduceIte,Nat.reduceEqDiff]|((repeat ((fail_if_success apply hK);clear hK K));apply hK;clear hK K))
  all_goals (refine zP.ret (.inr rfl) Tryz.results14 ?_;simp only [zI,zu,zw,simprocAttr,az,he])
 have g2:decide (r.2≤r.1)=false:=by simpa using h2
 by_cases h3:(l.length:Int)≤r.2
 ·have g3:decide ((l.length:Int)≤r.2)=true:=by simpa using h3
  have he:accB l ss.length r=false:=by simp [accB,Int.not_lt.2 h3]
  refine zt.of Tryz.func14 rfl 52 rfl (by decide) (by simp [AV.okB]) ?_
  repeat' (first|refine T.zk fun K hK=>?_|apply T.block|(refine T.reg (by kernel_rfl) fun K' hK'=>?_;simp only [bz];(with_reducible repeat' (first|(apply WL.fin;apply hK';clear hK' K')|(refine WL.step fun K2 hK2=>?_;simp only [simprocAttr,az,g1,g2,g3,hlm];repeat' (first|(apply hK2;clear hK2 K2)|apply And.intro|intro hb)))))|apply T.skip|apply T.exit|refine T.zh rfl ?_|refine T.zg rfl ?_|refine T.cond rfl (fun hc=>?_) (fun hc=>?_)|apply T.ret|simp only [ze,z8,reduceIte,Nat.reduceEqDiff]|((repeat ((fail_if_success apply hK);clear hK K));apply hK;clear hK K))
  all_goals (refine zP.ret (.inr rfl) Tryz.results14 ?_;simp only [zI,zu,zw,simprocAttr,az,he])
 have g3:decide ((l.length:Int)≤r.2)=false:=by simpa using h3
 obtain ⟨e,f,hr⟩:=rac_of (l:=l) (r:=r) (by omega) (by omega) (by omega)
 have hi0:(0≤r.1)=True:=eq_true (by omega)
 have hj0:(0≤r.2)=True:=eq_true (by omega)
 have mi:=z0W hr.e
 have mj:=z0W hr.f
 rw [z7B hr]
 have hc:=z7a e f
 have hke:=fun bb=>z7S bb l ss ps e
 have hkf:=fun bb=>z7S bb l ss ps f
 simp only [evA,evC,yl] at hc hke hkf
 refine zt.of Tryz.func14 rfl 52 rfl (by decide) (by simp [AV.okB]) ?_
 repeat' (first|refine T.zk fun K hK=>?_|apply T.block|(refine T.reg (by kernel_rfl) fun K' hK'=>?_;simp only [bz];(with_reducible repeat' (first|(apply WL.fin;apply hK';clear hK' K')|(refine WL.step fun K2 hK2=>?_;simp only [simprocAttr,az,g1,g2,g3,hlm];repeat' (first|(apply hK2;clear hK2 K2)|apply And.intro|intro hb)))))|apply T.skip|apply T.exit|refine T.zh rfl ?_|refine T.zg rfl ?_|refine T.cond rfl (fun hc=>?_) (fun hc=>?_)|apply T.ret|simp only [ze,z8,reduceIte,Nat.reduceEqDiff]|((repeat ((fail_if_success apply hK);clear hK K));apply hK;clear hK K))
 refine T.inv (stAd l ss ps r e f) (by kernel_rfl) (by kernel_rfl) ?_ (fun b hcl=>?_) fun K' hK'=>?_
 ·simp only [stAd,cond_false,List.nil_append];refine zi.of' rfl ?_;simp only [wks,reduceIte,Nat.reduceEqDiff,ASt.okB,AV.okB,AO.zL,AV.zT,List.all_cons,List.all_nil,Nat.reduceLT,implies_true,List.nil_append,List.cons_append,cond_true,cond_false,and_self,zS,zU,Bool.cond_self,Bool.and_self,AV.zG,AV.zW,AV.zF,AV.zA,AV.zD,yl,evA,evC,yl,hlm,hi0,hj0,mi,mj]
 ·simp only [allL,Nat.reduceAdd]
  refine ⟨fun hb hd=>?_,fun hb hd=>?_,fun hb hd=>?_,fun hb hd=>?_,fun hb hd=>?_,fun hb hd=>?_,fun hb hd=>?_,fun hb hd=>?_,fun hb hd=>?_,fun hb hd=>?_,fun hb hd=>?_,fun hb hd=>?_,fun hb hd=>?_,fun hb hd=>?_,fun hb hd=>?_,fun hb hd=>?_,trivial⟩
  ·refine ⟨by trivial,by simp [zC,stAd],?_⟩
   simp only [simprocAttr,az,lkc,zV,Nat.reduceBEq,yb,stAd,evA,evC,yl,hlm,hi0,hj0,mi,mj]
   all_goals (refine zi.slots ?_;simp only [wks,reduceIte,Nat.reduceEqDiff,implies_true,cond_true,and_self])
  ·have d0:=zm hd (j := 0) (by decide) (by kernel_rfl);refine ⟨by trivial,by simp [zC,stAd],?_⟩
   simp only [simprocAttr,az,lkc,zV,Nat.reduceBEq,yb,stAd,evA,evC,yl,hlm,hi0,hj0,mi,mj,d0]
   all_goals (refine zi.slots ?_;simp only [wks,reduceIte,Nat.reduceEqDiff,implies_true,cond_true,and_self,d0])
  ·refine ⟨by trivial,by simp [zC,stAd],?_⟩
   simp only [simprocAttr,az,lkc,zV,Nat.reduceBEq,yb,stAd,evA,evC,yl,hlm,hi0,hj0,mi,mj]
   all_goals (refine zi.slots ?_;simp only [wks,reduceIte,Nat.reduceEqDiff,implies_true,cond_true,and_self])
  ·have d2:=zm hd (j := 2) (by decide) (by kernel_rfl);refine ⟨by trivial,by simp [zC,stAd],?_⟩
   simp only [simprocAttr,az,lkc,zV,Nat.reduceBEq,yb,stAd,evA,evC,yl,hlm,hi0,hj0,mi,mj,d2]
   all_goals (refine zi.slots ?_;simp only [wks,reduceIte,Nat.reduceEqDiff,implies_true,cond_true,and_self,d2])
  ·have d1:=zm hd (j := 1) (by decide) (by kernel_rfl);have d3:=zm hd (j := 3) (by decide) (by kernel_rfl);refine ⟨by trivial,by simp [zC,stAd],?_⟩
   simp only [simprocAttr,az,lkc,zV,Nat.reduceBEq,yb,stAd,evA,evC,yl,hlm,hi0,hj0,mi,mj,d1,d3]
   all_goals (refine zi.slots ?_;simp only [wks,reduceIte,Nat.reduceEqDiff,implies_true,cond_true,and_self,d1,d3])
  ·have d4:=zm hd (j := 4) (by decide) (by kernel_rfl);refine ⟨by trivial,by simp [zC,stAd],?_⟩
   simp only [simprocAttr,az,lkc,zV,Nat.reduceBEq,yb,stAd,evA,evC,yl,hlm,hi0,hj0,mi,mj,d4]
   all_goals (refine zi.slots ?_;simp only [wks,reduceIte,Nat.reduceEqDiff,implies_true,cond_true,and_self,d4])
  ·refine ⟨by trivial,by simp [zC,stAd],?_⟩
   simp only [simprocAttr,az,lkc,zV,Nat.reduceBEq,yb,stAd,evA,evC,yl,hlm,hi0,hj0,mi,mj]
   all_goals (refine zi.slots ?_;simp only [wks,reduceIte,Nat.reduceEqDiff,implies_true,cond_true,and_self])
  ·have d6:=zm hd (j := 6) (by decide) (by kernel_rfl);refine ⟨by trivial,by simp [zC,stAd],?_⟩
   simp only [simprocAttr,az,lkc,zV,Nat.reduceBEq,yb,stAd,evA,evC,yl,hlm,hi0,hj0,mi,mj,d6]
   all_goals (refine zi.slots ?_;simp only [wks,reduceIte,Nat.reduceEqDiff,implies_true,cond_true,and_self,d6])
  ·refine ⟨by trivial,by simp [zC,stAd],?_⟩
   simp only [simprocAttr,az,lkc,zV,Nat.reduceBEq,yb,stAd,evA,evC,yl,hlm,hi0,hj0,mi,mj]
   all_goals (refine zi.slots ?_;simp only [wks,reduceIte,Nat.reduceEqDiff,implies_true,cond_true,and_self])
  ·have d8:=zm hd (j := 8) (by decide) (by kernel_rfl);refine ⟨by trivial,by simp [zC,stAd],?_⟩
   simp only [simprocAttr,az,lkc,zV,Nat.reduceBEq,yb,stAd,evA,evC,yl,hlm,hi0,hj0,mi,mj,d8]
   all_goals (refine zi.slots ?_;simp only [wks,reduceIte,Nat.reduceEqDiff,implies_true,cond_true,and_self,d8])
  ·have d7:=zm hd (j := 7) (by decide) (by kernel_rfl);have d9:=zm hd (j := 9) (by decide) (by kernel_rfl);refine ⟨by trivial,by simp [zC,stAd],?_⟩
   simp only [simprocAttr,az,lkc,zV,Nat.reduceBEq,yb,stAd,evA,evC,yl,hlm,hi0,hj0,mi,mj,d7,d9]
   all_goals (refine zi.slots ?_;simp only [wks,reduceIte,Nat.reduceEqDiff,implies_true,cond_true,and_self,d7,d9])
  ·have d10:=zm hd (j := 10) (by decide) (by kernel_rfl);refine ⟨by trivial,by simp [zC,stAd],?_⟩
   simp only [simprocAttr,az,lkc,zV,Nat.reduceBEq,yb,stAd,evA,evC,yl,hlm,hi0,hj0,mi,mj,d10]
   all_goals (refine zi.slots ?_;simp only [wks,reduceIte,Nat.reduceEqDiff,implies_true,cond_true,and_self,d10])
  ·have h3:b 14=false:=by
    cases h:b 14 with
    | false=>rfl
    | true =>
     have h4:=zm (hcl 14 (by decide) h) (j := 12) (by decide) (by kernel_rfl)
     rw [hb] at h4;cases h4
   refine ⟨by trivial,by simp [zC,stAd],?_⟩
   cases h1:b 13 <;> cases h2:b 15 <;> (simp only [simprocAttr,az,lkc,zV,Nat.reduceBEq,yb,stAd,evA,evC,yl,hlm,hi0,hj0,mi,mj,hb,h1,h2,h3];refine (zi.ren _ 4 2).trans ?_;simp only [ASt.ren,AV.zZ,AV.zG,AV.qd,AV.qw,AV.zW,AV.zF,AV.zA,AV.qc,AV.qO,AV.zD,AV.qx,AO.qD,AO.qG,AO.qE,AO.qF,yl,List.filter_cons,List.filter_nil,zq,qp,reduceIte,Nat.reduceEqDiff,Nat.reduceLT,Nat.reduceBneDiff,bne_self_eq_false,Bool.and_true,Bool.and_false,Bool.true_and,Bool.false_and,Bool.and_self,Bool.false_eq_true,ne_eq,not_false_eq_true,not_true_eq_false,and_self,and_true,true_and,and_false];refine zi.of' rfl ?_;simp only [wks,reduceIte,Nat.reduceEqDiff,ASt.okB,AV.okB,AO.zL,AV.zT,List.all_cons,List.all_nil,Nat.reduceLT,implies_true,List.nil_append,List.cons_append,cond_true,cond_false,and_self,zS,zU,Bool.cond_self,Bool.and_self,AV.zG,AV.zW,AV.zF,AV.zA,AV.zD,yl,evA,evC,yl,hlm,hi0,hj0,mi,mj])
  ·have h3:b 15=false:=by
    cases h:b 15 with
    | false=>rfl
    | true =>
     have h4:=zm (hcl 15 (by decide) h) (j := 13) (by decide) (by kernel_rfl)
     rw [hb] at h4;cases h4
   refine ⟨by trivial,by simp [zC,stAd],?_⟩
   cases h1:b 12 <;> cases h2:b 14 <;> (simp only [simprocAttr,az,lkc,zV,Nat.reduceBEq,yb,stAd,evA,evC,yl,hlm,hi0,hj0,mi,mj,hb,h1,h2,h3];refine (zi.ren _ 4 3).trans ?_;simp only [ASt.ren,AV.zZ,AV.zG,AV.qd,AV.qw,AV.zW,AV.zF,AV.zA,AV.qc,AV.qO,AV.zD,AV.qx,AO.qD,AO.qG,AO.qE,AO.qF,yl,List.filter_cons,List.filter_nil,zq,qp,reduceIte,Nat.reduceEqDiff,Nat.reduceLT,Nat.reduceBneDiff,bne_self_eq_false,Bool.and_true,Bool.and_false,Bool.true_and,Bool.false_and,Bool.and_self,Bool.false_eq_true,ne_eq,not_false_eq_true,not_true_eq_false,and_self,and_true,true_and,and_false];refine zi.of' rfl ?_;simp only [wks,reduceIte,Nat.reduceEqDiff,ASt.okB,AV.okB,AO.zL,AV.zT,List.all_cons,List.all_nil,Nat.reduceLT,implies_true,List.nil_append,List.cons_append,cond_true,cond_false,and_self,zS,zU,Bool.cond_self,Bool.and_self,AV.zG,AV.zW,AV.zF,AV.zA,AV.zD,yl,evA,evC,yl,hlm,hi0,hj0,mi,mj])
  ·have d12:=zm hd (j := 12) (by decide) (by kernel_rfl);have d5:=zm hd (j := 5) (by decide) (by kernel_rfl)
   refine ⟨by trivial,by simp [zC,stAd],?_⟩
   cases h1:b 13 <;> cases h2:b 15 <;> (simp only [simprocAttr,az,lkc,zV,Nat.reduceBEq,yb,stAd,evA,evC,yl,hlm,hi0,hj0,mi,mj,hb,h1,h2,d12,d5];refine zi.of' rfl ?_;simp only [wks,reduceIte,Nat.reduceEqDiff,ASt.okB,AV.okB,AO.zL,AV.zT,List.all_cons,List.all_nil,Nat.reduceLT,implies_true,List.nil_append,List.cons_append,cond_true,cond_false,and_self,zS,zU,Bool.cond_self,Bool.and_self,AV.zG,AV.zW,AV.zF,AV.zA,AV.zD,yl,evA,evC,yl,hlm,hi0,hj0,mi,mj])
  ·have d13:=zm hd (j := 13) (by decide) (by kernel_rfl);have d11:=zm hd (j := 11) (by decide) (by kernel_rfl)
   refine ⟨by trivial,by simp [zC,stAd],?_⟩
   cases h1:b 12 <;> cases h2:b 14 <;> (simp only [simprocAttr,az,lkc,zV,Nat.reduceBEq,yb,stAd,evA,evC,yl,hlm,hi0,hj0,mi,mj,hb,h1,h2,d13,d11];refine zi.of' rfl ?_;simp only [wks,reduceIte,Nat.reduceEqDiff,ASt.okB,AV.okB,AO.zL,AV.zT,List.all_cons,List.all_nil,Nat.reduceLT,implies_true,List.nil_append,List.cons_append,cond_true,cond_false,and_self,zS,zU,Bool.cond_self,Bool.and_self,AV.zG,AV.zW,AV.zF,AV.zA,AV.zD,yl,evA,evC,yl,hlm,hi0,hj0,mi,mj])
 apply hK';clear hK' K';simp only [stAd,List.length_cons,List.length_nil,Nat.reduceAdd,Nat.reduceLT,decide_true,cond_true,List.cons_append,List.nil_append];(try simp only [ze,z8,reduceIte,Nat.reduceEqDiff]);(try ((repeat ((fail_if_success apply hK);clear hK K));apply hK;clear hK K))
 refine T.zk fun K hK=>?_
 (refine T.reg (by kernel_rfl) fun K' hK'=>?_;simp only [bz];(with_reducible repeat' (first|(apply WL.fin;apply hK';clear hK' K')|(refine WL.step fun K2 hK2=>?_;simp only [simprocAttr,az];repeat' (first|(apply hK2;clear hK2 K2)|apply And.intro|intro hb))));all_goals ((try simp only [ze,z8,reduceIte,Nat.reduceEqDiff]);(try ((repeat ((fail_if_success apply hK);clear hK K));apply hK;clear hK K))))
 refine T.pin 0 _ rfl fun bb=>?_;simp only [zO,AO.pin,yl,reduceIte,Nat.reduceEqDiff]
 have hke:=hke bb
 have hkf:=hkf bb
 all_goals repeat' (first|refine T.zk fun K hK=>?_|apply T.block|(refine T.reg (by kernel_rfl) fun K' hK'=>?_;simp only [bz];(repeat' (first|(with_reducible refine WL.fin ?_;apply hK';clear hK' K')|((with_reducible refine WL.step fun K2 hK2=>?_);simp only [simprocAttr,az,evC,yl,hls];(repeat' (first|with_reducible (first|(apply hK2;clear hK2 K2)|apply And.intro|intro hb)|((with_reducible first|apply zl|apply zn);case h=>exact CallV.plain (Ent.of Tryz.func40 (by kernel_rfl) rfl) (hc) (by simp [AV.okB]))|((with_reducible refine qg 1 _ _ [0] (Ent.of Tryz.func39 (by kernel_rfl) rfl) (hke) ?_ ?_ ?_);(focus ((refine ⟨Nat.le_of_ble_eq_true rfl,?_,?_⟩ <;> simp only [pz,reduceIte,Nat.reduceEqDiff,AV.okB,Nat.reduceLT,]);done));(focus (simp [AV.okB];done));rintro hp' r ⟨rfl,rfl⟩;refine ⟨by simp [Kept,zq,AO.handle],?_⟩;simp only [cz,ASt.qh,AO.keep,Nat.reduceLeDiff,reduceIte,Nat.reduceEqDiff,])|((with_reducible refine qg 1 _ _ [0] (Ent.of Tryz.func39 (by kernel_rfl) rfl) (hkf) ?_ ?_ ?_);(focus ((refine ⟨Nat.le_of_ble_eq_true rfl,?_,?_⟩ <;> simp only [pz,reduceIte,Nat.reduceEqDiff,AV.okB,Nat.reduceLT,]);done));(focus (simp [AV.okB];done));rintro hp' r ⟨rfl,rfl⟩;refine ⟨by simp [Kept,zq,AO.handle],?_⟩;simp only [cz,ASt.qh,AO.keep,Nat.reduceLeDiff,reduceIte,Nat.reduceEqDiff,])))))))|apply T.skip|apply T.exit|refine T.zh rfl ?_|refine T.zg rfl ?_|refine T.cond rfl (fun hc=>?_) (fun hc=>?_)|apply T.ret|simp only [ze,z8,reduceIte,Nat.reduceEqDiff]|((repeat ((fail_if_success apply hK);clear hK K));apply hK;clear hK K))
 all_goals (refine zP.ret (.inr rfl) Tryz.results14 ?_;simp only [zI,zu,zw,simprocAttr,az,];first|(simp [accE,stB, *];done)|(simp_all [accE,stB];done)|(simp_all [accE,stB];omega))
abbrev En:=Int × P2
def oneD (seen:List En) (x:En):Bool:=decide (-1≤x.1)&&decide (x.1<(seen.length:Int))&&decide (0≤x.2.1)&&decide (0≤x.2.2) && !(seen.contains x)
def goD:List En→List En→Bool
 | _,[]=>true
 | seen,x :: r=>oneD seen x&&goD (seen ++ [x]) r
def enL (ss:List P2) (ps:List Int):List En:=ps.zip ss
def validD (ss:List P2) (ps:List Int):Bool:=decide (ss.length=ps.length)&&goD [] (enL ss ps)
theorem en_len {ss:List P2} {ps:List Int} (h:ss.length=ps.length):(enL ss ps).length=ss.length:=by simp [enL,h]
theorem en_at {ss:List P2} {ps:List Int} {k:Nat} {s:P2} {p:Int} (h1:ss[k]? = some s) (h2:ps[k]? = some p):(enL ss ps)[k]? = some (p,s):=by
 simp [enL,List.getElem?_zip_eq_some,h1,h2]
theorem goD_at {es:List En} {k:Nat} {x:En} (h:es[k]? = some x):goD (es.take k) (es.drop k)=(oneD (es.take k) x&&goD (es.take (k+1)) (es.drop (k+1))):=by
 rw [drop_at h,goD,List.take_add_one,h];rfl
theorem goD_mem : ∀ {seen r:List En} {k:Nat} {x:En},goD seen r=true→r[k]? = some x → -1≤x.1∧x.1<((seen.length+k:Nat):Int) ∧ 0≤x.2.1 ∧ 0≤x.2.2
 | _,[],k,x,_,h=>by simp at h
 | seen,y :: r,0,x,hg,h=>by
  cases h
  simp only [goD,oneD,Bool.and_eq_true,decide_eq_true_eq] at hg
  exact ⟨hg.1.1.1.1.1,by simpa using hg.1.1.1.1.2,hg.1.1.1.2,hg.1.1.2⟩
 | seen,y :: r,k+1,x,hg,h=>by
  simp only [goD,Bool.and_eq_true] at hg
  have:=goD_mem (k:=k) hg.2 (by simpa using h)
  simp only [List.length_append,List.length_cons,List.length_nil] at this
  refine ⟨this.1,?_,this.2.2⟩
  have h2:=this.2.1
  push_cast at h2 ⊢
  omega
theorem z3u {ss:List P2} {ps:List Int} (h:validD ss ps=true) {k:Nat} {s:P2} (hs:ss[k]? = some s) : ∃ p,ps[k]? = some p ∧ -1≤p∧p<(k:Int):=by
 simp only [validD,Bool.and_eq_true,decide_eq_true_eq] at h
 obtain ⟨hl,hg⟩:=h
 have hk:k<ps.length:=by
  have:=(List.getElem?_eq_some_iff.1 hs).1
  omega
 obtain ⟨p,hp⟩:=qA hk
 have:=goD_mem hg (en_at hs hp)
 simp only [List.length_nil,Nat.zero_add] at this
 exact ⟨p,hp,this.1,this.2.1⟩
def upS (ss:List P2) (ps:List Int):Nat→Int→List P2
 | 0,_ => []
 | f+1,n=>if n<0 then [] else match ss[n.toNat]?,ps[n.toNat]? with
  | some s,some p=>s :: upS ss ps f p
  | _,_ => []
theorem z7x (ss:List P2) (ps:List Int) : ∀ (f:Nat) {n:Int},n<0→upS ss ps f n = []
 | 0,_,_=>rfl
 | f+1,n,h=>by rw [upS,if_pos h]
theorem z8r {ss:List P2} {ps:List Int} (h:validD ss ps=true) : ∀ (f g:Nat) {n:Int},n<f→n<g→upS ss ps f n=upS ss ps g n
 | 0,g,n,h1,_=>by rw [z7x ss ps g (by simpa using h1)];rfl
 | f+1,0,n,_,h2=>by rw [z7x ss ps (f+1) (by simpa using h2)];rfl
 | f+1,g+1,n,h1,h2=>by
  unfold upS
  by_cases hn:n<0
  ·rw [if_pos hn,if_pos hn]
  ·rw [if_neg hn,if_neg hn]
   cases hs:ss[n.toNat]? with
   | none=>rfl
   | some s =>
    obtain ⟨p,hp,p1,p2⟩:=z3u h hs
    simp only [hp]
    rw [z8r h f g (by omega) (by omega)]
def upD (ss:List P2) (ps:List Int) (n:Int):List P2:=upS ss ps (n+1).toNat n
def stkD (ss:List P2) (ps:List Int) (n:Int):List P2:=(upD ss ps n).reverse
theorem upD_neg (ss:List P2) (ps:List Int) {n:Int} (h:n<0):upD ss ps n = []:=z7x ss ps _ h
theorem z8q {ss:List P2} {ps:List Int} (h:validD ss ps=true) {n:Int} {s:P2} {p:Int} (h0 : 0≤n) (hs:ss[n.toNat]? = some s) (hp:ps[n.toNat]? = some p):upD ss ps n=s :: upD ss ps p:=by
 obtain ⟨p',hp',p1,p2⟩:=z3u h hs
 rw [hp] at hp'
 cases hp'
 unfold upD
 rw [show (n+1).toNat=n.toNat+1 by omega]
 rw [show upS ss ps (n.toNat+1) n=s :: upS ss ps n.toNat p by rw [upS,if_neg (by omega),hs,hp]]
 rw [z8r h n.toNat (p+1).toNat (by omega) (by omega)]
theorem z6b {ss:List P2} {ps:List Int} : ∀ (f:Nat) (n:Int),(upS ss ps f n).length≤f
 | 0,_=>by simp [upS]
 | f+1,n=>by
  unfold upS
  split
  ·simp
  ·split
   ·simpa using z6b f _
   ·simp
theorem z4O {es:List En} {k:Nat} {y x:En} (h:es[k]? = some y):(es.take (k+1)).contains x=((es.take k).contains x||y==x):=by
 rw [List.take_add_one,h,Option.toList_some,List.contains_eq_any_beq,List.contains_eq_any_beq,List.any_append]
 simp only [List.any_cons,List.any_nil,Bool.or_false]
 rw [show (x==y)=(y==x) from Bool.eq_iff_iff.2 ⟨fun h=>by rw [beq_iff_eq] at h ⊢;exact h.symm,fun h=>by rw [beq_iff_eq] at h ⊢;exact h.symm⟩]
theorem take_full {es:List En} {k i:Nat} {y x:En} (h:es[k]? = some y) (hk:k<i) (he:y=x):(es.take i).contains x=true:=by
 rw [List.contains_iff_mem,List.mem_iff_getElem?]
 exact ⟨k,by rw [List.getElem?_take,if_pos hk,h,he]⟩
theorem z6P (ss:List P2) (ps:List Int) (hsz:ss.length≤1000000):zt Tryz.prog 22 [dpA ss ps] (.bool (validD ss ps)):=by
 have hls:=z04 ss
 have hlp:=z0N ps
 simp only [dpA]
 by_cases hl:ss.length=ps.length
 case neg =>
  have g1:((ss.length:Int) != (ps.length:Int))=true:=by simpa using fun h=>hl (by omega)
  have he:validD ss ps=false:=by simp [validD,hl]
  refine zt.of Tryz.func22 rfl 81 rfl (by decide) (by simp [AV.okB]) ?_
  repeat' (first|refine T.zk fun K hK=>?_|apply T.block|(refine T.reg (by kernel_rfl) fun K' hK'=>?_;simp only [bz];(with_reducible repeat' (first|(apply WL.fin;apply hK';clear hK' K')|(refine WL.step fun K2 hK2=>?_;simp only [simprocAttr,implies_true,amz,zf,tys,hls,hlp,g1];repeat' (first|(apply hK2;clear hK2 K2)|apply And.intro|intro hb)))))|apply T.skip|apply T.exit|refine T.zh rfl ?_|refine T.zg rfl ?_|refine T.cond rfl (fun hc=>?_) (fun hc=>?_)|apply T.ret|simp only [ze,z8,reduceIte,Nat.reduceEqDiff]|((repeat ((fail_if_success apply hK);clear hK K));apply hK;clear hK K))
  all_goals (refine zP.ret (.inr rfl) Tryz.results22 ?_;simp only [zI,zu,zw,simprocAttr,implies_true,amz,zf,tys,he])
 have g1:((ss.length:Int) != (ps.length:Int))=false:=by rw [hl];simp
 have he:validD ss ps=goD [] (enL ss ps):=by simp [validD,hl]
 have hel:=en_len hl
 rw [he]
 refine zt.of Tryz.func22 rfl 81 rfl (by decide) (by simp [AV.okB]) ?_
 repeat' (first|refine T.zk fun K hK=>?_|apply T.block|(refine T.reg (by kernel_rfl) fun K' hK'=>?_;simp only [bz];(with_reducible repeat' (first|(apply WL.fin;apply hK';clear hK' K')|(refine WL.step fun K2 hK2=>?_;simp only [simprocAttr,implies_true,amz,zf,tys,hls,hlp,g1];repeat' (first|(apply hK2;clear hK2 K2)|apply And.intro|intro hb)))))|apply T.skip|apply T.exit|refine T.zh rfl ?_|refine T.zg rfl ?_|refine T.cond rfl (fun hc=>?_) (fun hc=>?_)|apply T.ret|simp only [ze,z8,reduceIte,Nat.reduceEqDiff]|((repeat ((fail_if_success apply hK);clear hK K));apply hK;clear hK K))
 refine T.z02 (fun i:Nat=>⟨[(1,.ptr 0 0),(2,.bool false),(3,.int i)],[(0,.boxP none 29 [.p (.seq 2 (rowP ss)),.p (.seq 1 (rowZ ps))])],81,1⟩) (fun i=>i≤ss.length∧goD [] (enL ss ps)=goD ((enL ss ps).take i) ((enL ss ps).drop i)) (fun i=>ss.length-i) 0 ⟨Nat.zero_le _,by simp⟩ (by refine zi.of' rfl ?_;simp only [wks,reduceIte,Nat.reduceEqDiff,ASt.okB,AV.okB,Nat.reduceLT,implies_true,Int.natCast_zero]) ?_
 rintro i ⟨hi,hg⟩ KL hKL
 by_cases hlt:i<ss.length
 case neg =>
  have hd:decide ((i:Int)<(ss.length:Int))=false:=by simpa using hlt
  rw [List.drop_eq_nil_of_le (by omega),goD] at hg
  repeat' (first|refine T.zk fun K hK=>?_|apply T.block|(refine T.reg (by kernel_rfl) fun K' hK'=>?_;simp only [bz];(with_reducible repeat' (first|(apply WL.fin;apply hK';clear hK' K')|(refine WL.step fun K2 hK2=>?_;simp only [simprocAttr,implies_true,amz,zf,tys,hls,hlp,hd];repeat' (first|(apply hK2;clear hK2 K2)|apply And.intro|intro hb)))))|apply T.skip|apply T.exit|refine T.zh rfl ?_|refine T.zg rfl ?_|refine T.cond rfl (fun hc=>?_) (fun hc=>?_)|apply T.ret|simp only [ze,z8,reduceIte,Nat.reduceEqDiff]|((repeat ((fail_if_success apply hK);clear hK K));apply hK;clear hK K))
  all_goals (refine zP.ret (.inr rfl) Tryz.results22 ?_;simp only [zI,zu,zw,simprocAttr,implies_true,amz,zf,tys,hg])
 have hd:decide ((i:Int)<(ss.length:Int))=true:=by simpa using hlt
 have hi0:(0≤(i:Int))=True:=eq_true (by omega)
 obtain ⟨s,hs⟩:=qA hlt
 obtain ⟨p,hp⟩:=qA (l:=ps) (k:=i) (by omega)
 have m1:=z0I hs
 have m2:=z0J hp
 have hx:=en_at hs hp
 have htl:((enL ss ps).take i).length=i:=by rw [List.length_take];omega
 rw [goD_at hx] at hg
 by_cases c1:p < -1
 ·have f1:decide (p < -1)=true:=by simpa using c1
  have hb:goD [] (enL ss ps)=false:=by rw [hg];simp [oneD,Int.not_le.2 c1]
  repeat' (first|refine T.zk fun K hK=>?_|apply T.block|(refine T.reg (by kernel_rfl) fun K' hK'=>?_;simp only [bz];(with_reducible repeat' (first|(apply WL.fin;apply hK';clear hK' K')|(refine WL.step fun K2 hK2=>?_;simp only [simprocAttr,implies_true,amz,zf,tys,hls,hlp,hd,hi0,Int.toNat_natCast,m1,m2,f1];repeat' (first|(apply hK2;clear hK2 K2)|apply And.intro|intro hb)))))|apply T.skip|apply T.exit|refine T.zh rfl ?_|refine T.zg rfl ?_|refine T.cond rfl (fun hc=>?_) (fun hc=>?_)|apply T.ret|simp only [ze,z8,reduceIte,Nat.reduceEqDiff]|((repeat ((fail_if_success apply hK);clear hK K));apply hK;clear hK K))
  all_goals (refine zP.ret (.inr rfl) Tryz.results22 ?_;simp only [zI,zu,zw,simprocAttr,implies_true,amz,zf,tys,hb])
 have f1:decide (p < -1)=false:=by simpa using c1
 by_cases c2:(i:Int)≤p
 ·have f2:decide ((i:Int)≤p)=true:=by simpa using c2
  have hb:goD [] (enL ss ps)=false:=by rw [hg];simp [oneD,htl,Int.not_lt.2 c2]
  repeat' (first|refine T.zk fun K hK=>?_|apply T.block|(refine T.reg (by kernel_rfl) fun K' hK'=>?_;simp only [bz];(with_reducible repeat' (first|(apply WL.fin;apply hK';clear hK' K')|(refine WL.step fun K2 hK2=>?_;simp only [simprocAttr,implies_true,amz,zf,tys,hls,hlp,hd,hi0,Int.toNat_natCast,m1,m2,f1,f2];repeat' (first|(apply hK2;clear hK2 K2)|apply And.intro|intro hb)))))|apply T.skip|apply T.exit|refine T.zh rfl ?_|refine T.zg rfl ?_|refine T.cond rfl (fun hc=>?_) (fun hc=>?_)|apply T.ret|simp only [ze,z8,reduceIte,Nat.reduceEqDiff]|((repeat ((fail_if_success apply hK);clear hK K));apply hK;clear hK K))
  all_goals (refine zP.ret (.inr rfl) Tryz.results22 ?_;simp only [zI,zu,zw,simprocAttr,implies_true,amz,zf,tys,hb])
 have f2:decide ((i:Int)≤p)=false:=by simpa using c2
 by_cases c3:s.1<0
 ·have f3:decide (s.1<0)=true:=by simpa using c3
  have hb:goD [] (enL ss ps)=false:=by rw [hg];simp [oneD,Int.not_le.2 c3]
  repeat' (first|refine T.zk fun K hK=>?_|apply T.block|(refine T.reg (by kernel_rfl) fun K' hK'=>?_;simp only [bz];(with_reducible repeat' (first|(apply WL.fin;apply hK';clear hK' K')|(refine WL.step fun K2 hK2=>?_;simp only [simprocAttr,implies_true,amz,zf,tys,hls,hlp,hd,hi0,Int.toNat_natCast,m1,m2,f1,f2,f3];repeat' (first|(apply hK2;clear hK2 K2)|apply And.intro|intro hb)))))|apply T.skip|apply T.exit|refine T.zh rfl ?_|refine T.zg rfl ?_|refine T.cond rfl (fun hc=>?_) (fun hc=>?_)|apply T.ret|simp only [ze,z8,reduceIte,Nat.reduceEqDiff]|((repeat ((fail_if_success apply hK);clear hK K));apply hK;clear hK K))
  all_goals (refine zP.ret (.inr rfl) Tryz.results22 ?_;simp only [zI,zu,zw,simprocAttr,implies_true,amz,zf,tys,hb])
 have f3:decide (s.1<0)=false:=by simpa using c3
 by_cases c4:s.2<0
 ·have f4:decide (s.2<0)=true:=by simpa using c4
  have hb:goD [] (enL ss ps)=false:=by rw [hg];simp [oneD,Int.not_le.2 c4]
  repeat' (first|refine T.zk fun K hK=>?_|apply T.block|(refine T.reg (by kernel_rfl) fun K' hK'=>?_;simp only [bz];(with_reducible repeat' (first|(apply WL.fin;apply hK';clear hK' K')|(refine WL.step fun K2 hK2=>?_;simp only [simprocAttr,implies_true,amz,zf,tys,hls,hlp,hd,hi0,Int.toNat_natCast,m1,m2,f1,f2,f3,f4];repeat' (first|(apply hK2;clear hK2 K2)|apply And.intro|intro hb)))))|apply T.skip|apply T.exit|refine T.zh rfl ?_|refine T.zg rfl ?_|refine T.cond rfl (fun hc=>?_) (fun hc=>?_)|apply T.ret|simp only [ze,z8,reduceIte,Nat.reduceEqDiff]|((repeat ((fail_if_success apply hK);clear hK K));apply hK;clear hK K))
  all_goals (refine zP.ret (.inr rfl) Tryz.results22 ?_;simp only [zI,zu,zw,simprocAttr,implies_true,amz,zf,tys,hb])
 have f4:decide (s.2<0)=false:=by simpa using c4
 have hone:oneD ((enL ss ps).take i) (p,s) = !((enL ss ps).take i).contains (p,s):=by
  simp only [oneD,htl]
  rw [decide_eq_true (show (-1:Int)≤p by omega),decide_eq_true (show p<(i:Int) by omega),decide_eq_true (show (0:Int)≤s.1 by omega),decide_eq_true (show (0:Int)≤s.2 by omega)]
  simp
 rw [hone] at hg
 repeat' (first|refine T.zk fun K hK=>?_|apply T.block|(refine T.reg (by kernel_rfl) fun K' hK'=>?_;simp only [bz];(with_reducible repeat' (first|(apply WL.fin;apply hK';clear hK' K')|(refine WL.step fun K2 hK2=>?_;simp only [simprocAttr,implies_true,amz,zf,tys,hls,hlp,hd,hi0,Int.toNat_natCast,m1,m2,f1,f2,f3,f4];repeat' (first|(apply hK2;clear hK2 K2)|apply And.intro|intro hb)))))|apply T.skip|apply T.exit|refine T.zh rfl ?_|refine T.zg rfl ?_|refine T.cond rfl (fun hc=>?_) (fun hc=>?_)|apply T.ret|simp only [ze,z8,reduceIte,Nat.reduceEqDiff]|((repeat ((fail_if_success apply hK);clear hK K));apply hK;clear hK K))
 refine T.z02 (fun k:Nat=>⟨[(1,.ptr 0 0),(2,.bool false),(3,.int i),(4,.int k)],[(0,.boxP none 29 [.p (.seq 2 (rowP ss)),.p (.seq 1 (rowZ ps))])],81,1⟩) (fun k=>k≤i∧((enL ss ps).take k).contains (p,s)=false) (fun k=>i-k) 0 ⟨Nat.zero_le _,by simp⟩ (by refine zi.of' rfl ?_;simp only [wks,reduceIte,Nat.reduceEqDiff,ASt.okB,AV.okB,Nat.reduceLT,implies_true,Int.natCast_zero]) ?_
 rintro k ⟨hk,hc⟩ KM hKM
 by_cases hki:k<i
 case neg =>
  have hdk:decide ((k:Int)<(i:Int))=false:=by simpa using hki
  obtain rfl:k=i:=by omega
  rw [hc,Bool.not_false,Bool.true_and] at hg
  repeat' (first|refine T.zk fun K hK=>?_|apply T.block|(refine T.reg (by kernel_rfl) fun K' hK'=>?_;simp only [bz];(with_reducible repeat' (first|(apply WL.fin;apply hK';clear hK' K')|(refine WL.step fun K2 hK2=>?_;simp only [simprocAttr,implies_true,amz,zf,tys,hls,hlp,hdk];repeat' (first|(apply hK2;clear hK2 K2)|apply And.intro|intro hb)))))|apply T.skip|apply T.exit|refine T.zh rfl ?_|refine T.zg rfl ?_|refine T.cond rfl (fun hc=>?_) (fun hc=>?_)|apply T.ret|simp only [ze,z8,reduceIte,Nat.reduceEqDiff]|((repeat ((fail_if_success apply hK);clear hK K));apply hK;clear hK K))
  refine hKL _ (k+1) (by refine zi.of' rfl ?_;simp only [wks,reduceIte,Nat.reduceEqDiff,ASt.okB,AV.okB,Nat.reduceLT,implies_true,zx (show k<1152921504606846976 by omega)]) ⟨hlt,hg⟩ (by omega)
 have hdk:decide ((k:Int)<(i:Int))=true:=by simpa using hki
 have hk0:(0≤(k:Int))=True:=eq_true (by omega)
 obtain ⟨s',hs'⟩:=qA (l:=ss) (k:=k) (by omega)
 obtain ⟨p',hp'⟩:=qA (l:=ps) (k:=k) (by omega)
 have n1:=z0I hs'
 have n2:=z0J hp'
 have hx':=en_at hs' hp'
 by_cases c5:s' = s
 case neg =>
  have e1:(s'.1==s.1&&(s'.2==s.2&&true))=false:=by
   rw [Bool.eq_false_iff]
   intro h
   simp only [Bool.and_true,Bool.and_eq_true,beq_iff_eq] at h
   exact c5 (Prod.ext h.1 h.2)
  have hc2:((enL ss ps).take (k+1)).contains (p,s)=false:=by rw [z4O hx',hc];simp [c5]
  repeat' (first|refine T.zk fun K hK=>?_|apply T.block|(refine T.reg (by kernel_rfl) fun K' hK'=>?_;simp only [bz];(with_reducible repeat' (first|(apply WL.fin;apply hK';clear hK' K')|(refine WL.step fun K2 hK2=>?_;simp only [simprocAttr,implies_true,amz,zf,tys,hls,hlp,hdk,hi0,hk0,Int.toNat_natCast,m1,m2,n1,n2,e1];repeat' (first|(apply hK2;clear hK2 K2)|apply And.intro|intro hb)))))|apply T.skip|apply T.exit|refine T.zh rfl ?_|refine T.zg rfl ?_|refine T.cond rfl (fun hc=>?_) (fun hc=>?_)|apply T.ret|simp only [ze,z8,reduceIte,Nat.reduceEqDiff]|((repeat ((fail_if_success apply hK);clear hK K));apply hK;clear hK K))
  refine T.drw 24 (by kernel_rfl) (by kernel_rfl) fun K' hK'=>?_;simp only [yl];(repeat' (first|(with_reducible refine WL.fin ?_;apply hK';clear hK' K')|(with_reducible refine WD.fin ?_)|((with_reducible first|refine WL.step fun K2 hK2=>?_|refine WD.step fun K2 hK2=>?_);simp only [simprocAttr,implies_true,amz,zf,tys,hls,hlp,hdk,hi0,hk0,Int.toNat_natCast,m1,m2,n1,n2,scEq,aeqF,e1];(repeat' with_reducible (first|(apply hK2;clear hK2 K2)|apply And.intro|intro hb)))));all_goals ((try simp only [ze,z8,reduceIte,Nat.reduceEqDiff]);(try ((repeat ((fail_if_success apply hK);clear hK K));apply hK;clear hK K)))
  all_goals repeat' (first|refine T.zk fun K hK=>?_|apply T.block|(refine T.reg (by kernel_rfl) fun K' hK'=>?_;simp only [bz];(with_reducible repeat' (first|(apply WL.fin;apply hK';clear hK' K')|(refine WL.step fun K2 hK2=>?_;simp only [simprocAttr,implies_true,amz,zf,tys];repeat' (first|(apply hK2;clear hK2 K2)|apply And.intro|intro hb)))))|apply T.skip|apply T.exit|refine T.zh rfl ?_|refine T.zg rfl ?_|refine T.cond rfl (fun hc=>?_) (fun hc=>?_)|apply T.ret|simp only [ze,z8,reduceIte,Nat.reduceEqDiff]|((repeat ((fail_if_success apply hK);clear hK K));apply hK;clear hK K))
  refine hKM _ (k+1) (by refine zi.of' rfl ?_;simp only [wks,reduceIte,Nat.reduceEqDiff,ASt.okB,AV.okB,Nat.reduceLT,implies_true,zx (show k<1152921504606846976 by omega)]) ⟨hki,hc2⟩ (by omega)
 subst c5
 have e1:(s'.1==s'.1&&(s'.2==s'.2&&true))=true:=by simp
 by_cases c6:p' = p
 case neg =>
  have e2:(p' == p)=false:=by simpa using c6
  have hc2:((enL ss ps).take (k+1)).contains (p,s')=false:=by rw [z4O hx',hc];simp [c6]
  repeat' (first|refine T.zk fun K hK=>?_|apply T.block|(refine T.reg (by kernel_rfl) fun K' hK'=>?_;simp only [bz];(with_reducible repeat' (first|(apply WL.fin;apply hK';clear hK' K')|(refine WL.step fun K2 hK2=>?_;simp only [simprocAttr,implies_true,amz,zf,tys,hls,hlp,hdk,hi0,hk0,Int.toNat_natCast,m1,m2,n1,n2,e1,e2];repeat' (first|(apply hK2;clear hK2 K2)|apply And.intro|intro hb)))))|apply T.skip|apply T.exit|refine T.zh rfl ?_|refine T.zg rfl ?_|refine T.cond rfl (fun hc=>?_) (fun hc=>?_)|apply T.ret|simp only [ze,z8,reduceIte,Nat.reduceEqDiff]|((repeat ((fail_if_success apply hK);clear hK K));apply hK;clear hK K))
  refine T.drw 24 (by kernel_rfl) (by kernel_rfl) fun K' hK'=>?_;simp only [yl];(repeat' (first|(with_reducible refine WL.fin ?_;apply hK';clear hK' K')|(with_reducible refine WD.fin ?_)|((with_reducible first|refine WL.step fun K2 hK2=>?_|refine WD.step fun K2 hK2=>?_);simp only [simprocAttr,implies_true,amz,zf,tys,hls,hlp,hdk,hi0,hk0,Int.toNat_natCast,m1,m2,n1,n2,scEq,aeqF,e1,e2];(repeat' with_reducible (first|(apply hK2;clear hK2 K2)|apply And.intro|intro hb)))));all_goals ((try simp only [ze,z8,reduceIte,Nat.reduceEqDiff]);(try ((repeat ((fail_if_success apply hK);clear hK K));apply hK;clear hK K)))
  all_goals repeat' (first|refine T.zk fun K hK=>?_|apply T.block|(refine T.reg (by kernel_rfl) fun K' hK'=>?_;simp only [bz];(with_reducible repeat' (first|(apply WL.fin;apply hK';clear hK' K')|(refine WL.step fun K2 hK2=>?_;simp only [simprocAttr,implies_true,amz,zf,tys];repeat' (first|(apply hK2;clear hK2 K2)|apply And.intro|intro hb)))))|apply T.skip|apply T.exit|refine T.zh rfl ?_|refine T.zg rfl ?_|refine T.cond rfl (fun hc=>?_) (fun hc=>?_)|apply T.ret|simp only [ze,z8,reduceIte,Nat.reduceEqDiff]|((repeat ((fail_if_success apply hK);clear hK K));apply hK;clear hK K))
  refine hKM _ (k+1) (by refine zi.of' rfl ?_;simp only [wks,reduceIte,Nat.reduceEqDiff,ASt.okB,AV.okB,Nat.reduceLT,implies_true,zx (show k<1152921504606846976 by omega)]) ⟨hki,hc2⟩ (by omega)
 have e2:(p' == p)=true:=by simpa using c6
 have hb:goD [] (enL ss ps)=false:=by rw [hg,take_full hx' hki (by rw [c6])];rfl
 repeat' (first|refine T.zk fun K hK=>?_|apply T.block|(refine T.reg (by kernel_rfl) fun K' hK'=>?_;simp only [bz];(with_reducible repeat' (first|(apply WL.fin;apply hK';clear hK' K')|(refine WL.step fun K2 hK2=>?_;simp only [simprocAttr,implies_true,amz,zf,tys,hls,hlp,hdk,hi0,hk0,Int.toNat_natCast,m1,m2,n1,n2,e1,e2];repeat' (first|(apply hK2;clear hK2 K2)|apply And.intro|intro hb)))))|apply T.skip|apply T.exit|refine T.zh rfl ?_|refine T.zg rfl ?_|refine T.cond rfl (fun hc=>?_) (fun hc=>?_)|apply T.ret|simp only [ze,z8,reduceIte,Nat.reduceEqDiff]|((repeat ((fail_if_success apply hK);clear hK K));apply hK;clear hK K))
 refine T.drw 24 (by kernel_rfl) (by kernel_rfl) fun K' hK'=>?_;simp only [yl];(repeat' (first|(with_reducible refine WL.fin ?_;apply hK';clear hK' K')|(with_reducible refine WD.fin ?_)|((with_reducible first|refine WL.step fun K2 hK2=>?_|refine WD.step fun K2 hK2=>?_);simp only [simprocAttr,implies_true,amz,zf,tys,hls,hlp,hdk,hi0,hk0,Int.toNat_natCast,m1,m2,n1,n2,scEq,aeqF,e1,e2];(repeat' with_reducible (first|(apply hK2;clear hK2 K2)|apply And.intro|intro hb)))));all_goals ((try simp only [ze,z8,reduceIte,Nat.reduceEqDiff]);(try ((repeat ((fail_if_success apply hK);clear hK K));apply hK;clear hK K)))
 all_goals repeat' (first|refine T.zk fun K hK=>?_|apply T.block|(refine T.reg (by kernel_rfl) fun K' hK'=>?_;simp only [bz];(with_reducible repeat' (first|(apply WL.fin;apply hK';clear hK' K')|(refine WL.step fun K2 hK2=>?_;simp only [simprocAttr,implies_true,amz,zf,tys];repeat' (first|(apply hK2;clear hK2 K2)|apply And.intro|intro hb)))))|apply T.skip|apply T.exit|refine T.zh rfl ?_|refine T.zg rfl ?_|refine T.cond rfl (fun hc=>?_) (fun hc=>?_)|apply T.ret|simp only [ze,z8,reduceIte,Nat.reduceEqDiff]|((repeat ((fail_if_success apply hK);clear hK K));apply hK;clear hK K))
 all_goals (refine zP.ret (.inr rfl) Tryz.results22 ?_;simp only [zI,zu,zw,simprocAttr,implies_true,amz,zf,tys,hb])
end Go.Proofs.YtbkkginjfnjffaaGreatDoor
namespace Go.Proofs.YtbkkginjfnjffaaGreatDoor
open Go.RowKit Go.Sort Go.Maps
theorem Tryz.laidOut:laidOutB Tryz.prog=true:=by kernel_rfl
def inW (a:Int):Prop := -9223372036854775808≤a∧a<9223372036854775808
theorem inW.wf {a:Int} (h:inW a):(Lit.int .i64 a).wf=true:=by
 obtain ⟨h0,h1⟩:=h
 simp only [Lit.wf,Bool.and_eq_true,decide_eq_true_eq,show IntKind.i64.min = -9223372036854775808 from rfl,show IntKind.i64.max=9223372036854775807 from rfl]
 omega
def kyN (k:List Int):Lit := .string (keyBytes (k.map (Lit.int .i64)))
def lits (k:List Int):List Lit:=k.map (Lit.int .i64)
def vals (k:List Int):List Value:=k.map (Value.int .i64)
theorem z2r {P:Program} {t:TypeId} (hu:P.underlying t=some (.int .i64)) (m:Nat) {x:Int} (h:inW x):P.keyLits (m+1) t (vals [x])=some (lits [x]):=by
 unfold Program.keyLits
 rw [hu]
 simp [vals,lits,h.wf]
theorem z1H {P : Program} {t : TypeId} {F : Array Field} {L : List (Nat × Nat)} (hS : P.underlying t = some (.struct F)) (hN : F.all (·.name != "_") = true) (hL : F.toList.map (fun f => (f.type, f.offset)) = L) (m : Nat) {cs : List Value} (hc : cs.length = P.cellsOf t) :
    P.keyLits (m + 1) t cs = (L.mapM fun f => P.keyLits m f.1 ((cs.drop f.2).take (P.cellsOf f.1))).map List.flatten := by
  conv => lhs; unfold Program.keyLits; rw [hS]
  simp only [hN, hc, and_self, if_true]
  rw [← hL, List.mapM_map]
  rfl
theorem z3L {P:Program} {k:TypeId} {F:Array Field} (hS:P.underlying k=some (.struct F)) (hk:P.keyType k=true) {cs:List Value} (hc:cs.length=P.cellsOf k) (hz : 3≤P.types.size) {ls:List Lit} (h : ∀ m,P.keyLits (m+3) k cs=some ls):keyOf P k (.agg cs.toArray)=some (.string (keyBytes ls)):=by
 have hf:(Value.agg cs.toArray).formed P k=true:=by
  unfold Value.formed;rw [hS];simp [hc]
 unfold keyOf
 rw [hS]
 simp only [hk,hf,Bool.and_self,if_true]
 obtain ⟨m,hm⟩ : ∃ m,P.types.size+1=m+3:=⟨P.types.size-2,by omega⟩
 rw [hm]
 simp only [Value.cells]
 rw [h m];rfl
noncomputable def flds (k:TypeId):Array Field:=match Tryz.prog.underlying k with|some (.struct f)=>f|_ => #[]
theorem z1G:Keyed Tryz.prog 136:=Keyed.of_law (deep_law_laid Tryz.laidOut (m := 3) (by omega) (of_decide_eq_true (by kernel_rfl)) (by kernel_rfl) (by rw [show Tryz.prog.underlying 136=some (.struct (flds 136)) by kernel_rfl]))
theorem qW:Keyed Tryz.prog 70:=Keyed.of_law (deep_law_laid Tryz.laidOut (m := 3) (by omega) (of_decide_eq_true (by kernel_rfl)) (by kernel_rfl) (by rw [show Tryz.prog.underlying 70=some (.struct (flds 70)) by kernel_rfl]))
theorem intU:Tryz.prog.underlying 3=some (.int .i64):=by kernel_rfl
theorem cells3:Tryz.prog.cellsOf 3=1:=by kernel_rfl
theorem lits_site (m:Nat) {a b:Int} (ha:inW a) (hb:inW b):Tryz.prog.keyLits (m+2) 25 [.int .i64 a,.int .i64 b]=some [.int .i64 a,.int .i64 b]:=by
 rw [z1H (F:=flds 25) (L := [(3,0),(3,1)]) (by kernel_rfl) (by kernel_rfl) (by kernel_rfl) (m+1) (by simp only [List.length_cons,List.length_nil];kernel_rfl)]
 have ia:=z2r intU m ha
 have ib:=z2r intU m hb
 simp only [vals,lits,yl] at ia ib
 simp [cells3,ia,ib]
theorem z7V (m:Nat) {a b c:Int} (ha:inW a) (hb:inW b) (hc:inW c):Tryz.prog.keyLits (m+2) 67 [.int .i64 a,.int .i64 b,.int .i64 c]=some [.int .i64 a,.int .i64 b,.int .i64 c]:=by
 rw [z1H (F:=flds 67) (L := [(3,0),(3,1),(3,2)]) (by kernel_rfl) (by kernel_rfl) (by kernel_rfl) (m+1) (by simp only [List.length_cons,List.length_nil];kernel_rfl)]
 have ia:=z2r intU m ha
 have ib:=z2r intU m hb
 have ic:=z2r intU m hc
 simp only [vals,lits,yl] at ia ib ic
 simp [cells3,ia,ib,ic]
theorem z4c {p a b:Int} (hp:inW p) (ha:inW a) (hb:inW b):keyOf Tryz.prog 136 (.agg #[.int .i64 p,.int .i64 a,.int .i64 b])=some (kyN [p,a,b]):=by
 refine z3L (F:=flds 136) (by kernel_rfl) (by kernel_rfl) (cs := [.int .i64 p,.int .i64 a,.int .i64 b]) (by simp only [List.length_cons,List.length_nil];kernel_rfl) (of_decide_eq_true (by kernel_rfl)) fun m=>?_
 rw [z1H (F:=flds 136) (L := [(3,0),(25,1)]) (by kernel_rfl) (by kernel_rfl) (by kernel_rfl) (m+2) (by simp only [List.length_cons,List.length_nil];kernel_rfl)]
 have ip:=z2r intU (m+1) hp
 have is:=lits_site m ha hb
 have c2:Tryz.prog.cellsOf 25=2:=by kernel_rfl
 simp only [vals,lits,yl] at ip
 simp [cells3,c2,ip,is]
theorem z1F {a b c d e f:Int} (ha:inW a) (hb:inW b) (hc:inW c) (hd:inW d) (he:inW e) (hf:inW f):keyOf Tryz.prog 70 (.agg #[.int .i64 a,.int .i64 b,.int .i64 c,.int .i64 d,.int .i64 e,.int .i64 f])=some (kyN [a,b,c,d,e,f]):=by
 refine z3L (F:=flds 70) (by kernel_rfl) (by kernel_rfl) (cs := [.int .i64 a,.int .i64 b,.int .i64 c,.int .i64 d,.int .i64 e,.int .i64 f]) (by simp only [List.length_cons,List.length_nil];kernel_rfl) (of_decide_eq_true (by kernel_rfl)) fun m=>?_
 rw [z1H (F:=flds 70) (L := [(67,0),(67,3)]) (by kernel_rfl) (by kernel_rfl) (by kernel_rfl) (m+2) (by simp only [List.length_cons,List.length_nil];kernel_rfl)]
 have i1:=z7V m ha hb hc
 have i2:=z7V m hd he hf
 have c3:Tryz.prog.cellsOf 67=3:=by kernel_rfl
 simp [c3,i1,i2]
def WfN (n:Nat) (k:List Int):Prop:=k.length=n ∧ ∀ x ∈ k,inW x
def Inj (n:Nat):Prop := ∀ k k',WfN n k→WfN n k' → kyN k=kyN k' → k=k'
theorem z7Q:Inj 3:=fun k k' h h' e=>by
 obtain ⟨l,w⟩:=h
 obtain ⟨l',w'⟩:=h'
 match k,l,k',l',w,w' with
 | [a,b,c],_,[a',b',c'],_,w,w' =>
  simp only [List.mem_cons,List.not_mem_nil,or_false,forall_eq_or_imp,forall_eq] at w w'
  have h1:=z4c w.1 w.2.1 w.2.2
  rw [e] at h1
  have:=z1G.inj h1 (z4c w'.1 w'.2.1 w'.2.2)
  simpa using this
theorem z5c:Inj 6:=fun k k' h h' e=>by
 obtain ⟨l,w⟩:=h
 obtain ⟨l',w'⟩:=h'
 match k,l,k',l',w,w' with
 | [a,b,c,d,e1,f],_,[a',b',c',d',e1',f'],_,w,w' =>
  simp only [List.mem_cons,List.not_mem_nil,or_false,forall_eq_or_imp,forall_eq] at w w'
  have h1:=z1F w.1 w.2.1 w.2.2.1 w.2.2.2.1 w.2.2.2.2.1 w.2.2.2.2.2
  rw [e] at h1
  have:=qW.inj h1 (z1F w'.1 w'.2.1 w'.2.2.1 w'.2.2.2.1 w'.2.2.2.2.1 w'.2.2.2.2.2)
  simpa using this
noncomputable def unN (n:Nat) (l:Lit):Option (List Int):=open Classical in if h : ∃ q,WfN n q∧l=kyN q then some h.choose else none
theorem unN_kyN {n:Nat} (hi:Inj n) {k:List Int} (hk:WfN n k):unN n (kyN k)=some k:=by
 have h : ∃ q,WfN n q∧kyN k=kyN q:=⟨k,hk,rfl⟩
 unfold unN
 rw [dif_pos h]
 have h2:=h.choose_spec
 rw [← hi _ _ hk h2.1 h2.2]
theorem z8p {n:Nat} {l:Lit} {q:List Int} (h:unN n l=some q):WfN n q∧l=kyN q:=by
 unfold unN at h
 split at h
 ·rename_i hx
  cases h
  exact hx.choose_spec
 ·cases h
noncomputable def mapN (n:Nat) (m:List Int→Option Value) (l:Lit):Option Value:=(unN n l).bind m
theorem z6v (n:Nat):mapN n (fun _=>none)=fun _=>none:=by funext l;unfold mapN;cases unN n l <;> rfl
theorem z2M {n:Nat} (hi:Inj n) (m:List Int→Option Value) {k:List Int} (hk:WfN n k):mapN n m (kyN k)=m k:=by simp [mapN,unN_kyN hi hk]
theorem z4d {n:Nat} (hi:Inj n) (m:List Int→Option Value) {k:List Int} (hk:WfN n k) (v:Value):updF (mapN n m) (kyN k) (some v)=mapN n fun x=>if x=k then some v else m x:=by
 funext l
 unfold updF
 by_cases e:l=kyN k
 ·subst e
  simp [z2M hi _ hk]
 ·rw [if_neg e]
  unfold mapN
  cases hu:unN n l with
  | none=>rfl
  | some q =>
   have hq:=z8p hu
   have hne:q ≠ k:=fun e2=>e (by rw [hq.2,e2])
   simp [hne]
structure DW (ss:List P2) (ps:List Int):Prop where
 s : ∀ s ∈ ss,inW s.1∧inW s.2
 p : ∀ p ∈ ps,inW p
def enK (x:En):List Int := [x.1,x.2.1,x.2.2]
theorem enK_inj {x y:En} (h:enK x=enK y):x=y:=by
 obtain ⟨a,b,c⟩:=x
 obtain ⟨d,e,f⟩:=y
 simp only [enK,List.cons.injEq,and_true] at h
 rw [h.1,h.2.1,h.2.2]
def tabF (es:List En):Nat→List Int→Option Value
 | 0,_=>none
 | i+1,k=>match es[i]? with
  | some x=>if k=enK x then some (.int .i64 i) else tabF es i k
  | none=>tabF es i k
theorem z7w (es:List En) (x:En) : ∀ i:Nat,i≤es.length→(tabF es i (enK x)).isSome=(es.take i).contains x
 | 0,_=>by simp [tabF]
 | i+1,h=>by
  obtain ⟨y,hy⟩:=qA (l:=es) (k:=i) (by omega)
  rw [z4O hy,← z7w es x i (by omega),tabF,hy]
  simp only []
  by_cases e:y=x
  ·subst e;simp
  ·have : ¬ enK x=enK y:=fun h=>e (enK_inj h).symm
   simp [e,this]
theorem z5Z (es:List En) (k:List Int) : ∀ (i:Nat) (v:Value),tabF es i k=some v → ∃ n:Int,v = .int .i64 n
 | 0,v,h=>by cases h
 | i+1,v,h=>by
  unfold tabF at h
  split at h
  ·split at h
   ·cases h;exact ⟨_,rfl⟩
   ·exact z5Z es k i v h
  ·exact z5Z es k i v h
theorem z8o {es:List En} {i:Nat} {x:En} (hx:es[i]? = some x):(fun k=>if k=enK x then some (Value.int .i64 i) else tabF es i k)=tabF es (i+1):=by
 funext k;simp [tabF,hx]
noncomputable abbrev tabM (es:List En) (i:Nat):Lit→Option Value:=mapN 3 (tabF es i)
theorem tabM_0 (es:List En):tabM es 0=fun _=>none:=z6v 3
theorem z0E:cv (.map none) = .p (.val (.map none)):=rfl
theorem table_f (ss:List P2) (ps:List Int) (hw:DW ss ps) (hsz:ss.length≤1000000) (hv:validD ss ps=false):zt Tryz.prog 38 [dpA ss ps] (.p (.val (.map none))):=by
 have hls:=z04 ss
 have hlp:=z0N ps
 simp only [dpA]
 by_cases hl:ss.length=ps.length
 case neg =>
  have g1:((ss.length:Int) != (ps.length:Int))=true:=by simpa using fun h=>hl (by omega)
  refine zt.of Tryz.func38 rfl 63 rfl (by decide) (by simp [AV.okB]) ?_
  repeat' (first|refine T.zk fun K hK=>?_|apply T.block|(refine T.reg (by kernel_rfl) fun K' hK'=>?_;simp only [bz];(with_reducible repeat' (first|(apply WL.fin;apply hK';clear hK' K')|(refine WL.step fun K2 hK2=>?_;simp only [simprocAttr,implies_true,amz,zf,tys,hls,hlp,g1,z0E];repeat' (first|(apply hK2;clear hK2 K2)|apply And.intro|intro hb)))))|apply T.skip|apply T.exit|refine T.zh rfl ?_|refine T.zg rfl ?_|refine T.cond rfl (fun hc=>?_) (fun hc=>?_)|apply T.ret|simp only [ze,z8,reduceIte,Nat.reduceEqDiff]|((repeat ((fail_if_success apply hK);clear hK K));apply hK;clear hK K))
  all_goals (refine zP.ret (.inr rfl) Tryz.results38 ?_;simp only [zI,zu,zw,simprocAttr,implies_true,amz,zf,tys,z0E])
 have g1:((ss.length:Int) != (ps.length:Int))=false:=by rw [hl];simp
 have hg0:goD [] (enL ss ps)=false:=by simpa [validD,hl] using hv
 have hel:=en_len hl
 refine zt.of Tryz.func38 rfl 63 rfl (by decide) (by simp [AV.okB]) ?_
 repeat' (first|refine T.zk fun K hK=>?_|apply T.block|(refine T.reg (by kernel_rfl) fun K' hK'=>?_;simp only [bz];(with_reducible repeat' (first|(apply WL.fin;apply hK';clear hK' K')|(refine WL.step fun K2 hK2=>?_;simp only [simprocAttr,implies_true,amz,zf,tys,hls,hlp,g1,z0E];repeat' (first|(apply hK2;clear hK2 K2)|apply And.intro|intro hb)))))|apply T.skip|apply T.exit|refine T.zh rfl ?_|refine T.zg rfl ?_|refine T.cond rfl (fun hc=>?_) (fun hc=>?_)|apply T.ret|simp only [ze,z8,reduceIte,Nat.reduceEqDiff]|((repeat ((fail_if_success apply hK);clear hK K));apply hK;clear hK K))
 refine T.z02 (fun i:Nat=>⟨[(1,.ptr 0 0),(2,.p (.val (.map none))),(3,.own 1),(21,.p (.seq 2 (rowP ss))),(22,.int ss.length),(23,.int i)],[(1,.map none Tryz.prog 136 i (tabM (enL ss ps) i)),(0,.boxP none 29 [.p (.seq 2 (rowP ss)),.p (.seq 1 (rowZ ps))])],63,2⟩) (fun i=>i≤ss.length∧goD ((enL ss ps).take i) ((enL ss ps).drop i)=false) (fun i=>ss.length-i) 0 ⟨Nat.zero_le _,by simpa using hg0⟩ (by refine zi.of' rfl ?_;simp only [wks,reduceIte,Nat.reduceEqDiff,ASt.okB,AV.okB,Nat.reduceLT,implies_true,Int.natCast_zero,tabM_0,z0E,AVle.refl]) ?_
 rintro i ⟨hi,hg⟩ KL hKL
 by_cases hlt:i<ss.length
 case neg =>
  rw [List.drop_eq_nil_of_le (by omega),goD] at hg
  cases hg
 have hd:decide ((i:Int)<(ss.length:Int))=true:=by simpa using hlt
 have hi0:(0≤(i:Int))=True:=eq_true (by omega)
 have hml:(i<maxLen)=True:=eq_true (by unfold maxLen;omega)
 obtain ⟨s,hs⟩:=qA hlt
 obtain ⟨p,hp⟩:=qA (l:=ps) (k:=i) (by omega)
 have m1:=z0I hs
 have m2:=z0J hp
 have hx:=en_at hs hp
 obtain ⟨w1,w2⟩:=hw.s s (List.mem_of_getElem? hs)
 have w3:=hw.p p (List.mem_of_getElem? hp)
 have hwf:WfN 3 [p,s.1,s.2]:=⟨rfl,by simp [w1,w2,w3]⟩
 have hko:=z4c w3 w1 w2
 have hat:=z2M z7Q (tabF (enL ss ps) i) hwf
 have htl:((enL ss ps).take i).length=i:=by rw [List.length_take];omega
 have his:=z7w (enL ss ps) (p,s) i (by omega)
 rw [goD_at hx] at hg
 have hpr:=z6E s
 simp only [p2A] at hpr
 cases hc:((enL ss ps).take i).contains (p,s) with
 | true =>
  rw [hc] at his
  obtain ⟨v,hv2⟩:=Option.isSome_iff_exists.1 his
  obtain ⟨n,rfl⟩:=z5Z _ _ _ _ hv2
  simp only [enK] at hv2
  repeat' (first|refine T.zk fun K hK=>?_|apply T.block|(refine T.reg (by kernel_rfl) fun K' hK'=>?_;simp only [bz];(with_reducible repeat' (first|(apply WL.fin;apply hK';clear hK' K')|(refine WL.step fun K2 hK2=>?_;simp only [simprocAttr,implies_true,amz,zf,tys,hls,hlp,hd,hi0,Int.toNat_natCast,m1,m2];repeat' (first|(apply hK2;clear hK2 K2)|apply And.intro|intro hb)))))|apply T.skip|apply T.exit|refine T.zh rfl ?_|refine T.zg rfl ?_|refine T.cond rfl (fun hc=>?_) (fun hc=>?_)|apply T.ret|simp only [ze,z8,reduceIte,Nat.reduceEqDiff]|((repeat ((fail_if_success apply hK);clear hK K));apply hK;clear hK K))
  refine T.comm [some (0,1),some (0,1),some (0,1),some (0,1),some (0,1),some (0,1),some (0,1),none,none] (by kernel_rfl) (by kernel_rfl) fun K' hK'=>?_;simp only [yl,List.zip_cons_cons,List.zip_nil_left];(repeat' (first|(with_reducible refine WC.fin ?_;apply hK';clear hK' K')|((first|(with_reducible refine WC.z0O fun K2 hK2=>?_)|(with_reducible refine WC.stepW fun K2 hK2=>?_));simp only [simprocAttr,implies_true,amz,zf,WCg,WCv,WOw,allP,dav,Chk,List.filter_cons,List.filter_nil,bne_self_eq_false,Nat.reduceBneDiff,Bool.false_eq_true,tys,hls,hlp,hi0,Int.toNat_natCast,m1,m2];(repeat' (first|(with_reducible refine hK2 _ _ ?_;clear hK2 K2)|with_reducible (first|(apply hK2;clear hK2 K2)|apply And.intro|intro hb)|(with_reducible rfl)|((with_reducible show @Eq ASt _ _);rfl) )))));all_goals ((try simp only [ze,z8,reduceIte,Nat.reduceEqDiff]);(try ((repeat ((fail_if_success apply hK);clear hK K));apply hK;clear hK K)))
  all_goals repeat' (first|refine T.zk fun K hK=>?_|apply T.block|(refine T.reg (by kernel_rfl) fun K' hK'=>?_;simp only [bz];(with_reducible repeat' (first|(apply WL.fin;apply hK';clear hK' K')|(refine WL.step fun K2 hK2=>?_;simp only [simprocAttr,implies_true,amz,zf,tys,hko,hat,hv2,z1G,Option.getD_some,Option.isSome_some,z4p];repeat' (first|(apply hK2;clear hK2 K2)|apply And.intro|intro hb)))))|apply T.skip|apply T.exit|refine T.zh rfl ?_|refine T.zg rfl ?_|refine T.cond rfl (fun hc=>?_) (fun hc=>?_)|apply T.ret|simp only [ze,z8,reduceIte,Nat.reduceEqDiff]|((repeat ((fail_if_success apply hK);clear hK K));apply hK;clear hK K))
  all_goals (refine zP.ret (.inr rfl) Tryz.results38 ?_;simp only [zI,zu,zw,simprocAttr,implies_true,amz,zf,tys,z0E])
 | false =>
  rw [hc] at his
  have hv2:tabF (enL ss ps) i [p,s.1,s.2]=none:=by simpa [enK] using his
  by_cases c1:p < -1
  ·have f1:decide (p < -1)=true:=by simpa using c1
   repeat' (first|refine T.zk fun K hK=>?_|apply T.block|(refine T.reg (by kernel_rfl) fun K' hK'=>?_;simp only [bz];(with_reducible repeat' (first|(apply WL.fin;apply hK';clear hK' K')|(refine WL.step fun K2 hK2=>?_;simp only [simprocAttr,implies_true,amz,zf,tys,hls,hlp,hd,hi0,Int.toNat_natCast,m1,m2];repeat' (first|(apply hK2;clear hK2 K2)|apply And.intro|intro hb)))))|apply T.skip|apply T.exit|refine T.zh rfl ?_|refine T.zg rfl ?_|refine T.cond rfl (fun hc=>?_) (fun hc=>?_)|apply T.ret|simp only [ze,z8,reduceIte,Nat.reduceEqDiff]|((repeat ((fail_if_success apply hK);clear hK K));apply hK;clear hK K))
   refine T.comm [some (0,1),some (0,1),some (0,1),some (0,1),some (0,1),some (0,1),some (0,1),none,none] (by kernel_rfl) (by kernel_rfl) fun K' hK'=>?_;simp only [yl,List.zip_cons_cons,List.zip_nil_left];(repeat' (first|(with_reducible refine WC.fin ?_;apply hK';clear hK' K')|((first|(with_reducible refine WC.z0O fun K2 hK2=>?_)|(with_reducible refine WC.stepW fun K2 hK2=>?_));simp only [simprocAttr,implies_true,amz,zf,WCg,WCv,WOw,allP,dav,Chk,List.filter_cons,List.filter_nil,bne_self_eq_false,Nat.reduceBneDiff,Bool.false_eq_true,tys,hls,hlp,hi0,Int.toNat_natCast,m1,m2];(repeat' (first|(with_reducible refine hK2 _ _ ?_;clear hK2 K2)|with_reducible (first|(apply hK2;clear hK2 K2)|apply And.intro|intro hb)|(with_reducible rfl)|((with_reducible show @Eq ASt _ _);rfl) )))));all_goals ((try simp only [ze,z8,reduceIte,Nat.reduceEqDiff]);(try ((repeat ((fail_if_success apply hK);clear hK K));apply hK;clear hK K)))
   all_goals repeat' (first|refine T.zk fun K hK=>?_|apply T.block|(refine T.reg (by kernel_rfl) fun K' hK'=>?_;simp only [bz];(with_reducible repeat' (first|(apply WL.fin;apply hK';clear hK' K')|(refine WL.step fun K2 hK2=>?_;simp only [simprocAttr,implies_true,amz,zf,tys,hko,hat,hv2,z1G,Option.getD_none,Option.isSome_none,z4p,f1];repeat' (first|(apply hK2;clear hK2 K2)|apply And.intro|intro hb)))))|apply T.skip|apply T.exit|refine T.zh rfl ?_|refine T.zg rfl ?_|refine T.cond rfl (fun hc=>?_) (fun hc=>?_)|apply T.ret|simp only [ze,z8,reduceIte,Nat.reduceEqDiff]|((repeat ((fail_if_success apply hK);clear hK K));apply hK;clear hK K))
   all_goals (refine zP.ret (.inr rfl) Tryz.results38 ?_;simp only [zI,zu,zw,simprocAttr,implies_true,amz,zf,tys,z0E])
  have f1:decide (p < -1)=false:=by simpa using c1
  by_cases c2:(i:Int)≤p
  ·have f2:decide ((i:Int)≤p)=true:=by simpa using c2
   repeat' (first|refine T.zk fun K hK=>?_|apply T.block|(refine T.reg (by kernel_rfl) fun K' hK'=>?_;simp only [bz];(with_reducible repeat' (first|(apply WL.fin;apply hK';clear hK' K')|(refine WL.step fun K2 hK2=>?_;simp only [simprocAttr,implies_true,amz,zf,tys,hls,hlp,hd,hi0,Int.toNat_natCast,m1,m2];repeat' (first|(apply hK2;clear hK2 K2)|apply And.intro|intro hb)))))|apply T.skip|apply T.exit|refine T.zh rfl ?_|refine T.zg rfl ?_|refine T.cond rfl (fun hc=>?_) (fun hc=>?_)|apply T.ret|simp only [ze,z8,reduceIte,Nat.reduceEqDiff]|((repeat ((fail_if_success apply hK);clear hK K));apply hK;clear hK K))
   refine T.comm [some (0,1),some (0,1),some (0,1),some (0,1),some (0,1),some (0,1),some (0,1),none,none] (by kernel_rfl) (by kernel_rfl) fun K' hK'=>?_;simp only [yl,List.zip_cons_cons,List.zip_nil_left];(repeat' (first|(with_reducible refine WC.fin ?_;apply hK';clear hK' K')|((first|(with_reducible refine WC.z0O fun K2 hK2=>?_)|(with_reducible refine WC.stepW fun K2 hK2=>?_));simp only [simprocAttr,implies_true,amz,zf,WCg,WCv,WOw,allP,dav,Chk,List.filter_cons,List.filter_nil,bne_self_eq_false,Nat.reduceBneDiff,Bool.false_eq_true,tys,hls,hlp,hi0,Int.toNat_natCast,m1,m2];(repeat' (first|(with_reducible refine hK2 _ _ ?_;clear hK2 K2)|with_reducible (first|(apply hK2;clear hK2 K2)|apply And.intro|intro hb)|(with_reducible rfl)|((with_reducible show @Eq ASt _ _);rfl) )))));all_goals ((try simp only [ze,z8,reduceIte,Nat.reduceEqDiff]);(try ((repeat ((fail_if_success apply hK);clear hK K));apply hK;clear hK K)))
   all_goals repeat' (first|refine T.zk fun K hK=>?_|apply T.block|(refine T.reg (by kernel_rfl) fun K' hK'=>?_;simp only [bz];(with_reducible repeat' (first|(apply WL.fin;apply hK';clear hK' K')|(refine WL.step fun K2 hK2=>?_;simp only [simprocAttr,implies_true,amz,zf,tys,hko,hat,hv2,z1G,Option.getD_none,Option.isSome_none,z4p,f1,f2];repeat' (first|(apply hK2;clear hK2 K2)|apply And.intro|intro hb)))))|apply T.skip|apply T.exit|refine T.zh rfl ?_|refine T.zg rfl ?_|refine T.cond rfl (fun hc=>?_) (fun hc=>?_)|apply T.ret|simp only [ze,z8,reduceIte,Nat.reduceEqDiff]|((repeat ((fail_if_success apply hK);clear hK K));apply hK;clear hK K))
   all_goals (refine zP.ret (.inr rfl) Tryz.results38 ?_;simp only [zI,zu,zw,simprocAttr,implies_true,amz,zf,tys,z0E])
  have f2:decide ((i:Int)≤p)=false:=by simpa using c2
  cases hq:z2g s with
  | false =>
   rw [hq] at hpr
   repeat' (first|refine T.zk fun K hK=>?_|apply T.block|(refine T.reg (by kernel_rfl) fun K' hK'=>?_;simp only [bz];(with_reducible repeat' (first|(apply WL.fin;apply hK';clear hK' K')|(refine WL.step fun K2 hK2=>?_;simp only [simprocAttr,implies_true,amz,zf,tys,hls,hlp,hd,hi0,Int.toNat_natCast,m1,m2];repeat' (first|(apply hK2;clear hK2 K2)|apply And.intro|intro hb)))))|apply T.skip|apply T.exit|refine T.zh rfl ?_|refine T.zg rfl ?_|refine T.cond rfl (fun hc=>?_) (fun hc=>?_)|apply T.ret|simp only [ze,z8,reduceIte,Nat.reduceEqDiff]|((repeat ((fail_if_success apply hK);clear hK K));apply hK;clear hK K))
   refine T.comm [some (0,1),some (0,1),some (0,1),some (0,1),some (0,1),some (0,1),some (0,1),none,none] (by kernel_rfl) (by kernel_rfl) fun K' hK'=>?_;simp only [yl,List.zip_cons_cons,List.zip_nil_left];(repeat' (first|(with_reducible refine WC.fin ?_;apply hK';clear hK' K')|((first|(with_reducible refine WC.z0O fun K2 hK2=>?_)|(with_reducible refine WC.stepW fun K2 hK2=>?_));simp only [simprocAttr,implies_true,amz,zf,WCg,WCv,WOw,allP,dav,Chk,List.filter_cons,List.filter_nil,bne_self_eq_false,Nat.reduceBneDiff,Bool.false_eq_true,tys,hls,hlp,hi0,Int.toNat_natCast,m1,m2];(repeat' (first|(with_reducible refine hK2 _ _ ?_;clear hK2 K2)|with_reducible (first|(apply hK2;clear hK2 K2)|apply And.intro|intro hb)|(with_reducible rfl)|((with_reducible show @Eq ASt _ _);rfl) )))));all_goals ((try simp only [ze,z8,reduceIte,Nat.reduceEqDiff]);(try ((repeat ((fail_if_success apply hK);clear hK K));apply hK;clear hK K)))
   all_goals repeat' (first|refine T.zk fun K hK=>?_|apply T.block|(refine T.reg (by kernel_rfl) fun K' hK'=>?_;simp only [bz];(repeat' (first|(with_reducible refine WL.fin ?_;apply hK';clear hK' K')|((with_reducible refine WL.step fun K2 hK2=>?_);simp only [simprocAttr,implies_true,amz,zf,tys,hko,hat,hv2,z1G,Option.getD_none,Option.isSome_none,z4p,f1,f2];(repeat' (first|with_reducible (first|(apply hK2;clear hK2 K2)|apply And.intro|intro hb)|((with_reducible first|apply zl|apply zn);case h=>exact CallV.plain (Ent.of Tryz.func57 (by kernel_rfl) rfl) (hpr) (by simp [AV.okB]))))))))|apply T.skip|apply T.exit|refine T.zh rfl ?_|refine T.zg rfl ?_|refine T.cond rfl (fun hc=>?_) (fun hc=>?_)|apply T.ret|simp only [ze,z8,reduceIte,Nat.reduceEqDiff]|((repeat ((fail_if_success apply hK);clear hK K));apply hK;clear hK K))
   all_goals (refine zP.ret (.inr rfl) Tryz.results38 ?_;simp only [zI,zu,zw,simprocAttr,implies_true,amz,zf,tys,z0E])
  | true =>
   rw [hq] at hpr
   have hone:oneD ((enL ss ps).take i) (p,s)=true:=by
    simp only [oneD,htl,hc]
    simp only [z2g,Bool.and_eq_true,decide_eq_true_eq] at hq
    rw [decide_eq_true (show (-1:Int)≤p by omega),decide_eq_true (show p<(i:Int) by omega),decide_eq_true (show (0:Int)≤s.1 by omega),decide_eq_true (show (0:Int)≤s.2 by omega)]
    simp
   rw [hone,Bool.true_and] at hg
   have hup:=z4d z7Q (tabF (enL ss ps) i) hwf (.int .i64 i)
   rw [show [p,s.1,s.2]=enK (p,s) from rfl,z8o hx] at hup
   simp only [enK] at hup
   repeat' (first|refine T.zk fun K hK=>?_|apply T.block|(refine T.reg (by kernel_rfl) fun K' hK'=>?_;simp only [bz];(with_reducible repeat' (first|(apply WL.fin;apply hK';clear hK' K')|(refine WL.step fun K2 hK2=>?_;simp only [simprocAttr,implies_true,amz,zf,tys,hls,hlp,hd,hi0,Int.toNat_natCast,m1,m2];repeat' (first|(apply hK2;clear hK2 K2)|apply And.intro|intro hb)))))|apply T.skip|apply T.exit|refine T.zh rfl ?_|refine T.zg rfl ?_|refine T.cond rfl (fun hc=>?_) (fun hc=>?_)|apply T.ret|simp only [ze,z8,reduceIte,Nat.reduceEqDiff]|((repeat ((fail_if_success apply hK);clear hK K));apply hK;clear hK K))
   refine T.comm [some (0,1),some (0,1),some (0,1),some (0,1),some (0,1),some (0,1),some (0,1),none,none] (by kernel_rfl) (by kernel_rfl) fun K' hK'=>?_;simp only [yl,List.zip_cons_cons,List.zip_nil_left];(repeat' (first|(with_reducible refine WC.fin ?_;apply hK';clear hK' K')|((first|(with_reducible refine WC.z0O fun K2 hK2=>?_)|(with_reducible refine WC.stepW fun K2 hK2=>?_));simp only [simprocAttr,implies_true,amz,zf,WCg,WCv,WOw,allP,dav,Chk,List.filter_cons,List.filter_nil,bne_self_eq_false,Nat.reduceBneDiff,Bool.false_eq_true,tys,hls,hlp,hi0,Int.toNat_natCast,m1,m2];(repeat' (first|(with_reducible refine hK2 _ _ ?_;clear hK2 K2)|with_reducible (first|(apply hK2;clear hK2 K2)|apply And.intro|intro hb)|(with_reducible rfl)|((with_reducible show @Eq ASt _ _);rfl) )))));all_goals ((try simp only [ze,z8,reduceIte,Nat.reduceEqDiff]);(try ((repeat ((fail_if_success apply hK);clear hK K));apply hK;clear hK K)))
   all_goals repeat' (first|refine T.zk fun K hK=>?_|apply T.block|(refine T.reg (by kernel_rfl) fun K' hK'=>?_;simp only [bz];(repeat' (first|(with_reducible refine WL.fin ?_;apply hK';clear hK' K')|((with_reducible refine WL.step fun K2 hK2=>?_);simp only [simprocAttr,implies_true,amz,zf,tys,hko,hat,hv2,z1G,Option.getD_none,Option.isSome_none,z4p,f1,f2,hml,hup];(repeat' (first|with_reducible (first|(apply hK2;clear hK2 K2)|apply And.intro|intro hb)|((with_reducible first|apply zl|apply zn);case h=>exact CallV.plain (Ent.of Tryz.func57 (by kernel_rfl) rfl) (hpr) (by simp [AV.okB]))))))))|apply T.skip|apply T.exit|refine T.zh rfl ?_|refine T.zg rfl ?_|refine T.cond rfl (fun hc=>?_) (fun hc=>?_)|apply T.ret|simp only [ze,z8,reduceIte,Nat.reduceEqDiff]|((repeat ((fail_if_success apply hK);clear hK K));apply hK;clear hK K))
   refine hKL _ (i+1) (by refine zi.of' rfl ?_;simp only [wks,reduceIte,Nat.reduceEqDiff,ASt.okB,AV.okB,Nat.reduceLT,implies_true,zx (show i<1152921504606846976 by omega)]) ⟨hlt,hg⟩ (by omega)
end Go.Proofs.YtbkkginjfnjffaaGreatDoor
namespace Go.Proofs.YtbkkginjfnjffaaGreatDoor
open Go.RowKit Go.Sort Go.Shelf
def SortedL {α:Type} (cf : α → α→Int) (ks:List α):Prop:=ks.Pairwise fun x y => ¬ cf y x<0
def z1u {α:Type} (enc : α→List Value) (ks:List α):List (List PV):=ks.map fun x=>(enc x).map PV.val
theorem HRel.cong2 {L:Nat→Prop} {N:Nat} {hp hp' : Hp} {loc:Nat→Option Value} {w:World} (h:HRel L N hp loc w) (e : ∀ t,hp'.lookup t=hp.lookup t):HRel L N hp' loc w:=⟨fun t o ho=>h.at' t o (e t ▸ ho),fun t ho=>h.dead t (e t ▸ ho),h.apart,h.inL,h.notL⟩
theorem z94 {P:Program} {ρ:Ren} (S:SlLaysF0.n6 P ρ) (k:Nat) (aE : ∀ w,(isAgg (ρ.t 24)).run P w = .ok true w) (zE : ∀ w,(Go.sizeOf (ρ.t 24)).run P w = .ok k w) {α:Type} (enc : α→List Value) (hk : ∀ x,(enc x).length=k) (hk0 : 0<k) (h1 : ∀ x,∀ v ∈ enc x,v.oneCell' = true) (cf : α → α→Int) (hO:SWO (ltOf cf)) (g:Nat) (ks:List α) (hlen:ks.length<4611686018427387904) (eg:Ent P g)
  (hcmp : ∀ x y (w:World),Calls P g #[.agg (enc x).toArray,.agg (enc y).toArray] w fun e w'=>e = .returned (.int .i64 (cf x y)) ∧ ∃ q os,w' = grow (w.drewN q) os) (N:Nat) (hp:Hp) (t e:Nat) (hlk:hp.lookup t=some (.row e k (z1u enc ks))) :
  MemK P (ρ.f 6) N hp [.own t,.fn (.func g) []] fun hp' r=>r = .tup [] ∧ ∃ ks' : List α,ks'.Perm ks∧SortedL cf ks' ∧ hp' = zO hp t (.row e k (z1u enc ks')):=fun L loc w vs hh hvs=>by
 obtain ⟨htN,u,hu,hor⟩:=hh.at' t _ hlk
 obtain ⟨v0,v1,rfl⟩ : ∃ v0 v1,vs = [v0,v1]:=by
  match vs,hvs.1 with
  | [v0,v1],_=>exact ⟨v0,v1,rfl⟩
 have a0:=hvs.2 0 _ v0 rfl rfl
 have a1:=hvs.2 1 _ v1 rfl rfl
 cases a0 with
 | own _ _ _ _ hv =>
 obtain rfl:u=v0:=(hv u hu).symm
 cases a1 with
 | fn _ _ cvs hl _ =>
 obtain rfl:cvs = #[]:=Array.eq_empty_of_size_eq_zero (by simpa using hl)
 obtain ⟨flat,hown,hrn,hfl,hone⟩:=hor
 have hlr:(z1u enc ks).length=ks.length:=by simp [z1u]
 rw [hlr] at hown
 by_cases hne:ks = []
 ·subst hne
  obtain ⟨p,c,rfl⟩ : ∃ p c,u = .slice p 0 c:=by
   rcases hown.2 with ⟨rfl,_⟩|⟨b,cap,cur,rfl,_⟩
   ·exact ⟨_,_,rfl⟩
   ·exact ⟨_,_,rfl⟩
  refine Calls.mono (AnyF.slices_SortFunc_none S p c (.func (.func g) #[] #[]) w) ?_
  rintro ee w' ⟨rfl,rfl⟩
  refine ⟨_,_,_,rfl,⟨rfl,[],.refl _,List.Pairwise.nil,rfl⟩,hh.cong2 fun x=>?_,.tup [] #[] rfl (fun j x hx=>by simp at hx),Ext.refl _ _⟩
  rw [qL]
  split
  ·rename_i e;subst e;rw [hlk];rfl
  ·rfl
 have hks0 : 0<ks.length:=List.length_pos_iff.2 hne
 rcases hown.2 with ⟨_,h0⟩|⟨b,cap,cur,rfl,_,hg,hle,hmx,hcs,htk⟩
 ·omega
 have hblt:b<w.heap.size:=(Array.getElem?_eq_some_iff.1 hg).1
 haveI:Inhabited α:=⟨ks[0]⟩
 have hflen:flat.length=ks.length*k:=hown.1
 let d:Array α:=ks.toArray
 have hd:d.size=ks.length:=by simp [d]
 have hdv : ∀ i (hi:i<ks.length),d[i]! = ks[i]:=fun i hi=>by rw [getElem!_pos d i (by rw [hd];exact hi)];simp [d]
 have hflat : ∀ q,q<ks.length*k→flat[q]? = some ((flatK enc k d)[q]!):=fun q hq=>by
  rw [get_flatK _ _ _ _ (by rw [hd];exact hq)]
  have hqk:q / k<ks.length:=Nat.div_lt_of_lt_mul (by rwa [Nat.mul_comm])
  have hqm:q % k<(enc ks[q / k]).length:=by rw [hk];exact Nat.mod_lt _ hk0
  obtain ⟨v,g1,g2⟩:=hfl (q / k) ((enc ks[q / k]).map PV.val) (q % k) (.val (enc ks[q / k])[q % k]) (by simp [z1u,List.getElem?_eq_getElem hqk]) (by rw [List.getElem?_map,List.getElem?_eq_getElem hqm];rfl)
  cases g2
  rw [hdv _ hqk,getElem!_pos (enc ks[q / k]) _ hqm,← g1]
  congr 1
  have:=Nat.div_add_mod q k
  rw [Nat.mul_comm] at this
  omega
 have hbD:Dm L loc b := .inr ⟨t,_,hu,rfl⟩
 have hH:HoldsK enc k w b 0 d:=fun j hj=>by
  rw [size_flatK,hd] at hj
  rw [Nat.zero_add]
  refine ⟨z2u hown (hflat j hj),?_⟩
  simp [World.frozen?,hg]
 have kpS : ∀ m (dk:Array α) os,Kp (fun k=>k=b) w (sortWorldK enc k w b 0 m dk os):=fun m dk os=>by
  refine ⟨rfl,rfl,rfl,?_,fun k hk hne=>?_⟩
  ·simp [sortWorldK,grow,putRowK,putRow,mapBlock,Sort.ahead]
  ·simp only [sortWorldK,grow,putRowK,putRow,mapBlock,Sort.ahead]
   rw [Array.getElem?_append_left (by simpa using hk),Array.getElem?_modify,if_neg (fun e=>hne e.symm)]
 have hagg : ∀ (W:World) (x : α),AR 0 (fun k=>k=b) z2A W (.agg ((enc x).map fun v => .p (.val v))) (.agg (enc x).toArray):=fun W x=>by
  refine .agg _ _ (by simp) (fun j z hz=>?_) (fun j hj=>?_)
  ·simp only [List.getElem?_map,Option.map_eq_some_iff] at hz
   obtain ⟨v,hv,rfl⟩:=hz
   have hlt:=(List.getElem?_eq_some_iff.1 hv).1
   have:(enc x).toArray.getD j undef=v:=by
    rw [Array.getD_eq_getD_getElem?];simp [hv]
   rw [this]
   exact .p _ _ (.val v (h1 x v (List.mem_of_getElem? hv)))
  ·have hlt:j<(enc x).length:=by simpa using hj
   have:(enc x).toArray.getD j undef=(enc x)[j]:=by
    rw [Array.getD_eq_getD_getElem?];simp [hlt]
   rw [this]
   exact h1 x _ (List.getElem_mem hlt)
 have hcl:CmpLays P g #[] enc k cf b 0 d.size w:=fun m os dk hdk x y=>hcmp x y _
 have hS:=AnyQ.slices_SortFunc S k aE zE enc hk h1 cf hO g #[] b 0 cap d w eg hcl hH hblt (by rw [hd];exact hlen)
 rw [show #[Value.slice (some ⟨b,0,none⟩) d.size cap,.func (.func g) #[] #[]] = #[.slice (some ⟨b,0,none⟩) ks.length cap,.func (.func g) #[] #[]] by rw [hd]] at hS
 refine Calls.mono hS ?_
 rintro ee w' ⟨rfl,d',m,os,hperm,hsort,rfl⟩
 have hd' : d'.size=ks.length:=hperm.1.trans hd
 have kw:=kpS m d' os
 have hPd:d'.toList.Perm ks:=by
  have h:=hperm.2.2
  rw [show d'.extract 0 d.size=d' by rw [← hperm.1];simp,show d.extract 0 d.size=d by simp] at h
  simpa [d] using h
 have hrun:(sortWorldK enc k w b 0 m d' os).heap[b]? = some (.cells (putCells id 0 (flatK enc k d') cur) e (0,0)):=by
  simp only [sortWorldK,grow,putRowK,putRow,mapBlock,Sort.ahead]
  rw [Array.getElem?_append_left (by simpa using hblt),Array.getElem?_modify,if_pos rfl,hg]
  rfl
 have hcap:ks.length*k≤cap*k:=Nat.mul_le_mul_right k hle
 have hput : ∀ q,q<ks.length*k→(putCells id 0 (flatK enc k d') cur)[q]? = some ((flatK enc k d')[q]!):=fun q hq=>by
  have hc:q<cur.size:=by omega
  have hkd:q<(flatK enc k d').size:=by rw [size_flatK,hd'];exact hq
  simp only [putCells,Array.getElem?_mapIdx,Array.getElem?_eq_getElem hc,Option.map_some,Nat.zero_le,Nat.zero_add,true_and,if_pos hkd,Nat.sub_zero,id]
 have hfl2 : ∀ q,q<ks.length*k→(flatK enc k d').toList[q]? = some ((flatK enc k d')[q]!):=fun q hq=>by
  have hkd:q<(flatK enc k d').size:=by rw [size_flatK,hd'];exact hq
  rw [Array.getElem?_toList,Array.getElem?_eq_getElem hkd,getElem!_pos (flatK enc k d') _ hkd]
 have hown' : (sortWorldK enc k w b 0 m d' os).ownsRow 0 e k (.slice (some ⟨b,0,none⟩) ks.length cap) ks.length (flatK enc k d').toList:=by
  refine ⟨by simp [hd'],.inr ⟨b,cap,_,rfl,Nat.zero_le _,hrun,hle,hmx,by simp only [putCells,Array.size_mapIdx];exact hcs,?_⟩⟩
  apply List.ext_getElem?
  intro q
  rw [List.getElem?_take]
  split
  ·rename_i hq
   rw [Array.getElem?_toList,hput q hq,hfl2 q hq]
  ·rw [List.getElem?_eq_none];simp [hd'];omega
 have hor' : OR N (Dm L loc) loc (sortWorldK enc k w b 0 m d' os) (.slice (some ⟨b,0,none⟩) ks.length cap) (.row e k (z1u enc d'.toList)):=by
  refine ⟨(flatK enc k d').toList,by simpa [z1u,hd'] using hown',fun r hr=>?_,fun q r j x hq hx=>?_,fun v hv=>?_⟩
  ·obtain ⟨y,_,rfl⟩:=List.mem_map.1 hr;rw [List.length_map,hk]
  ·simp only [z1u,List.getElem?_map,Option.map_eq_some_iff] at hq
   obtain ⟨y,hy,rfl⟩:=hq
   simp only [List.getElem?_map,Option.map_eq_some_iff] at hx
   obtain ⟨v,hv,rfl⟩:=hx
   have hql:q<ks.length:=by have:=(List.getElem?_eq_some_iff.1 hy).1;simp at this;omega
   have hjl:=(List.getElem?_eq_some_iff.1 hv).1
   rw [hk] at hjl
   have hlt:q*k+j<ks.length*k:=by
    have:(q+1)*k≤ks.length*k:=Nat.mul_le_mul_right _ hql
    rw [Nat.add_mul] at this
    omega
   refine ⟨v,?_,.val v (h1 y v (List.mem_of_getElem? hv))⟩
   rw [hfl2 _ hlt,get_flatK _ _ _ _ (by rw [hd'];exact hlt)]
   have e1:(q*k+j) / k=q:=by rw [Nat.mul_comm,Nat.mul_add_div (by omega),Nat.div_eq_of_lt hjl];rfl
   have e2:(q*k+j) % k=j:=by rw [Nat.mul_comm,Nat.mul_add_mod,Nat.mod_eq_of_lt hjl]
   have hyd:d'[q]! = y:=by
    rw [getElem!_pos d' q (by rw [hd'];exact hql)]
    have:=(List.getElem?_eq_some_iff.1 hy).2
    simpa using this
   rw [e1,e2,hyd]
   have:=(List.getElem?_eq_some_iff.1 hv)
   obtain ⟨hl2,hl3⟩:=this
   rw [getElem!_pos (enc y) _ hl2,hl3]
  ·obtain ⟨q,hq,rfl⟩:=List.mem_iff_getElem.1 hv
   have hq' : q<ks.length*k:=by simpa [hd'] using hq
   have hz:=hfl2 q hq'
   rw [List.getElem?_eq_getElem hq] at hz
   have hz':=Option.some.inj hz
   rw [hz',get_flatK _ _ _ _ (by rw [hd'];exact hq')]
   have hqm:q % k<(enc d'[q / k]!).length:=by rw [hk];exact Nat.mod_lt _ hk0
   rw [getElem!_pos (enc d'[q / k]!) _ hqm]
   exact h1 _ _ (List.getElem_mem hqm)
 refine ⟨_,_,_,rfl,⟨rfl,d'.toList,hPd,?_,rfl⟩,hh.turn hlk hu rfl kw hor',.tup [] #[] rfl (fun j x hx=>by simp at hx),.turn hu rfl kw⟩
 refine List.pairwise_iff_getElem.2 fun i j hi hj hij=>?_
 have h:=hsort i j (Nat.zero_le _) hij (by simp at hj;omega)
 rw [getElem!_pos d' i (by simpa using hi),getElem!_pos d' j (by simpa using hj)] at h
 simpa [ltOf] using h
theorem rev_memK {P:Program} {ρ:Ren} (S:SlLaysE0.n35 P ρ) (k:Nat) (aE : ∀ w,(isAgg (ρ.t 23)).run P w = .ok true w) (zE : ∀ w,(Go.sizeOf (ρ.t 23)).run P w = .ok k w) {α:Type} (enc : α→List Value) (hk : ∀ x,(enc x).length=k) (hk0 : 0<k) (h1 : ∀ x,∀ v ∈ enc x,v.oneCell' = true) (ks:List α) (hlen:ks.length<4611686018427387904) (N:Nat) (hp:Hp) (t e:Nat) (hlk:hp.lookup t=some (.row e k (z1u enc ks))) :
  MemK P (ρ.f 35) N hp [.own t] fun hp' r=>r = .tup []∧hp' = zO hp t (.row e k (z1u enc ks.reverse)):=fun L loc w vs hh hvs=>by
 obtain ⟨htN,u,hu,hor⟩:=hh.at' t _ hlk
 obtain ⟨v0,rfl⟩ : ∃ v0,vs = [v0]:=by
  match vs,hvs.1 with
  | [v0],_=>exact ⟨v0,rfl⟩
 have a0:=hvs.2 0 _ v0 rfl rfl
 cases a0 with
 | own _ _ _ _ hv =>
 obtain rfl:u=v0:=(hv u hu).symm
 obtain ⟨flat,hown,hrn,hfl,hone⟩:=hor
 have hlr:(z1u enc ks).length=ks.length:=by simp [z1u]
 rw [hlr] at hown
 by_cases hne:ks = []
 ·subst hne
  obtain ⟨p,c,rfl⟩ : ∃ p c,u = .slice p 0 c:=by
   rcases hown.2 with ⟨rfl,_⟩|⟨b,cap,cur,rfl,_⟩
   ·exact ⟨_,_,rfl⟩
   ·exact ⟨_,_,rfl⟩
  refine Calls.mono (AnyQ.slices_Reverse_empty S p c w) ?_
  rintro ee w' ⟨rfl,rfl⟩
  refine ⟨_,_,_,rfl,⟨rfl,rfl⟩,hh.cong2 fun x=>?_,.tup [] #[] rfl (fun j x hx=>by simp at hx),Ext.refl _ _⟩
  rw [qL]
  split
  ·rename_i e;subst e;rw [hlk];rfl
  ·rfl
 have hks0 : 0<ks.length:=List.length_pos_iff.2 hne
 rcases hown.2 with ⟨_,h0⟩|⟨b,cap,cur,rfl,_,hg,hle,hmx,hcs,htk⟩
 ·omega
 have hblt:b<w.heap.size:=(Array.getElem?_eq_some_iff.1 hg).1
 haveI:Inhabited α:=⟨ks[0]⟩
 have hflen:flat.length=ks.length*k:=hown.1
 let d:Array α:=ks.toArray
 have hd:d.size=ks.length:=by simp [d]
 have hdv : ∀ i (hi:i<ks.length),d[i]! = ks[i]:=fun i hi=>by rw [getElem!_pos d i (by rw [hd];exact hi)];simp [d]
 have hflat : ∀ q,q<ks.length*k→flat[q]? = some ((flatK enc k d)[q]!):=fun q hq=>by
  rw [get_flatK _ _ _ _ (by rw [hd];exact hq)]
  have hqk:q / k<ks.length:=Nat.div_lt_of_lt_mul (by rwa [Nat.mul_comm])
  have hqm:q % k<(enc ks[q / k]).length:=by rw [hk];exact Nat.mod_lt _ hk0
  obtain ⟨v,g1,g2⟩:=hfl (q / k) ((enc ks[q / k]).map PV.val) (q % k) (.val (enc ks[q / k])[q % k]) (by simp [z1u,List.getElem?_eq_getElem hqk]) (by rw [List.getElem?_map,List.getElem?_eq_getElem hqm];rfl)
  cases g2
  rw [hdv _ hqk,getElem!_pos (enc ks[q / k]) _ hqm,← g1]
  congr 1
  have:=Nat.div_add_mod q k
  rw [Nat.mul_comm] at this
  omega
 have hbD:Dm L loc b := .inr ⟨t,_,hu,rfl⟩
 have hH:HoldsK enc k w b 0 d:=fun j hj=>by
  rw [size_flatK,hd] at hj
  rw [Nat.zero_add]
  refine ⟨z2u hown (hflat j hj),?_⟩
  simp [World.frozen?,hg]
 have kpS : ∀ m (dk:Array α) os,Kp (fun k=>k=b) w (sortWorldK enc k w b 0 m dk os):=fun m dk os=>by
  refine ⟨rfl,rfl,rfl,?_,fun k hk hne=>?_⟩
  ·simp [sortWorldK,grow,putRowK,putRow,mapBlock,Sort.ahead]
  ·simp only [sortWorldK,grow,putRowK,putRow,mapBlock,Sort.ahead]
   rw [Array.getElem?_append_left (by simpa using hk),Array.getElem?_modify,if_neg (fun e=>hne e.symm)]
 have hS:=AnyQ.slices_Reverse S k aE zE enc hk h1 b 0 cap d w hH (by rw [hd];omega)
 rw [show #[Value.slice (some ⟨b,0,none⟩) d.size cap] = #[.slice (some ⟨b,0,none⟩) ks.length cap] by rw [hd]] at hS
 refine Calls.mono hS ?_
 rintro ee w' ⟨rfl,m,hw'⟩
 obtain ⟨d',hd'e⟩ : ∃ d',d' = d.reverse:=⟨_,rfl⟩
 obtain ⟨os,hos⟩ : ∃ os:Array Obj,os = #[]:=⟨_,rfl⟩
 obtain rfl:w' = sortWorldK enc k w b 0 m d' os:=by rw [hw',sortWorldK,hos,hd'e,grow_empty]
 have hd' : d'.size=ks.length:=by rw [hd'e,Array.size_reverse,hd]
 have kw:=kpS m d' os
 have hPd:d'.toList=ks.reverse:=by rw [hd'e];simp [d]
 have hrun:(sortWorldK enc k w b 0 m d' os).heap[b]? = some (.cells (putCells id 0 (flatK enc k d') cur) e (0,0)):=by
  simp only [sortWorldK,grow,putRowK,putRow,mapBlock,Sort.ahead]
  rw [Array.getElem?_append_left (by simpa using hblt),Array.getElem?_modify,if_pos rfl,hg]
  rfl
 have hcap:ks.length*k≤cap*k:=Nat.mul_le_mul_right k hle
 have hput : ∀ q,q<ks.length*k→(putCells id 0 (flatK enc k d') cur)[q]? = some ((flatK enc k d')[q]!):=fun q hq=>by
  have hc:q<cur.size:=by omega
  have hkd:q<(flatK enc k d').size:=by rw [size_flatK,hd'];exact hq
  simp only [putCells,Array.getElem?_mapIdx,Array.getElem?_eq_getElem hc,Option.map_some,Nat.zero_le,Nat.zero_add,true_and,if_pos hkd,Nat.sub_zero,id]
 have hfl2 : ∀ q,q<ks.length*k→(flatK enc k d').toList[q]? = some ((flatK enc k d')[q]!):=fun q hq=>by
  have hkd:q<(flatK enc k d').size:=by rw [size_flatK,hd'];exact hq
  rw [Array.getElem?_toList,Array.getElem?_eq_getElem hkd,getElem!_pos (flatK enc k d') _ hkd]
 have hown' : (sortWorldK enc k w b 0 m d' os).ownsRow 0 e k (.slice (some ⟨b,0,none⟩) ks.length cap) ks.length (flatK enc k d').toList:=by
  refine ⟨by simp [hd'],.inr ⟨b,cap,_,rfl,Nat.zero_le _,hrun,hle,hmx,by simp only [putCells,Array.size_mapIdx];exact hcs,?_⟩⟩
  apply List.ext_getElem?
  intro q
  rw [List.getElem?_take]
  split
  ·rename_i hq
   rw [Array.getElem?_toList,hput q hq,hfl2 q hq]
  ·rw [List.getElem?_eq_none];simp [hd'];omega
 have hor' : OR N (Dm L loc) loc (sortWorldK enc k w b 0 m d' os) (.slice (some ⟨b,0,none⟩) ks.length cap) (.row e k (z1u enc d'.toList)):=by
  refine ⟨(flatK enc k d').toList,by simpa [z1u,hd'] using hown',fun r hr=>?_,fun q r j x hq hx=>?_,fun v hv=>?_⟩
  ·obtain ⟨y,_,rfl⟩:=List.mem_map.1 hr;rw [List.length_map,hk]
  ·simp only [z1u,List.getElem?_map,Option.map_eq_some_iff] at hq
   obtain ⟨y,hy,rfl⟩:=hq
   simp only [List.getElem?_map,Option.map_eq_some_iff] at hx
   obtain ⟨v,hv,rfl⟩:=hx
   have hql:q<ks.length:=by have:=(List.getElem?_eq_some_iff.1 hy).1;simp at this;omega
   have hjl:=(List.getElem?_eq_some_iff.1 hv).1
   rw [hk] at hjl
   have hlt:q*k+j<ks.length*k:=by
    have:(q+1)*k≤ks.length*k:=Nat.mul_le_mul_right _ hql
    rw [Nat.add_mul] at this
    omega
   refine ⟨v,?_,.val v (h1 y v (List.mem_of_getElem? hv))⟩
   rw [hfl2 _ hlt,get_flatK _ _ _ _ (by rw [hd'];exact hlt)]
   have e1:(q*k+j) / k=q:=by rw [Nat.mul_comm,Nat.mul_add_div (by omega),Nat.div_eq_of_lt hjl];rfl
   have e2:(q*k+j) % k=j:=by rw [Nat.mul_comm,Nat.mul_add_mod,Nat.mod_eq_of_lt hjl]
   have hyd:d'[q]! = y:=by
    rw [getElem!_pos d' q (by rw [hd'];exact hql)]
    have:=(List.getElem?_eq_some_iff.1 hy).2
    simpa using this
   rw [e1,e2,hyd]
   have:=(List.getElem?_eq_some_iff.1 hv)
   obtain ⟨hl2,hl3⟩:=this
   rw [getElem!_pos (enc y) _ hl2,hl3]
  ·obtain ⟨q,hq,rfl⟩:=List.mem_iff_getElem.1 hv
   have hq' : q<ks.length*k:=by simpa [hd'] using hq
   have hz:=hfl2 q hq'
   rw [List.getElem?_eq_getElem hq] at hz
   have hz':=Option.some.inj hz
   rw [hz',get_flatK _ _ _ _ (by rw [hd'];exact hq')]
   have hqm:q % k<(enc d'[q / k]!).length:=by rw [hk];exact Nat.mod_lt _ hk0
   rw [getElem!_pos (enc d'[q / k]!) _ hqm]
   exact h1 _ _ (List.getElem_mem hqm)
 rw [hPd] at hor'
 exact ⟨_,_,_,rfl,⟨rfl,rfl⟩,hh.turn hlk hu rfl kw hor',.tup [] #[] rfl (fun j x hx=>by simp at hx),.turn hu rfl kw⟩
end Go.Proofs.YtbkkginjfnjffaaGreatDoor
namespace Go.Proofs.YtbkkginjfnjffaaGreatDoor
open Go.RowKit Go.Sort
section
variable {P:Program} {ops:Array Oper} {o:Oper} {s:ASt}
theorem z8Q (t:TypeId) (len:Nat) (parts:Array (Nat × Operand)) (e0 n0 bytes:Nat) (rows:List (List PV)) (h:o.op = .buildSlice t len parts) (hl:z1y P s t len parts.toList=some (.p (.seq n0 rows))) (ht:zY P t=some (e0,n0,bytes)) (hd : ∀ t,o.dst=some t→t<s.n):z0L P o s ((s.add (.row e0 n0 rows)).put o.dst (.own s.N)):=fun L loc a w hr=>by
 obtain ⟨i0,z0,hu0,hi0,_⟩:=(z0g ht).h
 have hev : ∀ (j i:Nat) (x:AV) (i' : Nat) (v:Value),(parts.toList.map fun p=>(p.1,s.ev p.2))[j]? = some (i,x)→(parts.map fun (i,x)=>(i,a.eval x)).toList[j]? = some (i',v)→i=i' ∧ AR s.N (Dm L loc) loc w x v:=fun j i x i' v h1 h2=>by
  simp only [Array.toList_map,List.getElem?_map,Option.map_eq_some_iff] at h1 h2
  obtain ⟨p,hp,e1⟩:=h1
  obtain ⟨p',hp',e2⟩:=h2
  rw [hp] at hp'
  cases hp'
  cases e1
  cases e2
  exact ⟨rfl,hr.ev p.2 (fun _ _=>trivial)⟩
 have hlen:(parts.map fun (i,x)=>(i,a.eval x)).toList.length=(parts.toList.map fun p=>(p.1,s.ev p.2)).length:=by simp
 unfold z1y at hl
 split at hl
 ·rename_i e hu
  split at hl
  ·rename_i zs n hz hs
   split at hl
   ·rename_i hcond
    obtain ⟨hzl,hn0,hmax,hml⟩:=hcond
    split at hl
    ·rename_i cs hf
     obtain ⟨xs,hxs,hE⟩:=Option.map_eq_some_iff.1 hl
     rw [hu0] at hu
     cases hu
     cases hE
     obtain ⟨i,z,hi,hiz,hzc,hone⟩:=z0j hz
     have hzsz:z.cells.size=n0:=by rw [← hzl,← hzc];simp
     have hz0:Cs s.N (Dm L loc) loc w ((List.range (len*n0)).map fun j => .p (.val (zs.getD (j % n0) undef))) ((Array.range (len*n0)).map fun j=>z.cells[j % z.cells.size]!):=by
      have e1 : ∀ j,z.cells[j % z.cells.size]! = zs.getD (j % n0) undef:=fun j=>by
       have:j % n0<z.cells.size:=by rw [hzsz];exact Nat.mod_lt _ hn0
       rw [hzsz,getElem!_pos z.cells _ this,← hzc,List.getD_eq_getElem?_getD,Array.getElem?_toList,Array.getElem?_eq_getElem this]
       rfl
      have e2:(Array.range (len*n0)).map (fun j=>z.cells[j % z.cells.size]!)=((List.range (len*n0)).map fun j=>zs.getD (j % n0) undef).toArray:=by
       apply Array.ext'
       simp [e1]
      rw [e2]
      have:=Cs.zero s.N (Dm L loc) loc w (vs:=((List.range (len*n0)).map fun j=>zs.getD (j % n0) undef).toArray) (fun v hv=>by
       obtain ⟨j,_,rfl⟩:=List.mem_map.1 (show v ∈ (List.range (len*n0)).map (fun j=>zs.getD (j % n0) undef) from hv)
       have:j % n0<zs.length:=by rw [hzl];exact Nat.mod_lt _ hn0
       rw [List.getD_eq_getElem?_getD,List.getElem?_eq_getElem this]
       exact hone _ (List.getElem_mem this))
      simpa [List.map_map,Function.comp_def] using this
     obtain ⟨us',h1,h2⟩:=z3w hlen hev hz0 hf
     obtain ⟨i',hi',his⟩:=Option.map_eq_some_iff.1 hs
     rw [hi] at hi'
     cases hi'
     have hrun:(Instr.buildSlice t len (parts.map fun (i,x)=>(i,a.eval x))).run P w = .ok (.slice (some ⟨w.heap.size,0,none⟩) len len) (w.alloc (.cells us' e0)):=by
      have hm : ¬ (len*n0 > 2 ^ 24):=by omega
      have hnr : ∀ c:Array Value,(newRow e0 c).run P w = .ok ⟨w.heap.size,0,none⟩ (w.alloc (.cells c e0)):=fun c=>by simp [newRow]
      unfold Instr.buildSlice
      by_cases h0:len*n0=0
      ·have e3:(Array.range (len*n0)).map (fun j=>z.cells[j % z.cells.size]!)=(Array.range (len*n0)).map (fun j=>(#[] : Array Value)[j % (#[] : Array Value).size]!):=by rw [h0];apply Array.ext';simp
       rw [e3] at h1
       simp only [Sem.run_bind,run_underlying hu0,Result.andThen_ok,sizeOf,typeInfo,run_program,hi,his,Sem.run_pure,if_neg hm,if_pos h0,h1,hnr]
      ·simp only [Sem.run_bind,run_underlying hu0,Result.andThen_ok,sizeOf,typeInfo,run_program,hi,his,Sem.run_pure,if_neg hm,if_neg h0,zeroValue,hiz,h1,hnr]
     have hbl:Blw w.heap.size w (w.alloc (.cells us' e0)):=(Blw.refl _ _).alloc (Nat.le_refl _) _
     have hcs:=z2v hxs
     have hcl:cs.length=len*n0:=by
      have : ∀ (ps:List (Nat × AV)) (c c' : List AV),z2I (fun i=>some (i*n0,n0)) c ps=some c' → c'.length=c.length:=by
       intro ps
       induction ps with
       | nil=>intro c c' h;cases h;rfl
       | cons p r ih =>
        intro c c' h
        obtain ⟨k,x⟩:=p
        simp only [z2I] at h
        split at h
        ·split at h
         ·rename_i hc
          rw [ih _ _ h,qY hc.2]
         ·cases h
        ·cases h
      rw [this _ _ _ hf];simp
     have hxl:xs.length=len*n0:=by rw [← hcl,hcs];simp
     have hub : ∀ b,ql (.slice (some ⟨w.heap.size,0,none⟩) len len)=some b→w.heap.size≤b:=fun b e=>by cases e;exact Nat.le_refl _
     have hus:us'.toList.length=len*n0:=by rw [Array.length_toList,h2.1,hcl]
     have ho:OR (s.N+1) (Dm L (qj loc s.N (.slice (some ⟨w.heap.size,0,none⟩) len len))) (qj loc s.N (.slice (some ⟨w.heap.size,0,none⟩) len len)) (w.alloc (.cells us' e0)) (.slice (some ⟨w.heap.size,0,none⟩) len len) (.row e0 n0 (chunks n0 len xs)):=by
      refine ⟨us'.toList,⟨by rw [hus,z00],.inr ⟨w.heap.size,len,_,by rw [z00],Nat.zero_le _,qR w _ _ rfl,by rw [z00];exact Nat.le_refl _,hml,by rw [← Array.length_toList,hus],?_⟩⟩,fun r hr'=>?_,fun k r j x hk hx=>?_,fun v hv=>?_⟩
      ·rw [List.take_of_length_le (by rw [hus,z00];exact Nat.le_refl _)]
      ·obtain ⟨k,hk,rfl⟩:=List.mem_iff_getElem.1 hr'
       rw [z00] at hk
       have e1:=z1n n0 len xs k _ (List.getElem?_eq_getElem (by rw [z00];exact hk))
       rw [e1,List.length_take,List.length_drop,hxl]
       have:(k+1)*n0≤len*n0:=Nat.mul_le_mul_right n0 hk
       rw [Nat.add_mul] at this
       omega
      ·have e1:=z1n n0 len xs k _ hk
       rw [e1,List.getElem?_take] at hx
       split at hx
       ·rw [List.getElem?_drop] at hx
        have hx' : cs[k*n0+j]? = some (.p x):=by rw [hcs,List.getElem?_map,hx];rfl
        have h5:=h2.2.1 _ _ hx'
        have hlt:=(List.getElem?_eq_some_iff.1 hx').1
        rw [← h2.1] at hlt
        rw [Array.getD_eq_getD_getElem?,Array.getElem?_eq_getElem hlt] at h5
        refine ⟨us'[k*n0+j],by rw [Array.getElem?_toList,Array.getElem?_eq_getElem hlt],?_⟩
        cases h5 with
        | p _ _ hp=>exact hp.mono (.of_below hbl) (fun k hk hd=>(z19 hd).resolve_left fun e=>by have:=hub k e;omega)
       ·cases hx
      ·obtain ⟨j,hj,rfl⟩:=List.mem_iff_getElem.1 hv
       simp only [Array.length_toList] at hj
       have:=h2.2.2 j hj
       rw [Array.getD_eq_getD_getElem?,Array.getElem?_eq_getElem hj] at this
       simpa using this
     unfold Oper.wp
     have he:(execOp a.eval o).run P w = .ok (.value (.slice (some ⟨w.heap.size,0,none⟩) len len)) (w.alloc (.cells us' e0)):=by
      simp only [execOp,h,Sem.run_bind,hrun,Result.andThen_ok,Sem.run_pure]
     rw [he]
     refine ⟨qj loc s.N (.slice (some ⟨w.heap.size,0,none⟩) len len),?_,.add hbl _ _ hub⟩
     refine (hr.add hbl _ (.row e0 n0 (chunks n0 len xs)) hub ho).put' hd (.own s.N _ (Nat.lt_succ_self _) rfl fun z hz=>?_)
     rw [zQ] at hz;cases hz;rfl
    ·cases hl
   ·cases hl
  ·cases hl
 ·cases hl
end
def WLB (P:Program) (ds:List (Option Nat)) (Q:ASt→Prop):Nat→List Oper→ASt→Prop
 | _,[],_=>False
 | 0,o :: rest,s=>o.guard=none∧(∀ t,o.dst=some t→t<s.n) ∧ ∃ t len parts e0 n0 bytes rows,o.op = .buildSlice t len parts∧z1y P s t len parts.toList=some (.p (.seq n0 rows))∧zY P t=some (e0,n0,bytes)∧WL P ds Q rest ((s.add (.row e0 n0 rows)).put o.dst (.own s.N))
 | k+1,o :: rest,s=>WS P ds o s (WLB P ds Q k rest)
theorem WLB.sound {P:Program} {ops:Array Oper} {Q:Exit→ASt→Prop} : ∀ {k:Nat} {l:List Oper} {s:ASt},WLB P (ops.toList.map (·.dst)) (Q .normal) k l s→TL P ops Q l s
 | 0,_ :: _,_,⟨hg,hd,t,len,parts,e0,n0,bytes,rows,h,hl,ht,hk⟩=>TL.eff (by simp [z3a,hg]) (z8Q t len parts e0 n0 bytes rows h hl ht hd) (WL.sound hk)
 | k+1,_ :: _,_,h=>WS.sound (WS.mono (fun _ k=>WLB.sound k) h)
theorem WLB.step {P:Program} {ds:List (Option Nat)} {Q:ASt→Prop} {k:Nat} {o:Oper} {rest:List Oper} {s:ASt} (h : ∀ K:ASt→Prop,(∀ s,WLB P ds Q k rest s→K s)→WS P ds o s K):WLB P ds Q (k+1) (o :: rest) s:=h _ fun _ h=>h
theorem WLB.own {P:Program} {ds:List (Option Nat)} {Q:ASt→Prop} {o:Oper} {rest:List Oper} {s:ASt} (t:TypeId) (len:Nat) (parts:Array (Nat × Operand)) (e0 n0 bytes:Nat) (rows:List (List PV)) (g:o.guard=none) (hd : ∀ t,o.dst=some t→t<s.n) (h:o.op = .buildSlice t len parts) (hl:z1y P s t len parts.toList=some (.p (.seq n0 rows))) (ht:zY P t=some (e0,n0,bytes)) (hk:WL P ds Q rest ((s.add (.row e0 n0 rows)).put o.dst (.own s.N))):WLB P ds Q 0 (o :: rest) s:=⟨g,hd,t,len,parts,e0,n0,bytes,rows,h,hl,ht,hk⟩
theorem T.regB {F:Fence} [FOk F] {P:Program} {Q:Exit→ASt→Prop} {s:ASt} {id:Nat} {l:List Oper} (k:Nat) (hd:z1r l=true) (h : ∀ K:ASt→Prop,(∀ s,Q .normal s→K s)→WLB P (l.map (·.dst)) K k l s):T F P (.region id l.toArray false) Q s :=
 T.region hd (WLB.sound (ops:=l.toArray) (by rw [show NQ Q .normal=Q .normal from funext (NQ.normal Q)];simpa using h _ fun _ h=>h))
end Go.Proofs.YtbkkginjfnjffaaGreatDoor
