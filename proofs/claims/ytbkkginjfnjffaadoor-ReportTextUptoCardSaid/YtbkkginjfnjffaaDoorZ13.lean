/- Texts Oi, Mg, Oj, Ok, Law, Op, Oq. -/
import Derived.ProofKit
import Derived.HandedShaped
import Derived.Test.YtbkkginjfnjffaaDoorRows
import Derived.OpenShut
import Derived.Test.YtbkkginjfnjffaaDoorZ12
set_option maxHeartbeats 32000000
set_option maxRecDepth 100000
set_option linter.unusedSimpArgs false
set_option linter.unusedVariables false
namespace Go.Proofs.YtbkkginjfnjffaaDoor
open Go.RowKit Go.Sort Go.Maps
theorem subC (t:Nat) (y:AV) (l:List Value):(z08 l).map (AV.sub t y)=z08 l:=by simp [z08,AV.z5S]
def lAw:List Ev := [⟨0,2,0,0,0,0,0,4,0⟩,⟨1,1,0,0,0,0,1,2,1⟩]
def rAw:Rep:=⟨0,0,2,1,[(0,4)],[(1,2)],1⟩
theorem outAw:outM lAw [(0,4),(1,2)] [-1,-1] [(0,1)] = [rAw]:=by kernel_rfl
theorem errAw:errM lAw [(0,4),(1,2)] [-1,-1] [(0,1)]=0:=by decide +kernel
theorem mergeAw:zy Tryd.prog 10 [trA lAw [(0,4),(1,2)] [-1,-1],raA [(0,1)]] (.tup [.p (.seq 7 [qJ rAw]),.int 0]):=by
 have h:=z1x lAw (fun e he=>by
  simp only [lAw,List.mem_cons,List.not_mem_nil,or_false] at he
  rcases he with rfl|rfl <;> exact ⟨by unfold inW;decide,by unfold inW;decide,by unfold inW;decide⟩) [(0,4),(1,2)] [-1,-1] ⟨by unfold inW;decide,by unfold inW;decide⟩ (by decide) [(0,1)] (by decide)
 rw [merA,outAw,errAw] at h
 exact h
def z5:In5:=⟨0,0,0,0,0⟩
def fsAw:List Fu := [⟨⟨#[109,97,105,110]⟩,0,0,[z5,z5,z5,z5,⟨0,0,0,0,25⟩]⟩,⟨⟨#[109,97,105,110,46,49]⟩,0,0,[z5,z5,⟨0,0,0,0,50⟩]⟩]
def z8L:List Int := [0,10,20,30,40,50]
def resAw:ByteArray:=⟨#[114,97,99,101,32,48,46,48,32,49,10,32,32,119,114,105,116,101,10,32,32,32,32,109,97,105,110,58,51,10,32,32,114,101,97,100,10,32,32,32,32,109,97,105,110,46,49,58,54,10]⟩
theorem z3J {x:Int} {u:Nat} (e:x=u) (h:u<10):(dI x).data.toList = [UInt8.ofNat (48+u)]:=by
 subst e
 rw [dI_pos (Int.natCast_nonneg u),Int.toNat_natCast,z3G,Go.Lib.decDigits,dif_pos h]
theorem lin0:qw fsAw z8L 60 (0,4)=3:=by decide +kernel
theorem lin1:qw fsAw z8L 60 (1,2)=6:=by decide +kernel
theorem txtAw:txtN fsAw z8L 60 rAw=resAw:=by
 apply z3y
 simp only [txtN,hedN,accN,putN,hdN,entN,rAw,List.reverse_cons,List.reverse_nil,List.nil_append,List.foldl_cons,List.foldl_nil,z0G,lin0,lin1]
 rw [z3J (x := 0) (u := 0) rfl (by decide),z3J (x := 1) (u := 1) rfl (by decide),z3J (x := 3) (u := 3) rfl (by decide),z3J (x := 6) (u := 6) rfl (by decide)]
 rfl
theorem readAw:z3Z Tryd.prog 15 1000001 hpG [pgA fsAw (.val (.slice none 0 0)) (.val (.slice none 0 0)) 0,lnA z8L 60,repA rAw] (.string resAw):=by
 have h:=z5d fsAw (.val (.slice none 0 0)) (.val (.slice none 0 0)) 0 z8L 60 rAw (fun f hf=>by
  simp only [fsAw,List.mem_cons,List.not_mem_nil,or_false] at hf
  rcases hf with rfl|rfl <;> (show ByteArray.size _≤_;decide)) (by decide) (by decide) (by decide) ⟨by decide,by decide,by decide⟩
 rw [txtAw] at h
 exact h
def stAw (FR:List (Nat × AV)) (HP:Hp) (b:Nat→Bool):ASt:=⟨(22,bif b 0 then .own 1000002 else .zn) :: (23,bif b 1 then .agg [.p (.val (.string (⟨#[109,97,105,110]⟩ : ByteArray))),.int 0,.int 0,.own 1000002] else .zn) :: (24,bif b 2 then .own 1000003 else .zn) :: (25,bif b 3 then .agg [.p (.val (.string (⟨#[109,97,105,110,46,49]⟩ : ByteArray))),.int 0,.int 0,.own 1000003] else .zn) :: (26,bif b 4 then .own 1000004 else .zn) :: (27,bif b 5 then .agg [.own 1000004,.p (.val (.slice none 0 0)),.p (.val (.slice none 0 0)),.int 0] else .zn) :: (4,bif b 6 then .ptr 1000005 0 else .zn) :: FR,(bif b 0 then [(1000002,AO.row 61 5 [[PV.val (.int .i64 0),.val (.int .i64 0),.val (.int .i64 0),.val (.int .i64 0),.val (.int .i64 0)],[PV.val (.int .i64 0),.val (.int .i64 0),.val (.int .i64 0),.val (.int .i64 0),.val (.int .i64 0)],[PV.val (.int .i64 0),.val (.int .i64 0),.val (.int .i64 0),.val (.int .i64 0),.val (.int .i64 0)],[PV.val (.int .i64 0),.val (.int .i64 0),.val (.int .i64 0),.val (.int .i64 0),.val (.int .i64 0)],[PV.val (.int .i64 0),.val (.int .i64 0),.val (.int .i64 0),.val (.int .i64 0),.val (.int .i64 0)]])] else [])++((bif b 2 then [(1000003,AO.row 61 5 [[PV.val (.int .i64 0),.val (.int .i64 0),.val (.int .i64 0),.val (.int .i64 0),.val (.int .i64 0)],[PV.val (.int .i64 0),.val (.int .i64 0),.val (.int .i64 0),.val (.int .i64 0),.val (.int .i64 0)],[PV.val (.int .i64 0),.val (.int .i64 0),.val (.int .i64 0),.val (.int .i64 0),.val (.int .i64 0)]])] else [])++((bif b 4 then [(1000004,AO.afix 59 4 2 [.p (.val (.string (⟨#[109,97,105,110]⟩ : ByteArray))),.int 0,.int 0,.own 1000002,.p (.val (.string (⟨#[109,97,105,110,46,49]⟩ : ByteArray))),.int 0,.int 0,.own 1000003])] else [])++((bif b 6 then [(1000005,AO.boxP none 46 (bif b 7 then [.own 1000004,.p (.val (.slice none 0 0)),.p (.val (.slice none 0 0)),.int 0] else [.p (.val (.slice none 0 0)),.p (.val (.slice none 0 0)),.p (.val (.slice none 0 0)),.int 0]))] else [])++HP))),79,1000006⟩
theorem awake_mem:MemC Tryd.prog 8 1000001 hpG [] fun hp' r'=>hp' = hpG∧r' = .p (.val (.bool true)):=by
 have hM:=mergeAw
 simp only [trA,raA,evC,rowP,rowZ,lAw,List.map_cons,List.map_nil] at hM
 have hT:=readAw
 simp only [pgA,lnA,repA,qJ,rAw,fsAw,z8L,resAw,fuC,inC5,z5,rowP,rowZ,List.map_cons,List.map_nil] at hT
 have m1:(1≤maxLen)=True:=eq_true (by unfold maxLen;omega)
 have m2:(2≤maxLen)=True:=eq_true (by unfold maxLen;omega)
 have m3:(3≤maxLen)=True:=eq_true (by unfold maxLen;omega)
 have m5:(5≤maxLen)=True:=eq_true (by unfold maxLen;omega)
 have r5 : ∀ z:List PV,List.replicate (Int.toNat 5) z = [z,z,z,z,z]:=fun _=>rfl
 have r3 : ∀ z:List PV,List.replicate (Int.toNat 3) z = [z,z,z]:=fun _=>rfl
 have n4:Int.toNat 4=4:=rfl
 have n2:Int.toNat 2=2:=rfl
 have n1:Int.toNat 1=1:=rfl
 have e0:((0:Int) != 0)=false:=rfl
 have e1:(((1:Nat):Int) != 1)=false:=rfl
 have m6:(6≤maxLen)=True:=eq_true (by unfold maxLen;omega)
 refine MemC.of Tryd.func8 rfl 79 rfl (by decide) ?_;simp only [qK,frOf]
 repeat' (first|refine T.zk fun K hK=>?_|apply T.block|apply T.skip|apply T.exit|refine T.zf rfl ?_|refine T.ze rfl ?_|refine T.cond rfl (fun hc=>?_) (fun hc=>?_)|apply T.ret|simp only [za,z8,reduceIte,Nat.reduceEqDiff]|((repeat ((fail_if_success apply hK);clear hK K));apply hK;clear hK K))
 (refine T.reg (by kernel_rfl) fun K' hK'=>?_;simp only [bz];(with_reducible repeat' (first|(apply WL.fin;apply hK';clear hK' K')|(refine WL.step fun K2 hK2=>?_;simp only [Nat.reduceEqDiff,Nat.reduceLT,Nat.reduceLeDiff,Nat.reduceAdd,reduceIte,reduceCtorEq,implies_true,Int.reduceEq,Int.reduceNe,Int.reduceLT,Int.reduceLE,Int.reduceSub,Int.reduceAdd,Nat.reduceMul,Nat.reduceMod,amz,zb,tys,m1,m2,m3,m5,m6];repeat' (first|(apply hK2;clear hK2 K2)|apply And.intro|intro hb))));all_goals ((try simp only [za,z8,reduceIte,Nat.reduceEqDiff]);(try ((repeat ((fail_if_success apply hK);clear hK K));apply hK;clear hK K))))
 repeat' (first|refine T.zk fun K hK=>?_|apply T.block|apply T.skip|apply T.exit|refine T.zf rfl ?_|refine T.ze rfl ?_|refine T.cond rfl (fun hc=>?_) (fun hc=>?_)|apply T.ret|simp only [za,z8,reduceIte,Nat.reduceEqDiff]|((repeat ((fail_if_success apply hK);clear hK K));apply hK;clear hK K))
 (refine T.reg (by kernel_rfl) fun K' hK'=>?_;simp only [bz];(with_reducible repeat' (first|(apply WL.fin;apply hK';clear hK' K')|(refine WL.step fun K2 hK2=>?_;simp only [Nat.reduceEqDiff,Nat.reduceLT,Nat.reduceLeDiff,Nat.reduceAdd,reduceIte,reduceCtorEq,implies_true,Int.reduceEq,Int.reduceNe,Int.reduceLT,Int.reduceLE,Int.reduceSub,Int.reduceAdd,Nat.reduceMul,Nat.reduceMod,amz,zb,tys,m1,m2,m3,m5,m6];repeat' (first|(apply hK2;clear hK2 K2)|apply And.intro|intro hb))));all_goals ((try simp only [za,z8,reduceIte,Nat.reduceEqDiff]);(try ((repeat ((fail_if_success apply hK);clear hK K));apply hK;clear hK K))))
 repeat' (first|refine T.zk fun K hK=>?_|apply T.block|apply T.skip|apply T.exit|refine T.zf rfl ?_|refine T.ze rfl ?_|refine T.cond rfl (fun hc=>?_) (fun hc=>?_)|apply T.ret|simp only [za,z8,reduceIte,Nat.reduceEqDiff]|((repeat ((fail_if_success apply hK);clear hK K));apply hK;clear hK K))
 (refine T.reg (by kernel_rfl) fun K' hK'=>?_;simp only [bz];(repeat' (first|(with_reducible refine WL.fin ?_;apply hK';clear hK' K')|((with_reducible refine WL.step fun K2 hK2=>?_);simp only [Nat.reduceEqDiff,Nat.reduceLT,Nat.reduceLeDiff,Nat.reduceAdd,reduceIte,reduceCtorEq,implies_true,Int.reduceEq,Int.reduceNe,Int.reduceLT,Int.reduceLE,Int.reduceSub,Int.reduceAdd,Nat.reduceMul,Nat.reduceMod,amz,zb,tys,m1,m2,m3,m5,m6];(repeat' (first|with_reducible (first|(apply hK2;clear hK2 K2)|apply And.intro|intro hb)|((with_reducible first|apply zh|apply zl);case h=>exact CallV.plain (Ent.of Tryd.func10 (by kernel_rfl) rfl) (hM) (by simp [AV.okB])))))));all_goals ((try simp only [za,z8,reduceIte,Nat.reduceEqDiff]);(try ((repeat ((fail_if_success apply hK);clear hK K));apply hK;clear hK K))))
 repeat' (first|refine T.zk fun K hK=>?_|apply T.block|apply T.skip|apply T.exit|refine T.zf rfl ?_|refine T.ze rfl ?_|refine T.cond rfl (fun hc=>?_) (fun hc=>?_)|apply T.ret|simp only [za,z8,reduceIte,Nat.reduceEqDiff]|((repeat ((fail_if_success apply hK);clear hK K));apply hK;clear hK K))
 refine T.inv (stAw ([(0,.p (.val (.bool false))),(2,.p (.seq 7 [qJ rAw])),(3,.int 0)]) hpG) (by kernel_rfl) (by kernel_rfl) ?_ (fun b hcl=>?_) fun K' hK'=>?_
 ·simp only [stAw,cond_false,List.nil_append];refine zi.of' rfl ?_;simp only [wks,reduceIte,Nat.reduceEqDiff,ASt.okB,AV.okB,AO.zH,AO.z0R,AO.z0d,AV.zN,List.all_cons,List.all_nil,Nat.reduceLT,implies_true,List.nil_append,List.cons_append,cond_true,cond_false,and_self,zM,zQ,Bool.cond_self,Bool.and_self,AV.zF,AV.zW,AV.zD,AV.zq,AV.zZ,AV.zC,List.map_cons,List.map_nil,lkc,reduceCtorEq,hpG,zo,renC]
 ·simp only [allL,Nat.reduceAdd]
  refine ⟨fun hb hd=>?_,fun hb hd=>?_,fun hb hd=>?_,fun hb hd=>?_,fun hb hd=>?_,fun hb hd=>?_,fun hb hd=>?_,fun hb hd=>?_,trivial⟩
  ·have n1:b 1=false:=by
    cases h:b 1 with
    | false=>rfl
    | true=>have h4:=zg (hcl 1 (by decide) h) (j := 0) (by decide) (by kernel_rfl);rw [hb] at h4;cases h4
   have n4:b 4=false:=by
    cases h:b 4 with
    | false=>rfl
    | true=>have h4:=zg (hcl 4 (by decide) h) (j := 1) (by decide) (by kernel_rfl);rw [n1] at h4;cases h4
   have n5:b 5=false:=by
    cases h:b 5 with
    | false=>rfl
    | true=>have h4:=zg (hcl 5 (by decide) h) (j := 4) (by decide) (by kernel_rfl);rw [n4] at h4;cases h4
   have n7:b 7=false:=by
    cases h:b 7 with
    | false=>rfl
    | true=>have h4:=zg (hcl 7 (by decide) h) (j := 5) (by decide) (by kernel_rfl);rw [n5] at h4;cases h4
   refine ⟨by trivial,by simp [zx,stAw],?_⟩
   cases h2:b 2 <;> cases h6:b 6 <;> (simp only [Nat.reduceEqDiff,Nat.reduceLT,Nat.reduceLeDiff,Nat.reduceAdd,reduceIte,reduceCtorEq,implies_true,Int.reduceEq,Int.reduceNe,Int.reduceLT,Int.reduceLE,Int.reduceSub,Int.reduceAdd,Nat.reduceMul,Nat.reduceMod,amz,zb,tys,r5,r3,m1,m2,m3,m5,z0W,lkc,zS,Nat.reduceBEq,Bool.false_or,Bool.true_or,cond_true,cond_false,List.nil_append,List.cons_append,stAw,n1,n4,n5,n7,h2,h6,hb];refine ⟨⟨by unfold maxLen;decide,by decide⟩,?_⟩;refine (zi.ren _ 1000006 1000002).trans ?_;simp only [ASt.ren,AV.zZ,AV.zF,AV.qd,AV.qz,AV.zW,AV.zD,AV.zq,AV.qc,AV.qR,AV.zC,AV.qj,AO.qD,AO.qG,AO.qE,AO.qF,List.map_cons,List.map_nil,List.filter_cons,List.filter_nil,zm,qy,reduceIte,Nat.reduceEqDiff,Nat.reduceLT,Nat.reduceBneDiff,bne_self_eq_false,Bool.and_true,Bool.and_false,Bool.true_and,Bool.false_and,Bool.and_self,Bool.false_eq_true,ne_eq,not_false_eq_true,not_true_eq_false,and_self,and_true,true_and,and_false,lkc,AO.z3R,zM,hpG];refine zi.of' rfl ?_;simp only [wks,reduceIte,Nat.reduceEqDiff,ASt.okB,AV.okB,AO.zH,AO.z0R,AO.z0d,AV.zN,List.all_cons,List.all_nil,Nat.reduceLT,implies_true,List.nil_append,List.cons_append,cond_true,cond_false,and_self,zM,zQ,Bool.cond_self,Bool.and_self,AV.zF,AV.zW,AV.zD,AV.zq,AV.zZ,AV.zC,List.map_cons,List.map_nil,lkc,reduceCtorEq,hpG,zo,renC])
  ·have d0:=zg hd (j := 0) (by decide) (by kernel_rfl)
   have n4:b 4=false:=by
    cases h:b 4 with
    | false=>rfl
    | true=>have h4:=zg (hcl 4 (by decide) h) (j := 1) (by decide) (by kernel_rfl);rw [hb] at h4;cases h4
   have n5:b 5=false:=by
    cases h:b 5 with
    | false=>rfl
    | true=>have h4:=zg (hcl 5 (by decide) h) (j := 4) (by decide) (by kernel_rfl);rw [n4] at h4;cases h4
   have n7:b 7=false:=by
    cases h:b 7 with
    | false=>rfl
    | true=>have h4:=zg (hcl 7 (by decide) h) (j := 5) (by decide) (by kernel_rfl);rw [n5] at h4;cases h4
   refine ⟨by trivial,by simp [zx,stAw],?_⟩
   simp only [Nat.reduceEqDiff,Nat.reduceLT,Nat.reduceLeDiff,Nat.reduceAdd,reduceIte,reduceCtorEq,implies_true,Int.reduceEq,Int.reduceNe,Int.reduceLT,Int.reduceLE,Int.reduceSub,Int.reduceAdd,Nat.reduceMul,Nat.reduceMod,amz,zb,tys,r5,r3,m1,m2,m3,m5,z0W,lkc,zS,Nat.reduceBEq,Bool.false_or,Bool.true_or,cond_true,cond_false,List.nil_append,List.cons_append,stAw,d0,n4,n5,n7,hb]
   all_goals (refine zi.slots ?_;simp only [wks,reduceIte,Nat.reduceEqDiff,implies_true,cond_true,and_self,d0,n4,n5,n7])
  ·have n3:b 3=false:=by
    cases h:b 3 with
    | false=>rfl
    | true=>have h4:=zg (hcl 3 (by decide) h) (j := 2) (by decide) (by kernel_rfl);rw [hb] at h4;cases h4
   have n4:b 4=false:=by
    cases h:b 4 with
    | false=>rfl
    | true=>have h4:=zg (hcl 4 (by decide) h) (j := 3) (by decide) (by kernel_rfl);rw [n3] at h4;cases h4
   have n5:b 5=false:=by
    cases h:b 5 with
    | false=>rfl
    | true=>have h4:=zg (hcl 5 (by decide) h) (j := 4) (by decide) (by kernel_rfl);rw [n4] at h4;cases h4
   have n7:b 7=false:=by
    cases h:b 7 with
    | false=>rfl
    | true=>have h4:=zg (hcl 7 (by decide) h) (j := 5) (by decide) (by kernel_rfl);rw [n5] at h4;cases h4
   refine ⟨by trivial,by simp [zx,stAw],?_⟩
   cases h0:b 0 <;> cases h6:b 6 <;> (simp only [Nat.reduceEqDiff,Nat.reduceLT,Nat.reduceLeDiff,Nat.reduceAdd,reduceIte,reduceCtorEq,implies_true,Int.reduceEq,Int.reduceNe,Int.reduceLT,Int.reduceLE,Int.reduceSub,Int.reduceAdd,Nat.reduceMul,Nat.reduceMod,amz,zb,tys,r5,r3,m1,m2,m3,m5,z0W,lkc,zS,Nat.reduceBEq,Bool.false_or,Bool.true_or,cond_true,cond_false,List.nil_append,List.cons_append,stAw,n3,n4,n5,n7,h0,h6,hb];refine ⟨⟨by unfold maxLen;decide,by decide⟩,?_⟩;refine (zi.ren _ 1000006 1000003).trans ?_;simp only [ASt.ren,AV.zZ,AV.zF,AV.qd,AV.qz,AV.zW,AV.zD,AV.zq,AV.qc,AV.qR,AV.zC,AV.qj,AO.qD,AO.qG,AO.qE,AO.qF,List.map_cons,List.map_nil,List.filter_cons,List.filter_nil,zm,qy,reduceIte,Nat.reduceEqDiff,Nat.reduceLT,Nat.reduceBneDiff,bne_self_eq_false,Bool.and_true,Bool.and_false,Bool.true_and,Bool.false_and,Bool.and_self,Bool.false_eq_true,ne_eq,not_false_eq_true,not_true_eq_false,and_self,and_true,true_and,and_false,lkc,AO.z3R,zM,hpG];refine zi.of' rfl ?_;simp only [wks,reduceIte,Nat.reduceEqDiff,ASt.okB,AV.okB,AO.zH,AO.z0R,AO.z0d,AV.zN,List.all_cons,List.all_nil,Nat.reduceLT,implies_true,List.nil_append,List.cons_append,cond_true,cond_false,and_self,zM,zQ,Bool.cond_self,Bool.and_self,AV.zF,AV.zW,AV.zD,AV.zq,AV.zZ,AV.zC,List.map_cons,List.map_nil,lkc,reduceCtorEq,hpG,zo,renC])
  ·have d2:=zg hd (j := 2) (by decide) (by kernel_rfl)
   have n4:b 4=false:=by
    cases h:b 4 with
    | false=>rfl
    | true=>have h4:=zg (hcl 4 (by decide) h) (j := 3) (by decide) (by kernel_rfl);rw [hb] at h4;cases h4
   have n5:b 5=false:=by
    cases h:b 5 with
    | false=>rfl
    | true=>have h4:=zg (hcl 5 (by decide) h) (j := 4) (by decide) (by kernel_rfl);rw [n4] at h4;cases h4
   have n7:b 7=false:=by
    cases h:b 7 with
    | false=>rfl
    | true=>have h4:=zg (hcl 7 (by decide) h) (j := 5) (by decide) (by kernel_rfl);rw [n5] at h4;cases h4
   refine ⟨by trivial,by simp [zx,stAw],?_⟩
   simp only [Nat.reduceEqDiff,Nat.reduceLT,Nat.reduceLeDiff,Nat.reduceAdd,reduceIte,reduceCtorEq,implies_true,Int.reduceEq,Int.reduceNe,Int.reduceLT,Int.reduceLE,Int.reduceSub,Int.reduceAdd,Nat.reduceMul,Nat.reduceMod,amz,zb,tys,r5,r3,m1,m2,m3,m5,z0W,lkc,zS,Nat.reduceBEq,Bool.false_or,Bool.true_or,cond_true,cond_false,List.nil_append,List.cons_append,stAw,d2,n4,n5,n7,hb]
   all_goals (refine zi.slots ?_;simp only [wks,reduceIte,Nat.reduceEqDiff,implies_true,cond_true,and_self,d2,n4,n5,n7])
  ·have d1:=zg hd (j := 1) (by decide) (by kernel_rfl)
   have d3:=zg hd (j := 3) (by decide) (by kernel_rfl)
   have d2:=zg (hcl 3 (by decide) d3) (j := 2) (by decide) (by kernel_rfl)
   have d0:=zg (hcl 1 (by decide) d1) (j := 0) (by decide) (by kernel_rfl)
   have n5:b 5=false:=by
    cases h:b 5 with
    | false=>rfl
    | true=>have h4:=zg (hcl 5 (by decide) h) (j := 4) (by decide) (by kernel_rfl);rw [hb] at h4;cases h4
   have n7:b 7=false:=by
    cases h:b 7 with
    | false=>rfl
    | true=>have h4:=zg (hcl 7 (by decide) h) (j := 5) (by decide) (by kernel_rfl);rw [n5] at h4;cases h4
   refine ⟨by trivial,by simp [zx,stAw],?_⟩
   cases h6:b 6 <;> (simp only [Nat.reduceEqDiff,Nat.reduceLT,Nat.reduceLeDiff,Nat.reduceAdd,reduceIte,reduceCtorEq,implies_true,Int.reduceEq,Int.reduceNe,Int.reduceLT,Int.reduceLE,Int.reduceSub,Int.reduceAdd,Nat.reduceMul,Nat.reduceMod,amz,zb,tys,r5,r3,m1,m2,m3,m5,z0W,lkc,zS,Nat.reduceBEq,Bool.false_or,Bool.true_or,cond_true,cond_false,List.nil_append,List.cons_append,stAw,d0,d1,d2,d3,n5,n7,h6,hb];refine (zi.ren _ 1000006 1000004).trans ?_;simp only [ASt.ren,AV.zZ,AV.zF,AV.qd,AV.qz,AV.zW,AV.zD,AV.zq,AV.qc,AV.qR,AV.zC,AV.qj,AO.qD,AO.qG,AO.qE,AO.qF,List.map_cons,List.map_nil,List.filter_cons,List.filter_nil,zm,qy,reduceIte,Nat.reduceEqDiff,Nat.reduceLT,Nat.reduceBneDiff,bne_self_eq_false,Bool.and_true,Bool.and_false,Bool.true_and,Bool.false_and,Bool.and_self,Bool.false_eq_true,ne_eq,not_false_eq_true,not_true_eq_false,and_self,and_true,true_and,and_false,lkc,AO.z3R,zM,hpG];refine zi.of' rfl ?_;simp only [wks,reduceIte,Nat.reduceEqDiff,ASt.okB,AV.okB,AO.zH,AO.z0R,AO.z0d,AV.zN,List.all_cons,List.all_nil,Nat.reduceLT,implies_true,List.nil_append,List.cons_append,cond_true,cond_false,and_self,zM,zQ,Bool.cond_self,Bool.and_self,AV.zF,AV.zW,AV.zD,AV.zq,AV.zZ,AV.zC,List.map_cons,List.map_nil,lkc,reduceCtorEq,hpG,zo,renC])
  ·have d4:=zg hd (j := 4) (by decide) (by kernel_rfl)
   have d1:=zg (hcl 4 (by decide) d4) (j := 1) (by decide) (by kernel_rfl)
   have d3:=zg (hcl 4 (by decide) d4) (j := 3) (by decide) (by kernel_rfl)
   have d2:=zg (hcl 3 (by decide) d3) (j := 2) (by decide) (by kernel_rfl)
   have d0:=zg (hcl 1 (by decide) d1) (j := 0) (by decide) (by kernel_rfl)
   have n7:b 7=false:=by
    cases h:b 7 with
    | false=>rfl
    | true=>have h4:=zg (hcl 7 (by decide) h) (j := 5) (by decide) (by kernel_rfl);rw [hb] at h4;cases h4
   refine ⟨by trivial,by simp [zx,stAw],?_⟩
   simp only [Nat.reduceEqDiff,Nat.reduceLT,Nat.reduceLeDiff,Nat.reduceAdd,reduceIte,reduceCtorEq,implies_true,Int.reduceEq,Int.reduceNe,Int.reduceLT,Int.reduceLE,Int.reduceSub,Int.reduceAdd,Nat.reduceMul,Nat.reduceMod,amz,zb,tys,r5,r3,m1,m2,m3,m5,z0W,lkc,zS,Nat.reduceBEq,Bool.false_or,Bool.true_or,cond_true,cond_false,List.nil_append,List.cons_append,stAw,d0,d1,d2,d3,d4,n7,hb]
   all_goals (refine zi.slots ?_;simp only [wks,reduceIte,Nat.reduceEqDiff,implies_true,cond_true,and_self,d0,d1,d2,d3,d4,n7])
  ·have n7:b 7=false:=by
    cases h:b 7 with
    | false=>rfl
    | true=>have h4:=zg (hcl 7 (by decide) h) (j := 6) (by decide) (by kernel_rfl);rw [hb] at h4;cases h4
   refine ⟨by trivial,by simp [zx,stAw],?_⟩
   cases h0:b 0 <;> cases h2:b 2 <;> cases h4:b 4 <;> (simp only [Nat.reduceEqDiff,Nat.reduceLT,Nat.reduceLeDiff,Nat.reduceAdd,reduceIte,reduceCtorEq,implies_true,Int.reduceEq,Int.reduceNe,Int.reduceLT,Int.reduceLE,Int.reduceSub,Int.reduceAdd,Nat.reduceMul,Nat.reduceMod,amz,zb,tys,r5,r3,m1,m2,m3,m5,z0W,lkc,zS,Nat.reduceBEq,Bool.false_or,Bool.true_or,cond_true,cond_false,List.nil_append,List.cons_append,stAw,n7,h0,h2,h4,hb];refine (zi.ren _ 1000006 1000005).trans ?_;simp only [ASt.ren,AV.zZ,AV.zF,AV.qd,AV.qz,AV.zW,AV.zD,AV.zq,AV.qc,AV.qR,AV.zC,AV.qj,AO.qD,AO.qG,AO.qE,AO.qF,List.map_cons,List.map_nil,List.filter_cons,List.filter_nil,zm,qy,reduceIte,Nat.reduceEqDiff,Nat.reduceLT,Nat.reduceBneDiff,bne_self_eq_false,Bool.and_true,Bool.and_false,Bool.true_and,Bool.false_and,Bool.and_self,Bool.false_eq_true,ne_eq,not_false_eq_true,not_true_eq_false,and_self,and_true,true_and,and_false,lkc,AO.z3R,zM,hpG];refine zi.of' rfl ?_;simp only [wks,reduceIte,Nat.reduceEqDiff,ASt.okB,AV.okB,AO.zH,AO.z0R,AO.z0d,AV.zN,List.all_cons,List.all_nil,Nat.reduceLT,implies_true,List.nil_append,List.cons_append,cond_true,cond_false,and_self,zM,zQ,Bool.cond_self,Bool.and_self,AV.zF,AV.zW,AV.zD,AV.zq,AV.zZ,AV.zC,List.map_cons,List.map_nil,lkc,reduceCtorEq,hpG,zo,renC])
  ·have d5:=zg hd (j := 5) (by decide) (by kernel_rfl)
   have d6:=zg hd (j := 6) (by decide) (by kernel_rfl)
   have d4:=zg (hcl 5 (by decide) d5) (j := 4) (by decide) (by kernel_rfl)
   have d1:=zg (hcl 4 (by decide) d4) (j := 1) (by decide) (by kernel_rfl)
   have d3:=zg (hcl 4 (by decide) d4) (j := 3) (by decide) (by kernel_rfl)
   have d2:=zg (hcl 3 (by decide) d3) (j := 2) (by decide) (by kernel_rfl)
   have d0:=zg (hcl 1 (by decide) d1) (j := 0) (by decide) (by kernel_rfl)
   refine ⟨by trivial,by simp [zx,stAw],?_⟩
   (simp only [Nat.reduceEqDiff,Nat.reduceLT,Nat.reduceLeDiff,Nat.reduceAdd,reduceIte,reduceCtorEq,implies_true,Int.reduceEq,Int.reduceNe,Int.reduceLT,Int.reduceLE,Int.reduceSub,Int.reduceAdd,Nat.reduceMul,Nat.reduceMod,amz,zb,tys,r5,r3,m1,m2,m3,m5,z0W,lkc,zS,Nat.reduceBEq,Bool.false_or,Bool.true_or,cond_true,cond_false,List.nil_append,List.cons_append,stAw,d0,d1,d2,d3,d4,d5,d6,hb];refine zi.of' rfl ?_;simp only [wks,reduceIte,Nat.reduceEqDiff,ASt.okB,AV.okB,AO.zH,AO.z0R,AO.z0d,AV.zN,List.all_cons,List.all_nil,Nat.reduceLT,implies_true,List.nil_append,List.cons_append,cond_true,cond_false,and_self,zM,zQ,Bool.cond_self,Bool.and_self,AV.zF,AV.zW,AV.zD,AV.zq,AV.zZ,AV.zC,List.map_cons,List.map_nil,lkc,reduceCtorEq,hpG,zo,renC])
 apply hK';clear hK' K';simp only [stAw,List.length_cons,List.length_nil,Nat.reduceAdd,Nat.reduceLT,decide_true,cond_true,List.cons_append,List.nil_append,hpG];(try simp only [za,z8,reduceIte,Nat.reduceEqDiff]);(try ((repeat ((fail_if_success apply hK);clear hK K));apply hK;clear hK K))
 repeat' (first|refine T.zk fun K hK=>?_|apply T.block|apply T.skip|apply T.exit|refine T.zf rfl ?_|refine T.ze rfl ?_|refine T.cond rfl (fun hc=>?_) (fun hc=>?_)|apply T.ret|simp only [za,z8,reduceIte,Nat.reduceEqDiff]|((repeat ((fail_if_success apply hK);clear hK K));apply hK;clear hK K))
 (refine T.reg (by kernel_rfl) fun K' hK'=>?_;simp only [bz];(with_reducible repeat' (first|(apply WL.fin;apply hK';clear hK' K')|(refine WL.step fun K2 hK2=>?_;simp only [Nat.reduceEqDiff,Nat.reduceLT,Nat.reduceLeDiff,Nat.reduceAdd,reduceIte,reduceCtorEq,implies_true,Int.reduceEq,Int.reduceNe,Int.reduceLT,Int.reduceLE,Int.reduceSub,Int.reduceAdd,Nat.reduceMul,Nat.reduceMod,amz,zb,tys,m1,m2,m3,m5,m6,n4,n2,n1];repeat' (first|(apply hK2;clear hK2 K2)|apply And.intro|intro hb))));all_goals ((try simp only [za,z8,reduceIte,Nat.reduceEqDiff]);(try ((repeat ((fail_if_success apply hK);clear hK K));apply hK;clear hK K))))
 repeat' (first|refine T.zk fun K hK=>?_|apply T.block|apply T.skip|apply T.exit|refine T.zf rfl ?_|refine T.ze rfl ?_|refine T.cond rfl (fun hc=>?_) (fun hc=>?_)|apply T.ret|simp only [za,z8,reduceIte,Nat.reduceEqDiff]|((repeat ((fail_if_success apply hK);clear hK K));apply hK;clear hK K))
 (refine T.reg (by kernel_rfl) fun K' hK'=>?_;simp only [bz];(with_reducible repeat' (first|(apply WL.fin;apply hK';clear hK' K')|(refine WL.step fun K2 hK2=>?_;simp only [Nat.reduceEqDiff,Nat.reduceLT,Nat.reduceLeDiff,Nat.reduceAdd,reduceIte,reduceCtorEq,implies_true,Int.reduceEq,Int.reduceNe,Int.reduceLT,Int.reduceLE,Int.reduceSub,Int.reduceAdd,Nat.reduceMul,Nat.reduceMod,amz,zb,tys,m1,m2,m3,m5,m6,n4,n2,n1];repeat' (first|(apply hK2;clear hK2 K2)|apply And.intro|intro hb))));all_goals ((try simp only [za,z8,reduceIte,Nat.reduceEqDiff]);(try ((repeat ((fail_if_success apply hK);clear hK K));apply hK;clear hK K))))
 refine T.weak (zi.frz _ 1000002) ?_;simp only [ASt.frz,List.filter_cons,List.filter_nil,bne_self_eq_false,Nat.reduceBneDiff,Bool.false_eq_true,Nat.reduceEqDiff,Nat.reduceLT,Nat.reduceLeDiff,Nat.reduceAdd,reduceIte,reduceCtorEq,implies_true,Int.reduceEq,Int.reduceNe,Int.reduceLT,Int.reduceLE,Int.reduceSub,Int.reduceAdd,Nat.reduceMul,Nat.reduceMod,amz,zb,tys,subC,List.set_cons_succ,List.set_cons_zero,n4,n2]
 refine T.weak (zi.frz _ 1000003) ?_;simp only [ASt.frz,List.filter_cons,List.filter_nil,bne_self_eq_false,Nat.reduceBneDiff,Bool.false_eq_true,Nat.reduceEqDiff,Nat.reduceLT,Nat.reduceLeDiff,Nat.reduceAdd,reduceIte,reduceCtorEq,implies_true,Int.reduceEq,Int.reduceNe,Int.reduceLT,Int.reduceLE,Int.reduceSub,Int.reduceAdd,Nat.reduceMul,Nat.reduceMod,amz,zb,tys,subC,List.set_cons_succ,List.set_cons_zero,n4,n2]
 refine T.weak (zi.ofF _ 1000004 59 4 (fsAw.map fuC) (fun r hr=>by obtain ⟨f,_,rfl⟩:=List.mem_map.1 hr;rfl) rfl) ?_
 simp only [zU,Nat.reduceEqDiff,reduceIte,fsAw,fuC,inC5,z5,List.map_cons,List.map_nil]
 refine T.weak (zi.frz _ 1000004) ?_;simp only [ASt.frz,List.filter_cons,List.filter_nil,bne_self_eq_false,Nat.reduceBneDiff,Bool.false_eq_true,Nat.reduceEqDiff,Nat.reduceLT,Nat.reduceLeDiff,Nat.reduceAdd,reduceIte,reduceCtorEq,implies_true,Int.reduceEq,Int.reduceNe,Int.reduceLT,Int.reduceLE,Int.reduceSub,Int.reduceAdd,Nat.reduceMul,Nat.reduceMod,amz,zb,tys,subC]
 repeat' (first|refine T.zk fun K hK=>?_|apply T.block|apply T.skip|apply T.exit|refine T.zf rfl ?_|refine T.ze rfl ?_|refine T.cond rfl (fun hc=>?_) (fun hc=>?_)|apply T.ret|simp only [za,z8,reduceIte,Nat.reduceEqDiff]|((repeat ((fail_if_success apply hK);clear hK K));apply hK;clear hK K))
 (refine T.reg (by kernel_rfl) fun K' hK'=>?_;simp only [bz];(with_reducible repeat' (first|(apply WL.fin;apply hK';clear hK' K')|(refine WL.step fun K2 hK2=>?_;simp only [Nat.reduceEqDiff,Nat.reduceLT,Nat.reduceLeDiff,Nat.reduceAdd,reduceIte,reduceCtorEq,implies_true,Int.reduceEq,Int.reduceNe,Int.reduceLT,Int.reduceLE,Int.reduceSub,Int.reduceAdd,Nat.reduceMul,Nat.reduceMod,amz,zb,tys,m1,m2,m3,m5,m6,n4,n2,n1];repeat' (first|(apply hK2;clear hK2 K2)|apply And.intro|intro hb))));all_goals ((try simp only [za,z8,reduceIte,Nat.reduceEqDiff]);(try ((repeat ((fail_if_success apply hK);clear hK K));apply hK;clear hK K))))
 repeat' (first|refine T.zk fun K hK=>?_|apply T.block|apply T.skip|apply T.exit|refine T.zf rfl ?_|refine T.ze rfl ?_|refine T.cond rfl (fun hc=>?_) (fun hc=>?_)|apply T.ret|simp only [za,z8,reduceIte,Nat.reduceEqDiff]|((repeat ((fail_if_success apply hK);clear hK K));apply hK;clear hK K))
 (refine T.reg (by kernel_rfl) fun K' hK'=>?_;simp only [bz];(with_reducible repeat' (first|(apply WL.fin;apply hK';clear hK' K')|(refine WL.step fun K2 hK2=>?_;simp only [Nat.reduceEqDiff,Nat.reduceLT,Nat.reduceLeDiff,Nat.reduceAdd,reduceIte,reduceCtorEq,implies_true,Int.reduceEq,Int.reduceNe,Int.reduceLT,Int.reduceLE,Int.reduceSub,Int.reduceAdd,Nat.reduceMul,Nat.reduceMod,amz,zb,tys,e0,e1,Bool.false_eq_true,qJ,rAw,rowP];repeat' (first|(apply hK2;clear hK2 K2)|apply And.intro|intro hb))));all_goals ((try simp only [za,z8,reduceIte,Nat.reduceEqDiff]);(try ((repeat ((fail_if_success apply hK);clear hK K));apply hK;clear hK K))))
 repeat' (first|refine T.zk fun K hK=>?_|apply T.block|apply T.skip|apply T.exit|refine T.zf rfl ?_|refine T.ze rfl ?_|refine T.cond rfl (fun hc=>?_) (fun hc=>?_)|apply T.ret|simp only [za,z8,reduceIte,Nat.reduceEqDiff]|((repeat ((fail_if_success apply hK);clear hK K));apply hK;clear hK K))
 refine T.drw 29 (by kernel_rfl) (by kernel_rfl) fun K' hK'=>?_;simp only [List.map_cons,List.map_nil];(repeat' (first|(with_reducible refine WL.fin ?_;apply hK';clear hK' K')|(with_reducible refine WD.fin ?_)|((with_reducible first|refine WL.step fun K2 hK2=>?_|refine WD.step fun K2 hK2=>?_);simp only [Nat.reduceEqDiff,Nat.reduceLT,Nat.reduceLeDiff,Nat.reduceAdd,reduceIte,reduceCtorEq,implies_true,Int.reduceEq,Int.reduceNe,Int.reduceLT,Int.reduceLE,Int.reduceSub,Int.reduceAdd,Nat.reduceMul,Nat.reduceMod,amz,zb,tys,qJ,rAw,rowP,beq_self_eq_true,Bool.true_eq_false];(repeat' (first|with_reducible (first|(apply hK2;clear hK2 K2)|apply And.intro|intro hb)|((with_reducible first|apply zh|apply zl);case h=>exact CallV.read 1000001 hpG _ rfl (Ent.of Tryd.func15 (by kernel_rfl) rfl) (hT) (z0t (by decide) (fun t o ho=>by obtain ⟨rfl,rfl⟩:=qo ho;simp [zm])) (by simp [AV.okB]) rfl))))));all_goals ((try simp only [za,z8,reduceIte,Nat.reduceEqDiff]);(try ((repeat ((fail_if_success apply hK);clear hK K));apply hK;clear hK K)))
 repeat' (first|refine T.zk fun K hK=>?_|apply T.block|apply T.skip|apply T.exit|refine T.zf rfl ?_|refine T.ze rfl ?_|refine T.cond rfl (fun hc=>?_) (fun hc=>?_)|apply T.ret|simp only [za,z8,reduceIte,Nat.reduceEqDiff]|((repeat ((fail_if_success apply hK);clear hK K));apply hK;clear hK K))
 all_goals (refine FinM.ret (s':=⟨[(0,.p (.val (.bool true)))],hpG,79,1000001⟩) (r := .p (.val (.bool true))) (.inr rfl) Tryd.results8 (by refine zi.of' rfl ?_;simp only [wks,reduceIte,Nat.reduceEqDiff,ASt.okB,AV.okB,Nat.reduceLT,implies_true,hpG,zo]) rfl ?_ ?_;(focus (simp only [zR,zA,zB,Nat.reduceEqDiff,Nat.reduceLT,Nat.reduceLeDiff,Nat.reduceAdd,reduceIte,reduceCtorEq,implies_true,Int.reduceEq,Int.reduceNe,Int.reduceLT,Int.reduceLE,Int.reduceSub,Int.reduceAdd,Nat.reduceMul,Nat.reduceMod,amz,zb,tys,];done)))
 all_goals exact ⟨rfl,rfl⟩
theorem z1r:z3Z Tryd.prog 8 1000001 hpG [] (.bool true):=MemC.read awake_mem z0I
end Go.Proofs.YtbkkginjfnjffaaDoor
namespace Go.Proofs.YtbkkginjfnjffaaDoor
open Go.RowKit Go.Sort
theorem insK_step (k x:List Int) (d:Bool) (r:List (List Int)):insK k d (x :: r)=if (!d&&lexB k x)=true then k :: x :: insK k true r else x :: insK k (d||x==k) r:=rfl
theorem mergeR_ok (l:List Ev) (ss:List P2) (ps:List Int) (hsz:ss.length≤1000000) (rs:List P2) (hrs:rs.length≤1000):zy Tryd.prog 11 [trA l ss ps,raA rs] (merA l ss ps rs):=by
 have hvd:=z6O ss ps hsz
 have hrl:=qO rs
 have hm1:(1≤maxLen)=True:=eq_true (by unfold maxLen;omega)
 have hac:=fun r=>accR_ok l ss ps r
 have hor:=ofR_ok l ss ps
 have hre:=z8H l ss ps hsz
 simp only [trA,dpA,p2A] at hvd hac hor hre
 simp only [trA,dpA,p2A,raA,merA]
 cases hv:validD ss ps with
 | false =>
  have ho:okM l ss ps rs=false:=by simp [okM,hv]
  have hx:outM l ss ps rs = []:=by simp [outM,ho]
  have hy:errM l ss ps rs=1:=by simp [errM,ho]
  rw [hv] at hvd
  rw [hx,hy]
  simp only [List.map_nil]
  refine zy.of Tryd.func11 rfl 137 rfl (by decide) (by simp [AV.okB]) ?_
  repeat' (first|refine T.zk fun K hK=>?_|apply T.block|(refine T.reg (by kernel_rfl) fun K' hK'=>?_;simp only [bz];(repeat' (first|(with_reducible refine WL.fin ?_;apply hK';clear hK' K')|((with_reducible refine WL.step fun K2 hK2=>?_);simp only [simprocAttr,implies_true,amz,zb,tys];(repeat' (first|with_reducible (first|(apply hK2;clear hK2 K2)|apply And.intro|intro hb)|((with_reducible first|apply zh|apply zl);case h=>exact CallV.plain (Ent.of Tryd.func26 (by kernel_rfl) rfl) (hvd) (by simp [AV.okB]))))))))|apply T.skip|apply T.exit|refine T.zf rfl ?_|refine T.ze rfl ?_|refine T.cond rfl (fun hc=>?_) (fun hc=>?_)|apply T.ret|simp only [za,z8,reduceIte,Nat.reduceEqDiff]|((repeat ((fail_if_success apply hK);clear hK K));apply hK;clear hK K))
  refine qf.retW (.inr rfl) Tryd.results11 (s':=⟨[(4,.p (.seq 7 [])),(5,.int 1)],[],137,0⟩) (by refine zi.of' rfl ?_;simp only [wks,reduceIte,Nat.reduceEqDiff,ASt.okB,AV.okB,Nat.reduceLT,implies_true,]) ?_
  simp only [zR,zA,zB,simprocAttr,implies_true,amz,zb,tys]
 | true =>
 rw [hv] at hvd
 refine zy.of Tryd.func11 rfl 137 rfl (by decide) (by simp [AV.okB]) ?_
 repeat' (first|refine T.zk fun K hK=>?_|apply T.block|(refine T.reg (by kernel_rfl) fun K' hK'=>?_;simp only [bz];(repeat' (first|(with_reducible refine WL.fin ?_;apply hK';clear hK' K')|((with_reducible refine WL.step fun K2 hK2=>?_);simp only [simprocAttr,implies_true,amz,zb,tys];(repeat' (first|with_reducible (first|(apply hK2;clear hK2 K2)|apply And.intro|intro hb)|((with_reducible first|apply zh|apply zl);case h=>exact CallV.plain (Ent.of Tryd.func26 (by kernel_rfl) rfl) (hvd) (by simp [AV.okB]))))))))|apply T.skip|apply T.exit|refine T.zf rfl ?_|refine T.ze rfl ?_|refine T.cond rfl (fun hc=>?_) (fun hc=>?_)|apply T.ret|simp only [za,z8,reduceIte,Nat.reduceEqDiff]|((repeat ((fail_if_success apply hK);clear hK K));apply hK;clear hK K))
 refine T.z0o (fun i:Nat=>⟨[(1,.p (.seq 2 (rowP rs))),(2,.ptr 0 0),(6,.int i)],[(0,.boxP none 28 [.p (.seq 9 (l.map evC)),.p (.seq 2 (rowP ss)),.p (.seq 1 (rowZ ps))])],137,1⟩) (fun i=>i≤rs.length∧rs.all (accB l ss.length)=(rs.drop i).all (accB l ss.length)) (fun i=>rs.length-i) 0 ⟨Nat.zero_le _,by simp⟩ (by refine zi.of' rfl ?_;simp only [wks,reduceIte,Nat.reduceEqDiff,ASt.okB,AV.okB,Nat.reduceLT,implies_true,Int.natCast_zero]) ?_
 rintro i ⟨hi,hal⟩ KL hKL
 by_cases hlt:i<rs.length
 ·have hd:decide ((i:Int)<(rs.length:Int))=true:=by simpa using hlt
  have hi0:(0≤(i:Int))=True:=eq_true (by omega)
  obtain ⟨r,hr⟩:=z01 hlt
  have m1:=z0e hr
  have hac:=hac r
  rw [drop_at hr,List.all_cons] at hal
  cases ha:accB l ss.length r with
  | false =>
   rw [ha,Bool.false_and] at hal
   rw [ha] at hac
   have ho:okM l ss ps rs=false:=by simp only [okM,hal,Bool.and_false]
   have hx:outM l ss ps rs = []:=by simp [outM,ho]
   have hy:errM l ss ps rs=1:=by simp [errM,ho]
   repeat' (first|refine T.zk fun K hK=>?_|apply T.block|(refine T.reg (by kernel_rfl) fun K' hK'=>?_;simp only [bz];(with_reducible repeat' (first|(apply WL.fin;apply hK';clear hK' K')|(refine WL.step fun K2 hK2=>?_;simp only [simprocAttr,implies_true,amz,zb,tys,hrl,hd];repeat' (first|(apply hK2;clear hK2 K2)|apply And.intro|intro hb)))))|apply T.skip|apply T.exit|refine T.zf rfl ?_|refine T.ze rfl ?_|refine T.cond rfl (fun hc=>?_) (fun hc=>?_)|apply T.ret|simp only [za,z8,reduceIte,Nat.reduceEqDiff]|((repeat ((fail_if_success apply hK);clear hK K));apply hK;clear hK K))
   refine T.drw 6 (by kernel_rfl) (by kernel_rfl) fun K' hK'=>?_;simp only [List.map_cons,List.map_nil];(repeat' (first|(with_reducible refine WL.fin ?_;apply hK';clear hK' K')|(with_reducible refine WD.fin ?_)|((with_reducible first|refine WL.step fun K2 hK2=>?_|refine WD.step fun K2 hK2=>?_);simp only [simprocAttr,implies_true,amz,zb,tys,hi0,Int.toNat_natCast,m1];(repeat' (first|with_reducible (first|(apply hK2;clear hK2 K2)|apply And.intro|intro hb)|((with_reducible first|apply zh|apply zl);case h=>exact CallV.plain (Ent.of Tryd.func27 (by kernel_rfl) rfl) (hac) (by simp [AV.okB])))))));all_goals ((try simp only [za,z8,reduceIte,Nat.reduceEqDiff]);(try ((repeat ((fail_if_success apply hK);clear hK K));apply hK;clear hK K)))
   all_goals repeat' (first|refine T.zk fun K hK=>?_|apply T.block|(refine T.reg (by kernel_rfl) fun K' hK'=>?_;simp only [bz];(with_reducible repeat' (first|(apply WL.fin;apply hK';clear hK' K')|(refine WL.step fun K2 hK2=>?_;simp only [simprocAttr,implies_true,amz,zb,tys];repeat' (first|(apply hK2;clear hK2 K2)|apply And.intro|intro hb)))))|apply T.skip|apply T.exit|refine T.zf rfl ?_|refine T.ze rfl ?_|refine T.cond rfl (fun hc=>?_) (fun hc=>?_)|apply T.ret|simp only [za,z8,reduceIte,Nat.reduceEqDiff]|((repeat ((fail_if_success apply hK);clear hK K));apply hK;clear hK K))
   refine qf.retW (.inr rfl) Tryd.results11 (s':=⟨[(4,.p (.seq 7 [])),(5,.int 1)],[],137,0⟩) (by refine zi.of' rfl ?_;simp only [wks,reduceIte,Nat.reduceEqDiff,ASt.okB,AV.okB,Nat.reduceLT,implies_true,]) ?_
   simp only [zR,zA,zB,simprocAttr,implies_true,amz,zb,tys,hx,hy,List.map_nil]
  | true =>
   rw [ha,Bool.true_and] at hal
   rw [ha] at hac
   repeat' (first|refine T.zk fun K hK=>?_|apply T.block|(refine T.reg (by kernel_rfl) fun K' hK'=>?_;simp only [bz];(with_reducible repeat' (first|(apply WL.fin;apply hK';clear hK' K')|(refine WL.step fun K2 hK2=>?_;simp only [simprocAttr,implies_true,amz,zb,tys,hrl,hd];repeat' (first|(apply hK2;clear hK2 K2)|apply And.intro|intro hb)))))|apply T.skip|apply T.exit|refine T.zf rfl ?_|refine T.ze rfl ?_|refine T.cond rfl (fun hc=>?_) (fun hc=>?_)|apply T.ret|simp only [za,z8,reduceIte,Nat.reduceEqDiff]|((repeat ((fail_if_success apply hK);clear hK K));apply hK;clear hK K))
   refine T.drw 6 (by kernel_rfl) (by kernel_rfl) fun K' hK'=>?_;simp only [List.map_cons,List.map_nil];(repeat' (first|(with_reducible refine WL.fin ?_;apply hK';clear hK' K')|(with_reducible refine WD.fin ?_)|((with_reducible first|refine WL.step fun K2 hK2=>?_|refine WD.step fun K2 hK2=>?_);simp only [simprocAttr,implies_true,amz,zb,tys,hi0,Int.toNat_natCast,m1];(repeat' (first|with_reducible (first|(apply hK2;clear hK2 K2)|apply And.intro|intro hb)|((with_reducible first|apply zh|apply zl);case h=>exact CallV.plain (Ent.of Tryd.func27 (by kernel_rfl) rfl) (hac) (by simp [AV.okB])))))));all_goals ((try simp only [za,z8,reduceIte,Nat.reduceEqDiff]);(try ((repeat ((fail_if_success apply hK);clear hK K));apply hK;clear hK K)))
   all_goals repeat' (first|refine T.zk fun K hK=>?_|apply T.block|(refine T.reg (by kernel_rfl) fun K' hK'=>?_;simp only [bz];(with_reducible repeat' (first|(apply WL.fin;apply hK';clear hK' K')|(refine WL.step fun K2 hK2=>?_;simp only [simprocAttr,implies_true,amz,zb,tys];repeat' (first|(apply hK2;clear hK2 K2)|apply And.intro|intro hb)))))|apply T.skip|apply T.exit|refine T.zf rfl ?_|refine T.ze rfl ?_|refine T.cond rfl (fun hc=>?_) (fun hc=>?_)|apply T.ret|simp only [za,z8,reduceIte,Nat.reduceEqDiff]|((repeat ((fail_if_success apply hK);clear hK K));apply hK;clear hK K))
   refine hKL _ (i+1) (by refine zi.of' rfl ?_;simp only [wks,reduceIte,Nat.reduceEqDiff,ASt.okB,AV.okB,Nat.reduceLT,implies_true,zT (show i<1152921504606846976 by omega)]) ⟨hlt,hal⟩ (by omega)
 have hd:decide ((i:Int)<(rs.length:Int))=false:=by simpa using hlt
 rw [List.drop_eq_nil_of_le (by omega),List.all_nil] at hal
 have hacc : ∀ r ∈ rs,accB l ss.length r=true:=fun r hr=>List.all_eq_true.1 hal r hr
 have hrac : ∀ r ∈ rs,∃ e f,Rac l r e f∧stB ss.length e=true∧stB ss.length f=true∧keyR l r=keyL (loE e f) (hiE e f) ∧ ∀ c,repR l ss ps r c=z3m ss ps (loE e f) (hiE e f) c:=fun r hr=>by
  obtain ⟨e,f,h1,h2⟩:=z5g (hacc r hr)
  obtain ⟨h3,h4⟩:=h1.at
  simp only [accE,Bool.and_eq_true] at h2
  exact ⟨e,f,h1,h2.1.2,h2.2,by rw [keyR,h3,h4],fun c=>by rw [repR,h3,h4]⟩
 have ho:okM l ss ps rs=true:=by simp only [okM,hv,hal,Bool.and_self]
 have hx:outM l ss ps rs=outR l ss ps rs:=by simp [outM,ho]
 have hy:errM l ss ps rs=0:=by simp [errM,ho]
 clear hal
 repeat' (first|refine T.zk fun K hK=>?_|apply T.block|(refine T.reg (by kernel_rfl) fun K' hK'=>?_;simp only [bz];(with_reducible repeat' (first|(apply WL.fin;apply hK';clear hK' K')|(refine WL.step fun K2 hK2=>?_;simp only [simprocAttr,implies_true,amz,zb,tys,hrl,hd];repeat' (first|(apply hK2;clear hK2 K2)|apply And.intro|intro hb)))))|apply T.skip|apply T.exit|refine T.zf rfl ?_|refine T.ze rfl ?_|refine T.cond rfl (fun hc=>?_) (fun hc=>?_)|apply T.ret|simp only [za,z8,reduceIte,Nat.reduceEqDiff]|((repeat ((fail_if_success apply hK);clear hK K));apply hK;clear hK K))
 refine T.z0o (fun i:Nat=>⟨[(1,.p (.seq 2 (rowP rs))),(2,.ptr 0 0),(7,.p (.seq 6 ((z0Q ((rs.take i).map (keyR l))).map keyC))),(8,.int i)],[(0,.boxP none 28 [.p (.seq 9 (l.map evC)),.p (.seq 2 (rowP ss)),.p (.seq 1 (rowZ ps))])],137,1⟩) (fun i=>i≤rs.length) (fun i=>rs.length-i) 0 (Nat.zero_le _) (by refine zi.of' rfl ?_;simp only [wks,reduceIte,Nat.reduceEqDiff,ASt.okB,AV.okB,Nat.reduceLT,implies_true,Int.natCast_zero,List.take_zero,List.map_nil,show z0Q [] = [] from rfl]) ?_
 intro i hi KL hKL
 by_cases hlt:i<rs.length
 ·have hd:decide ((i:Int)<(rs.length:Int))=true:=by simpa using hlt
  have hi0:(0≤(i:Int))=True:=eq_true (by omega)
  obtain ⟨r,hr⟩:=z01 hlt
  have m1:=z0e hr
  obtain ⟨e,f,h1,_,_,h2,_⟩:=hrac r (List.mem_of_getElem? hr)
  have hor:=hor r e f h1
  rw [← h2] at hor
  have hkn:z0Q ((rs.take (i+1)).map (keyR l))=insK (keyR l r) false (z0Q ((rs.take i).map (keyR l))):=by
   rw [List.take_add_one,hr,Option.toList_some,List.map_append,List.map_cons,List.map_nil,z6p]
  have hk6 : ∀ x ∈ z0Q ((rs.take i).map (keyR l)),x.length=6:=fun x hx=>z3c x ((z0J (n := 6) z3c x).1 hx)
  have hkl:(z0Q ((rs.take i).map (keyR l))).length≤i:=by
   have:=z4m ((rs.take i).map (keyR l))
   rw [List.length_map,List.length_take] at this
   omega
  obtain ⟨k1,k2,k3,k4,k5,k6,hk⟩:=z1D (z5s l r)
  rw [hk] at hor hkn
  obtain ⟨ks,hks⟩ : ∃ ks,ks=z0Q ((rs.take i).map (keyR l)):=⟨_,rfl⟩
  rw [← hks] at hk6 hkl hkn ⊢
  have hksl:(ks.map keyC).length=ks.length:=by simp
  simp only [keyA,List.map_cons,List.map_nil] at hor
  repeat' (first|refine T.zk fun K hK=>?_|apply T.block|(refine T.reg (by kernel_rfl) fun K' hK'=>?_;simp only [bz];(with_reducible repeat' (first|(apply WL.fin;apply hK';clear hK' K')|(refine WL.step fun K2 hK2=>?_;simp only [simprocAttr,implies_true,amz,zb,tys,hrl,hd];repeat' (first|(apply hK2;clear hK2 K2)|apply And.intro|intro hb)))))|apply T.skip|apply T.exit|refine T.zf rfl ?_|refine T.ze rfl ?_|refine T.cond rfl (fun hc=>?_) (fun hc=>?_)|apply T.ret|simp only [za,z8,reduceIte,Nat.reduceEqDiff]|((repeat ((fail_if_success apply hK);clear hK K));apply hK;clear hK K))
  refine T.comm [some (0,1),some (0,1),some (0,1),some (0,1),some (0,1),some (0,1),none,none] (by kernel_rfl) (by kernel_rfl) fun K' hK'=>?_;simp only [List.map_cons,List.map_nil,List.zip_cons_cons,List.zip_nil_left];(repeat' (first|(with_reducible refine WC.fin ?_;apply hK';clear hK' K')|((first|(with_reducible refine WC.z4M fun K2 hK2=>?_)|(with_reducible refine WC.stepW fun K2 hK2=>?_));simp only [simprocAttr,implies_true,amz,zb,WCg,WCv,WOw,allP,dav,Chk,List.filter_cons,List.filter_nil,bne_self_eq_false,Nat.reduceBneDiff,Bool.false_eq_true,tys,hi0,Int.toNat_natCast,m1];(repeat' (first|(with_reducible refine hK2 _ _ ?_;clear hK2 K2)|with_reducible (first|(apply hK2;clear hK2 K2)|apply And.intro|intro hb)|(with_reducible rfl)|((with_reducible show @Eq ASt _ _);rfl)|((with_reducible first|apply zh|apply zl);case h=>exact CallV.plain (Ent.of Tryd.func28 (by kernel_rfl) rfl) (hor) (by simp [AV.okB])))))));all_goals ((try simp only [za,z8,reduceIte,Nat.reduceEqDiff]);(try ((repeat ((fail_if_success apply hK);clear hK K));apply hK;clear hK K)))
  all_goals repeat' (first|refine T.zk fun K hK=>?_|apply T.block|(refine T.reg (by kernel_rfl) fun K' hK'=>?_;simp only [bz];(with_reducible repeat' (first|(apply WL.fin;apply hK';clear hK' K')|(refine WL.step fun K2 hK2=>?_;simp only [simprocAttr,implies_true,amz,zb,tys];repeat' (first|(apply hK2;clear hK2 K2)|apply And.intro|intro hb)))))|apply T.skip|apply T.exit|refine T.zf rfl ?_|refine T.ze rfl ?_|refine T.cond rfl (fun hc=>?_) (fun hc=>?_)|apply T.ret|simp only [za,z8,reduceIte,Nat.reduceEqDiff]|((repeat ((fail_if_success apply hK);clear hK K));apply hK;clear hK K))
  refine T.weak (zi.z6w _ 10 84 6 (show 10<137 by decide) rfl) ?_;simp only [ASt.add,z0E,Nat.reduceAdd]
  refine T.z0o (fun p:Nat × List (List Int) × Bool=>⟨[(1,.p (.seq 2 (rowP rs))),(2,.ptr 0 0),(7,.p (.seq 6 (ks.map keyC))),(8,.int i),(9,.ptr 1 0),(10,.own 2),(11,.bool p.2.2),(12,.int p.1)],[(2,.row 84 6 (p.2.1.map keyC)),(1,.boxP none 84 [.int k1,.int k2,.int k3,.int k4,.int k5,.int k6]),(0,.boxP none 28 [.p (.seq 9 (l.map evC)),.p (.seq 2 (rowP ss)),.p (.seq 1 (rowZ ps))])],137,3⟩) (fun p=>p.1≤ks.length∧p.2.1++insK [k1,k2,k3,k4,k5,k6] p.2.2 (ks.drop p.1)=insK [k1,k2,k3,k4,k5,k6] false ks) (fun p=>ks.length-p.1) (0,[],false) ⟨Nat.zero_le _,by simp⟩ (by refine zi.of' rfl ?_;simp only [wks,reduceIte,Nat.reduceEqDiff,ASt.okB,AV.okB,Nat.reduceLT,implies_true,Int.natCast_zero,List.map_nil]) ?_
  rintro ⟨n,acc,dn⟩ ⟨hn,hins⟩ KM hKM
  simp only at hn hins hKM ⊢
  have hacl:acc.length≤1001:=by
   have e1:=congrArg List.length hins
   rw [List.length_append] at e1
   have e2:=z5p [k1,k2,k3,k4,k5,k6] false ks
   omega
  have hacm:(acc.map keyC).length=acc.length:=by simp
  have hb1:(acc.length+1≤maxLen)=True:=eq_true (by unfold maxLen;omega)
  have hb2:((acc.length+1)*48≤140737488355328)=True:=eq_true (by omega)
  have hb3:(acc.length+1+1≤maxLen)=True:=eq_true (by unfold maxLen;omega)
  have hb4:((acc.length+1+1)*48≤140737488355328)=True:=eq_true (by omega)
  by_cases hnl:n<ks.length
  case neg =>
   have hdn:decide ((n:Int)<(ks.length:Int))=false:=by simpa using hnl
   rw [List.drop_eq_nil_of_le (by omega),insK] at hins
   cases dn with
   | true =>
    rw [if_pos rfl,List.append_nil] at hins
    repeat' (first|refine T.zk fun K hK=>?_|apply T.block|(refine T.reg (by kernel_rfl) fun K' hK'=>?_;simp only [bz];(with_reducible repeat' (first|(apply WL.fin;apply hK';clear hK' K')|(refine WL.step fun K2 hK2=>?_;simp only [simprocAttr,implies_true,amz,zb,tys,hksl,hdn,Bool.not_true];repeat' (first|(apply hK2;clear hK2 K2)|apply And.intro|intro hb)))))|apply T.skip|apply T.exit|refine T.zf rfl ?_|refine T.ze rfl ?_|refine T.cond rfl (fun hc=>?_) (fun hc=>?_)|apply T.ret|simp only [za,z8,reduceIte,Nat.reduceEqDiff]|((repeat ((fail_if_success apply hK);clear hK K));apply hK;clear hK K))
    refine hKL _ (i+1) ((zi.frz _ 2).trans (by simp only [ASt.frz,List.filter_cons,List.filter_nil,bne_self_eq_false,Nat.reduceBneDiff,Bool.false_eq_true,simprocAttr,implies_true,amz,zb];refine zi.of' rfl ?_;simp only [wks,reduceIte,Nat.reduceEqDiff,ASt.okB,AV.okB,Nat.reduceLT,implies_true,zT (show i<1152921504606846976 by omega),hkn,hins])) hlt (by omega)
   | false =>
    rw [if_neg (by simp)] at hins
    repeat' (first|refine T.zk fun K hK=>?_|apply T.block|(refine T.reg (by kernel_rfl) fun K' hK'=>?_;simp only [bz];(with_reducible repeat' (first|(apply WL.fin;apply hK';clear hK' K')|(refine WL.step fun K2 hK2=>?_;simp only [simprocAttr,implies_true,amz,zb,tys,hksl,hdn,Bool.not_false,hm1,hacm,hb1,hb2,List.length_cons,List.length_nil];repeat' (first|(apply hK2;clear hK2 K2)|apply And.intro|intro hb)))))|apply T.skip|apply T.exit|refine T.zf rfl ?_|refine T.ze rfl ?_|refine T.cond rfl (fun hc=>?_) (fun hc=>?_)|apply T.ret|simp only [za,z8,reduceIte,Nat.reduceEqDiff]|((repeat ((fail_if_success apply hK);clear hK K));apply hK;clear hK K))
    refine hKL _ (i+1) ((zi.frz _ 2).trans (by simp only [ASt.frz,List.filter_cons,List.filter_nil,bne_self_eq_false,Nat.reduceBneDiff,Bool.false_eq_true,simprocAttr,implies_true,amz,zb];refine zi.of' rfl ?_;simp only [wks,reduceIte,Nat.reduceEqDiff,ASt.okB,AV.okB,Nat.reduceLT,implies_true,zT (show i<1152921504606846976 by omega),hkn,← hins,List.map_append,List.map_cons,List.map_nil,keyC])) hlt (by omega)
  have hdn:decide ((n:Int)<(ks.length:Int))=true:=by simpa using hnl
  have hn0:(0≤(n:Int))=True:=eq_true (by omega)
  obtain ⟨x,hx⟩:=z01 hnl
  obtain ⟨x1,x2,x3,x4,x5,x6,rfl⟩:=z1D (hk6 x (List.mem_of_getElem? hx))
  have mx:=key_at hx
  have hls:=less_ok [k1,k2,k3,k4,k5,k6] [x1,x2,x3,x4,x5,x6] rfl rfl
  simp only [keyA,List.map_cons,List.map_nil] at hls
  rw [drop_at hx,insK_step] at hins
  cases dn with
  | true =>
   rw [if_neg (by simp),Bool.true_or] at hins
   repeat' (first|refine T.zk fun K hK=>?_|apply T.block|(refine T.reg (by kernel_rfl) fun K' hK'=>?_;simp only [bz];(with_reducible repeat' (first|(apply WL.fin;apply hK';clear hK' K')|(refine WL.step fun K2 hK2=>?_;simp only [simprocAttr,implies_true,amz,zb,tys,hksl,hdn,Bool.not_true];repeat' (first|(apply hK2;clear hK2 K2)|apply And.intro|intro hb)))))|apply T.skip|apply T.exit|refine T.zf rfl ?_|refine T.ze rfl ?_|refine T.cond rfl (fun hc=>?_) (fun hc=>?_)|apply T.ret|simp only [za,z8,reduceIte,Nat.reduceEqDiff]|((repeat ((fail_if_success apply hK);clear hK K));apply hK;clear hK K))
   refine T.drw 9 (by kernel_rfl) (by kernel_rfl) fun K' hK'=>?_;simp only [List.map_cons,List.map_nil];(repeat' (first|(with_reducible refine WL.fin ?_;apply hK';clear hK' K')|(with_reducible refine WD.fin ?_)|((with_reducible first|refine WL.step fun K2 hK2=>?_|refine WD.step fun K2 hK2=>?_);simp only [simprocAttr,implies_true,amz,zb,tys,hn0,Int.toNat_natCast,mx,Bool.not_true];(repeat' with_reducible (first|(apply hK2;clear hK2 K2)|apply And.intro|intro hb)))));all_goals ((try simp only [za,z8,reduceIte,Nat.reduceEqDiff]);(try ((repeat ((fail_if_success apply hK);clear hK K));apply hK;clear hK K)))
   all_goals repeat' (first|refine T.zk fun K hK=>?_|apply T.block|(refine T.reg (by kernel_rfl) fun K' hK'=>?_;simp only [bz];(with_reducible repeat' (first|(apply WL.fin;apply hK';clear hK' K')|(refine WL.step fun K2 hK2=>?_;simp only [simprocAttr,implies_true,amz,zb,tys];repeat' (first|(apply hK2;clear hK2 K2)|apply And.intro|intro hb)))))|apply T.skip|apply T.exit|refine T.zf rfl ?_|refine T.ze rfl ?_|refine T.cond rfl (fun hc=>?_) (fun hc=>?_)|apply T.ret|simp only [za,z8,reduceIte,Nat.reduceEqDiff]|((repeat ((fail_if_success apply hK);clear hK K));apply hK;clear hK K))
   refine T.drw 9 (by kernel_rfl) (by kernel_rfl) fun K' hK'=>?_;simp only [List.map_cons,List.map_nil];(repeat' (first|(with_reducible refine WL.fin ?_;apply hK';clear hK' K')|(with_reducible refine WD.fin ?_)|((with_reducible first|refine WL.step fun K2 hK2=>?_|refine WD.step fun K2 hK2=>?_);simp only [simprocAttr,implies_true,amz,zb,tys,hn0,Int.toNat_natCast,mx];(repeat' with_reducible (first|(apply hK2;clear hK2 K2)|apply And.intro|intro hb)))));all_goals ((try simp only [za,z8,reduceIte,Nat.reduceEqDiff]);(try ((repeat ((fail_if_success apply hK);clear hK K));apply hK;clear hK K)))
   all_goals repeat' (first|refine T.zk fun K hK=>?_|apply T.block|(refine T.reg (by kernel_rfl) fun K' hK'=>?_;simp only [bz];(with_reducible repeat' (first|(apply WL.fin;apply hK';clear hK' K')|(refine WL.step fun K2 hK2=>?_;simp only [simprocAttr,implies_true,amz,zb,tys,hn0,Int.toNat_natCast,mx,hm1,hacm,hb1,hb2,List.length_cons,List.length_nil];repeat' (first|(apply hK2;clear hK2 K2)|apply And.intro|intro hb)))))|apply T.skip|apply T.exit|refine T.zf rfl ?_|refine T.ze rfl ?_|refine T.cond rfl (fun hc=>?_) (fun hc=>?_)|apply T.ret|simp only [za,z8,reduceIte,Nat.reduceEqDiff]|((repeat ((fail_if_success apply hK);clear hK K));apply hK;clear hK K))
   refine hKM _ (n+1,acc ++ [[x1,x2,x3,x4,x5,x6]],true) (by refine zi.of' rfl ?_;simp only [wks,reduceIte,Nat.reduceEqDiff,ASt.okB,AV.okB,Nat.reduceLT,implies_true,zT (show n<1152921504606846976 by omega),List.map_append,List.map_cons,List.map_nil,keyC]) ⟨hnl,by simpa using hins⟩ (by simp only [];omega)
  | false =>
   cases hlx:lexB [k1,k2,k3,k4,k5,k6] [x1,x2,x3,x4,x5,x6] with
   | true =>
    rw [hlx] at hls hins
    rw [if_pos (by simp)] at hins
    repeat' (first|refine T.zk fun K hK=>?_|apply T.block|(refine T.reg (by kernel_rfl) fun K' hK'=>?_;simp only [bz];(with_reducible repeat' (first|(apply WL.fin;apply hK';clear hK' K')|(refine WL.step fun K2 hK2=>?_;simp only [simprocAttr,implies_true,amz,zb,tys,hksl,hdn,Bool.not_false];repeat' (first|(apply hK2;clear hK2 K2)|apply And.intro|intro hb)))))|apply T.skip|apply T.exit|refine T.zf rfl ?_|refine T.ze rfl ?_|refine T.cond rfl (fun hc=>?_) (fun hc=>?_)|apply T.ret|simp only [za,z8,reduceIte,Nat.reduceEqDiff]|((repeat ((fail_if_success apply hK);clear hK K));apply hK;clear hK K))
    refine T.drw 9 (by kernel_rfl) (by kernel_rfl) fun K' hK'=>?_;simp only [List.map_cons,List.map_nil];(repeat' (first|(with_reducible refine WL.fin ?_;apply hK';clear hK' K')|(with_reducible refine WD.fin ?_)|((with_reducible first|refine WL.step fun K2 hK2=>?_|refine WD.step fun K2 hK2=>?_);simp only [simprocAttr,implies_true,amz,zb,tys,hn0,Int.toNat_natCast,mx,Bool.not_false];(repeat' (first|with_reducible (first|(apply hK2;clear hK2 K2)|apply And.intro|intro hb)|((with_reducible first|apply zh|apply zl);case h=>exact CallV.plain (Ent.of Tryd.func29 (by kernel_rfl) rfl) (hls) (by simp [AV.okB])))))));all_goals ((try simp only [za,z8,reduceIte,Nat.reduceEqDiff]);(try ((repeat ((fail_if_success apply hK);clear hK K));apply hK;clear hK K)))
    all_goals repeat' (first|refine T.zk fun K hK=>?_|apply T.block|(refine T.reg (by kernel_rfl) fun K' hK'=>?_;simp only [bz];(with_reducible repeat' (first|(apply WL.fin;apply hK';clear hK' K')|(refine WL.step fun K2 hK2=>?_;simp only [simprocAttr,implies_true,amz,zb,tys,hm1,hacm,hb1,hb2,List.length_cons,List.length_nil];repeat' (first|(apply hK2;clear hK2 K2)|apply And.intro|intro hb)))))|apply T.skip|apply T.exit|refine T.zf rfl ?_|refine T.ze rfl ?_|refine T.cond rfl (fun hc=>?_) (fun hc=>?_)|apply T.ret|simp only [za,z8,reduceIte,Nat.reduceEqDiff]|((repeat ((fail_if_success apply hK);clear hK K));apply hK;clear hK K))
    refine T.drw 9 (by kernel_rfl) (by kernel_rfl) fun K' hK'=>?_;simp only [List.map_cons,List.map_nil];(repeat' (first|(with_reducible refine WL.fin ?_;apply hK';clear hK' K')|(with_reducible refine WD.fin ?_)|((with_reducible first|refine WL.step fun K2 hK2=>?_|refine WD.step fun K2 hK2=>?_);simp only [simprocAttr,implies_true,amz,zb,tys,hn0,Int.toNat_natCast,mx];(repeat' with_reducible (first|(apply hK2;clear hK2 K2)|apply And.intro|intro hb)))));all_goals ((try simp only [za,z8,reduceIte,Nat.reduceEqDiff]);(try ((repeat ((fail_if_success apply hK);clear hK K));apply hK;clear hK K)))
    all_goals repeat' (first|refine T.zk fun K hK=>?_|apply T.block|(refine T.reg (by kernel_rfl) fun K' hK'=>?_;simp only [bz];(with_reducible repeat' (first|(apply WL.fin;apply hK';clear hK' K')|(refine WL.step fun K2 hK2=>?_;simp only [simprocAttr,implies_true,amz,zb,tys,hn0,Int.toNat_natCast,mx,hm1,hacm,List.length_append,hb3,hb4,List.length_cons,List.length_nil,Nat.zero_add];repeat' (first|(apply hK2;clear hK2 K2)|apply And.intro|intro hb)))))|apply T.skip|apply T.exit|refine T.zf rfl ?_|refine T.ze rfl ?_|refine T.cond rfl (fun hc=>?_) (fun hc=>?_)|apply T.ret|simp only [za,z8,reduceIte,Nat.reduceEqDiff]|((repeat ((fail_if_success apply hK);clear hK K));apply hK;clear hK K))
    refine hKM _ (n+1,acc ++ [[k1,k2,k3,k4,k5,k6],[x1,x2,x3,x4,x5,x6]],true) (by refine zi.of' rfl ?_;simp only [wks,reduceIte,Nat.reduceEqDiff,ASt.okB,AV.okB,Nat.reduceLT,implies_true,zT (show n<1152921504606846976 by omega),List.map_append,List.map_cons,List.map_nil,keyC,List.append_assoc,List.cons_append,List.nil_append]) ⟨hnl,by simpa using hins⟩ (by simp only [];omega)
   | false =>
    rw [hlx] at hls hins
    rw [if_neg (by simp),Bool.false_or] at hins
    cases heq:([x1,x2,x3,x4,x5,x6] == [k1,k2,k3,k4,k5,k6]) with
    | true =>
     rw [heq] at hins
     repeat' (first|refine T.zk fun K hK=>?_|apply T.block|(refine T.reg (by kernel_rfl) fun K' hK'=>?_;simp only [bz];(with_reducible repeat' (first|(apply WL.fin;apply hK';clear hK' K')|(refine WL.step fun K2 hK2=>?_;simp only [simprocAttr,implies_true,amz,zb,tys,hksl,hdn,Bool.not_false];repeat' (first|(apply hK2;clear hK2 K2)|apply And.intro|intro hb)))))|apply T.skip|apply T.exit|refine T.zf rfl ?_|refine T.ze rfl ?_|refine T.cond rfl (fun hc=>?_) (fun hc=>?_)|apply T.ret|simp only [za,z8,reduceIte,Nat.reduceEqDiff]|((repeat ((fail_if_success apply hK);clear hK K));apply hK;clear hK K))
     refine T.drw 9 (by kernel_rfl) (by kernel_rfl) fun K' hK'=>?_;simp only [List.map_cons,List.map_nil];(repeat' (first|(with_reducible refine WL.fin ?_;apply hK';clear hK' K')|(with_reducible refine WD.fin ?_)|((with_reducible first|refine WL.step fun K2 hK2=>?_|refine WD.step fun K2 hK2=>?_);simp only [simprocAttr,implies_true,amz,zb,tys,hn0,Int.toNat_natCast,mx,Bool.not_false];(repeat' (first|with_reducible (first|(apply hK2;clear hK2 K2)|apply And.intro|intro hb)|((with_reducible first|apply zh|apply zl);case h=>exact CallV.plain (Ent.of Tryd.func29 (by kernel_rfl) rfl) (hls) (by simp [AV.okB])))))));all_goals ((try simp only [za,z8,reduceIte,Nat.reduceEqDiff]);(try ((repeat ((fail_if_success apply hK);clear hK K));apply hK;clear hK K)))
     all_goals repeat' (first|refine T.zk fun K hK=>?_|apply T.block|(refine T.reg (by kernel_rfl) fun K' hK'=>?_;simp only [bz];(with_reducible repeat' (first|(apply WL.fin;apply hK';clear hK' K')|(refine WL.step fun K2 hK2=>?_;simp only [simprocAttr,implies_true,amz,zb,tys];repeat' (first|(apply hK2;clear hK2 K2)|apply And.intro|intro hb)))))|apply T.skip|apply T.exit|refine T.zf rfl ?_|refine T.ze rfl ?_|refine T.cond rfl (fun hc=>?_) (fun hc=>?_)|apply T.ret|simp only [za,z8,reduceIte,Nat.reduceEqDiff]|((repeat ((fail_if_success apply hK);clear hK K));apply hK;clear hK K))
     refine T.drw 9 (by kernel_rfl) (by kernel_rfl) fun K' hK'=>?_;simp only [List.map_cons,List.map_nil];(repeat' (first|(with_reducible refine WL.fin ?_;apply hK';clear hK' K')|(with_reducible refine WD.fin ?_)|((with_reducible first|refine WL.step fun K2 hK2=>?_|refine WD.step fun K2 hK2=>?_);simp only [simprocAttr,implies_true,amz,zb,tys,hn0,Int.toNat_natCast,mx,scEq,aeqF,z5b,heq];(repeat' with_reducible (first|(apply hK2;clear hK2 K2)|apply And.intro|intro hb)))));all_goals ((try simp only [za,z8,reduceIte,Nat.reduceEqDiff]);(try ((repeat ((fail_if_success apply hK);clear hK K));apply hK;clear hK K)))
     all_goals repeat' (first|refine T.zk fun K hK=>?_|apply T.block|(refine T.reg (by kernel_rfl) fun K' hK'=>?_;simp only [bz];(with_reducible repeat' (first|(apply WL.fin;apply hK';clear hK' K')|(refine WL.step fun K2 hK2=>?_;simp only [simprocAttr,implies_true,amz,zb,tys,hn0,Int.toNat_natCast,mx,hm1,hacm,hb1,hb2,List.length_cons,List.length_nil];repeat' (first|(apply hK2;clear hK2 K2)|apply And.intro|intro hb)))))|apply T.skip|apply T.exit|refine T.zf rfl ?_|refine T.ze rfl ?_|refine T.cond rfl (fun hc=>?_) (fun hc=>?_)|apply T.ret|simp only [za,z8,reduceIte,Nat.reduceEqDiff]|((repeat ((fail_if_success apply hK);clear hK K));apply hK;clear hK K))
     refine hKM _ (n+1,acc ++ [[x1,x2,x3,x4,x5,x6]],true) (by refine zi.of' rfl ?_;simp only [wks,reduceIte,Nat.reduceEqDiff,ASt.okB,AV.okB,Nat.reduceLT,implies_true,zT (show n<1152921504606846976 by omega),List.map_append,List.map_cons,List.map_nil,keyC]) ⟨hnl,by simpa using hins⟩ (by simp only [];omega)
    | false =>
     rw [heq] at hins
     repeat' (first|refine T.zk fun K hK=>?_|apply T.block|(refine T.reg (by kernel_rfl) fun K' hK'=>?_;simp only [bz];(with_reducible repeat' (first|(apply WL.fin;apply hK';clear hK' K')|(refine WL.step fun K2 hK2=>?_;simp only [simprocAttr,implies_true,amz,zb,tys,hksl,hdn,Bool.not_false];repeat' (first|(apply hK2;clear hK2 K2)|apply And.intro|intro hb)))))|apply T.skip|apply T.exit|refine T.zf rfl ?_|refine T.ze rfl ?_|refine T.cond rfl (fun hc=>?_) (fun hc=>?_)|apply T.ret|simp only [za,z8,reduceIte,Nat.reduceEqDiff]|((repeat ((fail_if_success apply hK);clear hK K));apply hK;clear hK K))
     refine T.drw 9 (by kernel_rfl) (by kernel_rfl) fun K' hK'=>?_;simp only [List.map_cons,List.map_nil];(repeat' (first|(with_reducible refine WL.fin ?_;apply hK';clear hK' K')|(with_reducible refine WD.fin ?_)|((with_reducible first|refine WL.step fun K2 hK2=>?_|refine WD.step fun K2 hK2=>?_);simp only [simprocAttr,implies_true,amz,zb,tys,hn0,Int.toNat_natCast,mx,Bool.not_false];(repeat' (first|with_reducible (first|(apply hK2;clear hK2 K2)|apply And.intro|intro hb)|((with_reducible first|apply zh|apply zl);case h=>exact CallV.plain (Ent.of Tryd.func29 (by kernel_rfl) rfl) (hls) (by simp [AV.okB])))))));all_goals ((try simp only [za,z8,reduceIte,Nat.reduceEqDiff]);(try ((repeat ((fail_if_success apply hK);clear hK K));apply hK;clear hK K)))
     all_goals repeat' (first|refine T.zk fun K hK=>?_|apply T.block|(refine T.reg (by kernel_rfl) fun K' hK'=>?_;simp only [bz];(with_reducible repeat' (first|(apply WL.fin;apply hK';clear hK' K')|(refine WL.step fun K2 hK2=>?_;simp only [simprocAttr,implies_true,amz,zb,tys];repeat' (first|(apply hK2;clear hK2 K2)|apply And.intro|intro hb)))))|apply T.skip|apply T.exit|refine T.zf rfl ?_|refine T.ze rfl ?_|refine T.cond rfl (fun hc=>?_) (fun hc=>?_)|apply T.ret|simp only [za,z8,reduceIte,Nat.reduceEqDiff]|((repeat ((fail_if_success apply hK);clear hK K));apply hK;clear hK K))
     refine T.drw 9 (by kernel_rfl) (by kernel_rfl) fun K' hK'=>?_;simp only [List.map_cons,List.map_nil];(repeat' (first|(with_reducible refine WL.fin ?_;apply hK';clear hK' K')|(with_reducible refine WD.fin ?_)|((with_reducible first|refine WL.step fun K2 hK2=>?_|refine WD.step fun K2 hK2=>?_);simp only [simprocAttr,implies_true,amz,zb,tys,hn0,Int.toNat_natCast,mx,scEq,aeqF,z5b,heq];(repeat' with_reducible (first|(apply hK2;clear hK2 K2)|apply And.intro|intro hb)))));all_goals ((try simp only [za,z8,reduceIte,Nat.reduceEqDiff]);(try ((repeat ((fail_if_success apply hK);clear hK K));apply hK;clear hK K)))
     all_goals repeat' (first|refine T.zk fun K hK=>?_|apply T.block|(refine T.reg (by kernel_rfl) fun K' hK'=>?_;simp only [bz];(with_reducible repeat' (first|(apply WL.fin;apply hK';clear hK' K')|(refine WL.step fun K2 hK2=>?_;simp only [simprocAttr,implies_true,amz,zb,tys,hn0,Int.toNat_natCast,mx,hm1,hacm,hb1,hb2,List.length_cons,List.length_nil];repeat' (first|(apply hK2;clear hK2 K2)|apply And.intro|intro hb)))))|apply T.skip|apply T.exit|refine T.zf rfl ?_|refine T.ze rfl ?_|refine T.cond rfl (fun hc=>?_) (fun hc=>?_)|apply T.ret|simp only [za,z8,reduceIte,Nat.reduceEqDiff]|((repeat ((fail_if_success apply hK);clear hK K));apply hK;clear hK K))
     refine hKM _ (n+1,acc ++ [[x1,x2,x3,x4,x5,x6]],false) (by refine zi.of' rfl ?_;simp only [wks,reduceIte,Nat.reduceEqDiff,ASt.okB,AV.okB,Nat.reduceLT,implies_true,zT (show n<1152921504606846976 by omega),List.map_append,List.map_cons,List.map_nil,keyC]) ⟨hnl,by simpa using hins⟩ (by simp only [];omega)
 have hd:decide ((i:Int)<(rs.length:Int))=false:=by simpa using hlt
 obtain rfl:i=rs.length:=by omega
 rw [List.take_length]
 clear hor
 obtain ⟨ks,hks⟩ : ∃ ks,ks=z0Q (rs.map (keyR l)):=⟨_,rfl⟩
 have hk6 : ∀ x ∈ ks,x.length=6:=fun x hx=>z3c x ((z0J (n := 6) z3c x).1 (hks ▸ hx))
 have hkl:ks.length≤1000:=by
  have:=z4m (rs.map (keyR l))
  rw [List.length_map,← hks] at this
  omega
 have hkat : ∀ (n:Nat) (k:List Int),ks[n]? = some k → ∃ r c,fndF (keyR l) k rs=some (r,c)∧r ∈ rs∧repK l ss ps rs k=repR l ss ps r c:=fun n k h=>z5C (hks ▸ h)
 have hxo:outM l ss ps rs=ks.map (repK l ss ps rs):=by rw [hx,outR,hks]
 rw [← hks]
 have hksl:(ks.map keyC).length=ks.length:=by simp
 repeat' (first|refine T.zk fun K hK=>?_|apply T.block|(refine T.reg (by kernel_rfl) fun K' hK'=>?_;simp only [bz];(with_reducible repeat' (first|(apply WL.fin;apply hK';clear hK' K')|(refine WL.step fun K2 hK2=>?_;simp only [simprocAttr,implies_true,amz,zb,tys,hrl,hd];repeat' (first|(apply hK2;clear hK2 K2)|apply And.intro|intro hb)))))|apply T.skip|apply T.exit|refine T.zf rfl ?_|refine T.ze rfl ?_|refine T.cond rfl (fun hc=>?_) (fun hc=>?_)|apply T.ret|simp only [za,z8,reduceIte,Nat.reduceEqDiff]|((repeat ((fail_if_success apply hK);clear hK K));apply hK;clear hK K))
 refine T.weak (zi.z6w _ 13 41 7 (show 13<137 by decide) rfl) ?_;simp only [ASt.add,z0E,Nat.reduceAdd]
 refine T.z0o (fun n:Nat=>⟨[(1,.p (.seq 2 (rowP rs))),(2,.ptr 0 0),(7,.p (.seq 6 (ks.map keyC))),(13,.own 1),(14,.int n)],[(1,.row 41 7 (((ks.take n).map (repK l ss ps rs)).map qJ)),(0,.boxP none 28 [.p (.seq 9 (l.map evC)),.p (.seq 2 (rowP ss)),.p (.seq 1 (rowZ ps))])],137,2⟩) (fun n=>n≤ks.length) (fun n=>ks.length-n) 0 (Nat.zero_le _) (by refine zi.of' rfl ?_;simp only [wks,reduceIte,Nat.reduceEqDiff,ASt.okB,AV.okB,Nat.reduceLT,implies_true,Int.natCast_zero,List.take_zero,List.map_nil]) ?_
 intro n hn KL hKL
 by_cases hnl:n<ks.length
 case neg =>
  have hdn:decide ((n:Int)<(ks.length:Int))=false:=by simpa using hnl
  obtain rfl:n=ks.length:=by omega
  rw [List.take_length]
  repeat' (first|refine T.zk fun K hK=>?_|apply T.block|(refine T.reg (by kernel_rfl) fun K' hK'=>?_;simp only [bz];(with_reducible repeat' (first|(apply WL.fin;apply hK';clear hK' K')|(refine WL.step fun K2 hK2=>?_;simp only [simprocAttr,implies_true,amz,zb,tys,hksl,hdn];repeat' (first|(apply hK2;clear hK2 K2)|apply And.intro|intro hb)))))|apply T.skip|apply T.exit|refine T.zf rfl ?_|refine T.ze rfl ?_|refine T.cond rfl (fun hc=>?_) (fun hc=>?_)|apply T.ret|simp only [za,z8,reduceIte,Nat.reduceEqDiff]|((repeat ((fail_if_success apply hK);clear hK K));apply hK;clear hK K))
  refine qf.retW (.inr rfl) Tryd.results11 (zi.frz _ 1) ?_;simp only [zR,zA,zB,ASt.frz,ASt.subst,AO.z4E,AO.z5V,AO.z5R,AO.z5U,AO.z3g,AV.z5S,AV.z5Q,AV.z5T,AV.z3X,AV.z2l,AV.z1h,AV.z3W,AV.z1o,AV.z5c,AV.z1p,List.filter_cons,List.filter_nil,bne_self_eq_false,Nat.reduceBneDiff,Nat.reduceEqDiff,Bool.false_eq_true,simprocAttr,implies_true,amz,zb,tys,hxo,hy]
 have hdn:decide ((n:Int)<(ks.length:Int))=true:=by simpa using hnl
 have hn0:(0≤(n:Int))=True:=eq_true (by omega)
 obtain ⟨k,hk⟩:=z01 hnl
 obtain ⟨rr,cc,hfnd,hrr,hrep⟩:=hkat n k hk
 have hktk:(ks.take (n+1)).map (repK l ss ps rs)=(ks.take n).map (repK l ss ps rs) ++ [repR l ss ps rr cc]:=by
  rw [List.take_add_one,hk,Option.toList_some,List.map_append,List.map_cons,List.map_nil,hrep]
 obtain ⟨k1,k2,k3,k4,k5,k6,rfl⟩:=z1D (hk6 k (List.mem_of_getElem? hk))
 have mk:=key_at hk
 repeat' (first|refine T.zk fun K hK=>?_|apply T.block|(refine T.reg (by kernel_rfl) fun K' hK'=>?_;simp only [bz];(with_reducible repeat' (first|(apply WL.fin;apply hK';clear hK' K')|(refine WL.step fun K2 hK2=>?_;simp only [simprocAttr,implies_true,amz,zb,tys,hksl,hdn];repeat' (first|(apply hK2;clear hK2 K2)|apply And.intro|intro hb)))))|apply T.skip|apply T.exit|refine T.zf rfl ?_|refine T.ze rfl ?_|refine T.cond rfl (fun hc=>?_) (fun hc=>?_)|apply T.ret|simp only [za,z8,reduceIte,Nat.reduceEqDiff]|((repeat ((fail_if_success apply hK);clear hK K));apply hK;clear hK K))
 refine T.z0o (fun i:Nat=>⟨[(1,.p (.seq 2 (rowP rs))),(2,.ptr 0 0),(7,.p (.seq 6 (ks.map keyC))),(13,.own 1),(14,.int n),(15,.int (cO (fndF (keyR l) [k1,k2,k3,k4,k5,k6] (rs.take i)))),(16,.ptr 2 0),(17,.int i)],[(2,.boxP none 38 [.int (fO (fndF (keyR l) [k1,k2,k3,k4,k5,k6] (rs.take i))).1,.int (fO (fndF (keyR l) [k1,k2,k3,k4,k5,k6] (rs.take i))).2]),(1,.row 41 7 (((ks.take n).map (repK l ss ps rs)).map qJ)),(0,.boxP none 28 [.p (.seq 9 (l.map evC)),.p (.seq 2 (rowP ss)),.p (.seq 1 (rowZ ps))])],137,3⟩) (fun i=>i≤rs.length) (fun i=>rs.length-i) 0 (Nat.zero_le _) (by refine zi.of' rfl ?_;simp only [wks,reduceIte,Nat.reduceEqDiff,ASt.okB,AV.okB,Nat.reduceLT,implies_true,Int.natCast_zero,List.take_zero,show fndF (keyR l) [k1,k2,k3,k4,k5,k6] []=none from rfl,cO,fO]) ?_
 intro i hi KM hKM
 by_cases hlt:i<rs.length
 case neg =>
  have hd:decide ((i:Int)<(rs.length:Int))=false:=by simpa using hlt
  obtain rfl:i=rs.length:=by omega
  obtain ⟨e,f,h1,h2,h3,_,h4⟩:=hrac rr hrr
  have hre:=hre hv rr cc e f h1 h2 h3
  rw [← h4] at hre
  simp only [repA,qJ,List.map_cons,List.map_nil] at hre
  have htl:(((ks.take n).map (repK l ss ps rs)).map qJ).length=n:=by rw [List.length_map,List.length_map,List.length_take];omega
  have hb1:(n+1≤maxLen)=True:=eq_true (by unfold maxLen;omega)
  have hb2:((n+1)*88≤140737488355328)=True:=eq_true (by omega)
  rw [List.take_length,hfnd]
  simp only [cO,fO]
  repeat' (first|refine T.zk fun K hK=>?_|apply T.block|(refine T.reg (by kernel_rfl) fun K' hK'=>?_;simp only [bz];(repeat' (first|(with_reducible refine WL.fin ?_;apply hK';clear hK' K')|((with_reducible refine WL.step fun K2 hK2=>?_);simp only [simprocAttr,implies_true,amz,zb,tys,hrl,hd,hm1,htl,hb1,hb2,List.length_cons,List.length_nil,Nat.zero_add];(repeat' (first|with_reducible (first|(apply hK2;clear hK2 K2)|apply And.intro|intro hb)|((with_reducible first|apply zh|apply zl);case h=>exact CallV.plain (Ent.of Tryd.func31 (by kernel_rfl) rfl) (hre) (by simp [AV.okB]))))))))|apply T.skip|apply T.exit|refine T.zf rfl ?_|refine T.ze rfl ?_|refine T.cond rfl (fun hc=>?_) (fun hc=>?_)|apply T.ret|simp only [za,z8,reduceIte,Nat.reduceEqDiff]|((repeat ((fail_if_success apply hK);clear hK K));apply hK;clear hK K))
  refine hKL _ (n+1) (by refine zi.of' rfl ?_;simp only [wks,reduceIte,Nat.reduceEqDiff,ASt.okB,AV.okB,Nat.reduceLT,implies_true,zT (show n<1152921504606846976 by omega),hktk,List.map_append,List.map_cons,List.map_nil,qJ]) hnl (by omega)
 have hd:decide ((i:Int)<(rs.length:Int))=true:=by simpa using hlt
 have hi0:(0≤(i:Int))=True:=eq_true (by omega)
 obtain ⟨r,hr⟩:=z01 hlt
 have m1:=z0e hr
 obtain ⟨e,f,h1,_,_,h2,_⟩:=hrac r (List.mem_of_getElem? hr)
 have hor:=ofR_ok l ss ps r e f h1
 rw [← h2] at hor
 have hft:=z6l (key:=keyR l) (k := [k1,k2,k3,k4,k5,k6]) hr
 obtain ⟨q1,q2,q3,q4,q5,q6,hq⟩:=z1D (z5s l r)
 rw [hq] at hor hft
 simp only [trA,p2A,keyA,List.map_cons,List.map_nil] at hor
 have hcl:=cO_le (key:=keyR l) (k := [k1,k2,k3,k4,k5,k6]) (rs:=rs.take i)
 have hcl2:(rs.take i).length≤1000:=by rw [List.length_take];omega
 by_cases hqk : [q1,q2,q3,q4,q5,q6] = [k1,k2,k3,k4,k5,k6]
 case neg =>
  have heq:([q1,q2,q3,q4,q5,q6] == [k1,k2,k3,k4,k5,k6])=false:=beq_eq_false_iff_ne.2 hqk
  rw [if_neg hqk] at hft
  repeat' (first|refine T.zk fun K hK=>?_|apply T.block|(refine T.reg (by kernel_rfl) fun K' hK'=>?_;simp only [bz];(with_reducible repeat' (first|(apply WL.fin;apply hK';clear hK' K')|(refine WL.step fun K2 hK2=>?_;simp only [simprocAttr,implies_true,amz,zb,tys,hrl,hd];repeat' (first|(apply hK2;clear hK2 K2)|apply And.intro|intro hb)))))|apply T.skip|apply T.exit|refine T.zf rfl ?_|refine T.ze rfl ?_|refine T.cond rfl (fun hc=>?_) (fun hc=>?_)|apply T.ret|simp only [za,z8,reduceIte,Nat.reduceEqDiff]|((repeat ((fail_if_success apply hK);clear hK K));apply hK;clear hK K))
  refine T.drw 11 (by kernel_rfl) (by kernel_rfl) fun K' hK'=>?_;simp only [List.map_cons,List.map_nil];(repeat' (first|(with_reducible refine WL.fin ?_;apply hK';clear hK' K')|(with_reducible refine WD.fin ?_)|((with_reducible first|refine WL.step fun K2 hK2=>?_|refine WD.step fun K2 hK2=>?_);simp only [simprocAttr,implies_true,amz,zb,tys,hi0,hn0,Int.toNat_natCast,m1,mk,scEq,aeqF,z5b,heq,Bool.not_false];(repeat' (first|with_reducible (first|(apply hK2;clear hK2 K2)|apply And.intro|intro hb)|((with_reducible first|apply zh|apply zl);case h=>exact CallV.plain (Ent.of Tryd.func28 (by kernel_rfl) rfl) (hor) (by simp [AV.okB])))))));all_goals ((try simp only [za,z8,reduceIte,Nat.reduceEqDiff]);(try ((repeat ((fail_if_success apply hK);clear hK K));apply hK;clear hK K)))
  all_goals repeat' (first|refine T.zk fun K hK=>?_|apply T.block|(refine T.reg (by kernel_rfl) fun K' hK'=>?_;simp only [bz];(with_reducible repeat' (first|(apply WL.fin;apply hK';clear hK' K')|(refine WL.step fun K2 hK2=>?_;simp only [simprocAttr,implies_true,amz,zb,tys];repeat' (first|(apply hK2;clear hK2 K2)|apply And.intro|intro hb)))))|apply T.skip|apply T.exit|refine T.zf rfl ?_|refine T.ze rfl ?_|refine T.cond rfl (fun hc=>?_) (fun hc=>?_)|apply T.ret|simp only [za,z8,reduceIte,Nat.reduceEqDiff]|((repeat ((fail_if_success apply hK);clear hK K));apply hK;clear hK K))
  refine hKM _ (i+1) (by refine zi.of' rfl ?_;simp only [wks,reduceIte,Nat.reduceEqDiff,ASt.okB,AV.okB,Nat.reduceLT,implies_true,zT (show i<1152921504606846976 by omega),hft]) hlt (by omega)
 have heq:([q1,q2,q3,q4,q5,q6] == [k1,k2,k3,k4,k5,k6])=true:=beq_iff_eq.2 hqk
 rw [if_pos hqk] at hft
 cases ho2:fndF (keyR l) [k1,k2,k3,k4,k5,k6] (rs.take i) with
 | none =>
  rw [ho2] at hft
  simp only [upF] at hft
  simp only [cO,fO]
  repeat' (first|refine T.zk fun K hK=>?_|apply T.block|(refine T.reg (by kernel_rfl) fun K' hK'=>?_;simp only [bz];(with_reducible repeat' (first|(apply WL.fin;apply hK';clear hK' K')|(refine WL.step fun K2 hK2=>?_;simp only [simprocAttr,implies_true,amz,zb,tys,hrl,hd];repeat' (first|(apply hK2;clear hK2 K2)|apply And.intro|intro hb)))))|apply T.skip|apply T.exit|refine T.zf rfl ?_|refine T.ze rfl ?_|refine T.cond rfl (fun hc=>?_) (fun hc=>?_)|apply T.ret|simp only [za,z8,reduceIte,Nat.reduceEqDiff]|((repeat ((fail_if_success apply hK);clear hK K));apply hK;clear hK K))
  refine T.drw 11 (by kernel_rfl) (by kernel_rfl) fun K' hK'=>?_;simp only [List.map_cons,List.map_nil];(repeat' (first|(with_reducible refine WL.fin ?_;apply hK';clear hK' K')|(with_reducible refine WD.fin ?_)|((with_reducible first|refine WL.step fun K2 hK2=>?_|refine WD.step fun K2 hK2=>?_);simp only [simprocAttr,implies_true,amz,zb,tys,hi0,hn0,Int.toNat_natCast,m1,mk,scEq,aeqF,z5b,heq,Bool.not_true];(repeat' (first|with_reducible (first|(apply hK2;clear hK2 K2)|apply And.intro|intro hb)|((with_reducible first|apply zh|apply zl);case h=>exact CallV.plain (Ent.of Tryd.func28 (by kernel_rfl) rfl) (hor) (by simp [AV.okB])))))));all_goals ((try simp only [za,z8,reduceIte,Nat.reduceEqDiff]);(try ((repeat ((fail_if_success apply hK);clear hK K));apply hK;clear hK K)))
  all_goals repeat' (first|refine T.zk fun K hK=>?_|apply T.block|(refine T.reg (by kernel_rfl) fun K' hK'=>?_;simp only [bz];(with_reducible repeat' (first|(apply WL.fin;apply hK';clear hK' K')|(refine WL.step fun K2 hK2=>?_;simp only [simprocAttr,implies_true,amz,zb,tys];repeat' (first|(apply hK2;clear hK2 K2)|apply And.intro|intro hb)))))|apply T.skip|apply T.exit|refine T.zf rfl ?_|refine T.ze rfl ?_|refine T.cond rfl (fun hc=>?_) (fun hc=>?_)|apply T.ret|simp only [za,z8,reduceIte,Nat.reduceEqDiff]|((repeat ((fail_if_success apply hK);clear hK K));apply hK;clear hK K))
  refine T.drw 10 (by kernel_rfl) (by kernel_rfl) fun K' hK'=>?_;simp only [List.map_cons,List.map_nil];(repeat' (first|(with_reducible refine WL.fin ?_;apply hK';clear hK' K')|(with_reducible refine WD.fin ?_)|((with_reducible first|refine WL.step fun K2 hK2=>?_|refine WD.step fun K2 hK2=>?_);simp only [simprocAttr,implies_true,amz,zb,tys,hi0,Int.toNat_natCast,m1,beq_self_eq_true];(repeat' with_reducible (first|(apply hK2;clear hK2 K2)|apply And.intro|intro hb)))));all_goals ((try simp only [za,z8,reduceIte,Nat.reduceEqDiff]);(try ((repeat ((fail_if_success apply hK);clear hK K));apply hK;clear hK K)))
  all_goals repeat' (first|refine T.zk fun K hK=>?_|apply T.block|(refine T.reg (by kernel_rfl) fun K' hK'=>?_;simp only [bz];(with_reducible repeat' (first|(apply WL.fin;apply hK';clear hK' K')|(refine WL.step fun K2 hK2=>?_;simp only [simprocAttr,implies_true,amz,zb,tys,hi0,Int.toNat_natCast,m1];repeat' (first|(apply hK2;clear hK2 K2)|apply And.intro|intro hb)))))|apply T.skip|apply T.exit|refine T.zf rfl ?_|refine T.ze rfl ?_|refine T.cond rfl (fun hc=>?_) (fun hc=>?_)|apply T.ret|simp only [za,z8,reduceIte,Nat.reduceEqDiff]|((repeat ((fail_if_success apply hK);clear hK K));apply hK;clear hK K))
  refine hKM _ (i+1) (by refine zi.of' rfl ?_;simp only [wks,reduceIte,Nat.reduceEqDiff,ASt.okB,AV.okB,Nat.reduceLT,implies_true,zT (show i<1152921504606846976 by omega),hft,cO,fO,IntKind.wrap_i64,Int.zero_add,show ((1+9223372036854775808) % 18446744073709551616-9223372036854775808:Int)=1 from by decide]) hlt (by omega)
 | some p =>
  obtain ⟨g,c⟩:=p
  obtain ⟨c0,c1,_⟩:=z1c ho2
  have hc0:(c==0)=false:=by simpa using (by omega:c ≠ 0)
  have hwc:IntKind.i64.wrap (c+1)=c+1:=z04 (by omega) (by omega)
  have hea:=z8o r g
  simp only [p2A] at hea
  rw [ho2] at hft
  simp only [upF] at hft
  simp only [cO,fO]
  cases he:z2X r g with
  | true =>
   rw [he] at hea
   rw [show earB r g=true from he,if_pos rfl] at hft
   repeat' (first|refine T.zk fun K hK=>?_|apply T.block|(refine T.reg (by kernel_rfl) fun K' hK'=>?_;simp only [bz];(with_reducible repeat' (first|(apply WL.fin;apply hK';clear hK' K')|(refine WL.step fun K2 hK2=>?_;simp only [simprocAttr,implies_true,amz,zb,tys,hrl,hd];repeat' (first|(apply hK2;clear hK2 K2)|apply And.intro|intro hb)))))|apply T.skip|apply T.exit|refine T.zf rfl ?_|refine T.ze rfl ?_|refine T.cond rfl (fun hc=>?_) (fun hc=>?_)|apply T.ret|simp only [za,z8,reduceIte,Nat.reduceEqDiff]|((repeat ((fail_if_success apply hK);clear hK K));apply hK;clear hK K))
   refine T.drw 11 (by kernel_rfl) (by kernel_rfl) fun K' hK'=>?_;simp only [List.map_cons,List.map_nil];(repeat' (first|(with_reducible refine WL.fin ?_;apply hK';clear hK' K')|(with_reducible refine WD.fin ?_)|((with_reducible first|refine WL.step fun K2 hK2=>?_|refine WD.step fun K2 hK2=>?_);simp only [simprocAttr,implies_true,amz,zb,tys,hi0,hn0,Int.toNat_natCast,m1,mk,scEq,aeqF,z5b,heq,Bool.not_true];(repeat' (first|with_reducible (first|(apply hK2;clear hK2 K2)|apply And.intro|intro hb)|((with_reducible first|apply zh|apply zl);case h=>exact CallV.plain (Ent.of Tryd.func28 (by kernel_rfl) rfl) (hor) (by simp [AV.okB])))))));all_goals ((try simp only [za,z8,reduceIte,Nat.reduceEqDiff]);(try ((repeat ((fail_if_success apply hK);clear hK K));apply hK;clear hK K)))
   all_goals repeat' (first|refine T.zk fun K hK=>?_|apply T.block|(refine T.reg (by kernel_rfl) fun K' hK'=>?_;simp only [bz];(with_reducible repeat' (first|(apply WL.fin;apply hK';clear hK' K')|(refine WL.step fun K2 hK2=>?_;simp only [simprocAttr,implies_true,amz,zb,tys];repeat' (first|(apply hK2;clear hK2 K2)|apply And.intro|intro hb)))))|apply T.skip|apply T.exit|refine T.zf rfl ?_|refine T.ze rfl ?_|refine T.cond rfl (fun hc=>?_) (fun hc=>?_)|apply T.ret|simp only [za,z8,reduceIte,Nat.reduceEqDiff]|((repeat ((fail_if_success apply hK);clear hK K));apply hK;clear hK K))
   refine T.drw 10 (by kernel_rfl) (by kernel_rfl) fun K' hK'=>?_;simp only [List.map_cons,List.map_nil];(repeat' (first|(with_reducible refine WL.fin ?_;apply hK';clear hK' K')|(with_reducible refine WD.fin ?_)|((with_reducible first|refine WL.step fun K2 hK2=>?_|refine WD.step fun K2 hK2=>?_);simp only [simprocAttr,implies_true,amz,zb,tys,hi0,Int.toNat_natCast,m1,hc0];(repeat' (first|with_reducible (first|(apply hK2;clear hK2 K2)|apply And.intro|intro hb)|((with_reducible first|apply zh|apply zl);case h=>exact CallV.plain (Ent.of Tryd.func30 (by kernel_rfl) rfl) (hea) (by simp [AV.okB])))))));all_goals ((try simp only [za,z8,reduceIte,Nat.reduceEqDiff]);(try ((repeat ((fail_if_success apply hK);clear hK K));apply hK;clear hK K)))
   all_goals repeat' (first|refine T.zk fun K hK=>?_|apply T.block|(refine T.reg (by kernel_rfl) fun K' hK'=>?_;simp only [bz];(with_reducible repeat' (first|(apply WL.fin;apply hK';clear hK' K')|(refine WL.step fun K2 hK2=>?_;simp only [simprocAttr,implies_true,amz,zb,tys,hi0,Int.toNat_natCast,m1];repeat' (first|(apply hK2;clear hK2 K2)|apply And.intro|intro hb)))))|apply T.skip|apply T.exit|refine T.zf rfl ?_|refine T.ze rfl ?_|refine T.cond rfl (fun hc=>?_) (fun hc=>?_)|apply T.ret|simp only [za,z8,reduceIte,Nat.reduceEqDiff]|((repeat ((fail_if_success apply hK);clear hK K));apply hK;clear hK K))
   refine hKM _ (i+1) (by refine zi.of' rfl ?_;simp only [wks,reduceIte,Nat.reduceEqDiff,ASt.okB,AV.okB,Nat.reduceLT,implies_true,zT (show i<1152921504606846976 by omega),hft,cO,fO,hwc]) hlt (by omega)
  | false =>
   rw [he] at hea
   rw [show earB r g=false from he,if_neg (by simp)] at hft
   repeat' (first|refine T.zk fun K hK=>?_|apply T.block|(refine T.reg (by kernel_rfl) fun K' hK'=>?_;simp only [bz];(with_reducible repeat' (first|(apply WL.fin;apply hK';clear hK' K')|(refine WL.step fun K2 hK2=>?_;simp only [simprocAttr,implies_true,amz,zb,tys,hrl,hd];repeat' (first|(apply hK2;clear hK2 K2)|apply And.intro|intro hb)))))|apply T.skip|apply T.exit|refine T.zf rfl ?_|refine T.ze rfl ?_|refine T.cond rfl (fun hc=>?_) (fun hc=>?_)|apply T.ret|simp only [za,z8,reduceIte,Nat.reduceEqDiff]|((repeat ((fail_if_success apply hK);clear hK K));apply hK;clear hK K))
   refine T.drw 11 (by kernel_rfl) (by kernel_rfl) fun K' hK'=>?_;simp only [List.map_cons,List.map_nil];(repeat' (first|(with_reducible refine WL.fin ?_;apply hK';clear hK' K')|(with_reducible refine WD.fin ?_)|((with_reducible first|refine WL.step fun K2 hK2=>?_|refine WD.step fun K2 hK2=>?_);simp only [simprocAttr,implies_true,amz,zb,tys,hi0,hn0,Int.toNat_natCast,m1,mk,scEq,aeqF,z5b,heq,Bool.not_true];(repeat' (first|with_reducible (first|(apply hK2;clear hK2 K2)|apply And.intro|intro hb)|((with_reducible first|apply zh|apply zl);case h=>exact CallV.plain (Ent.of Tryd.func28 (by kernel_rfl) rfl) (hor) (by simp [AV.okB])))))));all_goals ((try simp only [za,z8,reduceIte,Nat.reduceEqDiff]);(try ((repeat ((fail_if_success apply hK);clear hK K));apply hK;clear hK K)))
   all_goals repeat' (first|refine T.zk fun K hK=>?_|apply T.block|(refine T.reg (by kernel_rfl) fun K' hK'=>?_;simp only [bz];(with_reducible repeat' (first|(apply WL.fin;apply hK';clear hK' K')|(refine WL.step fun K2 hK2=>?_;simp only [simprocAttr,implies_true,amz,zb,tys];repeat' (first|(apply hK2;clear hK2 K2)|apply And.intro|intro hb)))))|apply T.skip|apply T.exit|refine T.zf rfl ?_|refine T.ze rfl ?_|refine T.cond rfl (fun hc=>?_) (fun hc=>?_)|apply T.ret|simp only [za,z8,reduceIte,Nat.reduceEqDiff]|((repeat ((fail_if_success apply hK);clear hK K));apply hK;clear hK K))
   refine T.drw 10 (by kernel_rfl) (by kernel_rfl) fun K' hK'=>?_;simp only [List.map_cons,List.map_nil];(repeat' (first|(with_reducible refine WL.fin ?_;apply hK';clear hK' K')|(with_reducible refine WD.fin ?_)|((with_reducible first|refine WL.step fun K2 hK2=>?_|refine WD.step fun K2 hK2=>?_);simp only [simprocAttr,implies_true,amz,zb,tys,hi0,Int.toNat_natCast,m1,hc0];(repeat' (first|with_reducible (first|(apply hK2;clear hK2 K2)|apply And.intro|intro hb)|((with_reducible first|apply zh|apply zl);case h=>exact CallV.plain (Ent.of Tryd.func30 (by kernel_rfl) rfl) (hea) (by simp [AV.okB])))))));all_goals ((try simp only [za,z8,reduceIte,Nat.reduceEqDiff]);(try ((repeat ((fail_if_success apply hK);clear hK K));apply hK;clear hK K)))
   all_goals repeat' (first|refine T.zk fun K hK=>?_|apply T.block|(refine T.reg (by kernel_rfl) fun K' hK'=>?_;simp only [bz];(with_reducible repeat' (first|(apply WL.fin;apply hK';clear hK' K')|(refine WL.step fun K2 hK2=>?_;simp only [simprocAttr,implies_true,amz,zb,tys,hi0,Int.toNat_natCast,m1];repeat' (first|(apply hK2;clear hK2 K2)|apply And.intro|intro hb)))))|apply T.skip|apply T.exit|refine T.zf rfl ?_|refine T.ze rfl ?_|refine T.cond rfl (fun hc=>?_) (fun hc=>?_)|apply T.ret|simp only [za,z8,reduceIte,Nat.reduceEqDiff]|((repeat ((fail_if_success apply hK);clear hK K));apply hK;clear hK K))
   refine hKM _ (i+1) (by refine zi.of' rfl ?_;simp only [wks,reduceIte,Nat.reduceEqDiff,ASt.okB,AV.okB,Nat.reduceLT,implies_true,zT (show i<1152921504606846976 by omega),hft,cO,fO,hwc]) hlt (by omega)
theorem z3V {ss:List P2} {ps:List Int} {e:Ev} (h:stB ss.length e=true):(stkD ss ps e.st).length≤ss.length:=by
 obtain ⟨h1,h2⟩:=z4D h
 have:=z5X (ss:=ss) (ps:=ps) (e.st+1).toNat e.st
 rw [stkD,List.length_reverse,upD]
 omega
theorem loE_or (e f:Ev):(loE e f=f∧hiE e f=e)∨(loE e f=e∧hiE e f=f):=by
 unfold loE hiE
 split
 ·exact .inl ⟨rfl,rfl⟩
 ·exact .inr ⟨rfl,rfl⟩
theorem z5D (l:List Ev) (ss:List P2) (ps:List Int) (rs:List P2):(outM l ss ps rs).length≤rs.length:=by
 unfold outM
 split
 ·rw [outR,List.length_map]
  have:=z4m (rs.map (keyR l))
  simpa using this
 ·simp
theorem z7l (l:List Ev) (ss:List P2) (ps:List Int) (rs:List P2) : ∀ x ∈ outM l ss ps rs,x.s1.length≤ss.length∧x.s2.length≤ss.length:=fun x hx=>by
 unfold outM at hx
 split at hx
 ·rename_i ho
  obtain ⟨k,hk,rfl⟩:=List.mem_map.1 hx
  obtain ⟨n,hn⟩:=List.mem_iff_getElem?.1 hk
  obtain ⟨r,c,_,hr,e⟩:=z5C (ss:=ss) (ps:=ps) hn
  rw [okM,Bool.and_eq_true,List.all_eq_true] at ho
  obtain ⟨a,b,hab,hac⟩:=z5g (ho.2 r hr)
  obtain ⟨e1,e2⟩:=hab.at
  simp only [accE,Bool.and_eq_true] at hac
  rw [e,repR,e1,e2,z3m]
  rcases loE_or a b with ⟨h1,h2⟩|⟨h1,h2⟩ <;> rw [h1,h2]
  ·exact ⟨z3V hac.2,z3V hac.1.2⟩
  ·exact ⟨z3V hac.1.2,z3V hac.2⟩
 ·cases hx
theorem z7M {l:List Ev} {a b:List P2} (h : ∀ r,r ∈ a↔r ∈ b):z0Q (a.map (keyR l))=z0Q (b.map (keyR l)) :=
 lxs_eq (z4n (n := 6) z3c) (z4n (n := 6) z3c) fun k=>by
  rw [z0J (n := 6) z3c,z0J (n := 6) z3c,List.mem_map,List.mem_map]
  exact ⟨fun ⟨r,h1,h2⟩=>⟨r,(h r).1 h1,h2⟩,fun ⟨r,h1,h2⟩=>⟨r,(h r).2 h1,h2⟩⟩
theorem okM_eq (l:List Ev) (ss:List P2) (ps:List Int) {a b:List P2} (h : ∀ r,r ∈ a↔r ∈ b):okM l ss ps a=okM l ss ps b:=by
 unfold okM
 congr 1
 rw [Bool.eq_iff_iff,List.all_eq_true,List.all_eq_true]
 exact ⟨fun k r hr=>k r ((h r).2 hr),fun k r hr=>k r ((h r).1 hr)⟩
theorem err_eq (l:List Ev) (ss:List P2) (ps:List Int) {a b:List P2} (h : ∀ r,r ∈ a↔r ∈ b):errM l ss ps a=errM l ss ps b:=by
 unfold errM;rw [okM_eq l ss ps h]
theorem out_perm (l:List Ev) (ss:List P2) (ps:List Int) {a b:List P2} (h:a.Perm b):outM l ss ps a=outM l ss ps b:=by
 have hm : ∀ r,r ∈ a↔r ∈ b:=fun r=>h.mem_iff
 unfold outM outR
 rw [okM_eq l ss ps hm,z7M hm]
 congr 1
 apply List.map_congr_left
 intro k _
 unfold repK
 rw [fnd_perm h]
def dblR (x:Rep):Rep := { x with cnt:=x.cnt*2 }
theorem out_two (l:List Ev) (ss:List P2) (ps:List Int) (a:List P2):outM l ss ps (a++a)=(outM l ss ps a).map dblR:=by
 have hm : ∀ r,r ∈ a++a↔r ∈ a:=fun r=>by rw [List.mem_append,or_self]
 unfold outM outR
 rw [okM_eq l ss ps hm,z7M hm]
 split
 ·rw [List.map_map]
  apply List.map_congr_left
  intro k _
  simp only [Function.comp_apply,repK,fnd_two]
  cases fndF (keyR l) k a with
  | none=>rfl
  | some p=>rfl
 ·rfl
theorem out_cnt (l:List Ev) (ss:List P2) (ps:List Int) (rs:List P2) : ∀ x ∈ outM l ss ps rs,0≤x.cnt∧x.cnt≤rs.length:=fun x hx=>by
 unfold outM at hx
 split at hx
 ·obtain ⟨k,hk,rfl⟩:=List.mem_map.1 hx
  obtain ⟨n,hn⟩:=List.mem_iff_getElem?.1 hk
  obtain ⟨r,c,hrc,hr,e⟩:=z5C (ss:=ss) (ps:=ps) hn
  obtain ⟨h1,h2,_⟩:=z1c hrc
  rw [e]
  exact ⟨Int.le_of_lt h1,h2⟩
 ·cases hx
end Go.Proofs.YtbkkginjfnjffaaDoor
namespace Go.Proofs.YtbkkginjfnjffaaDoor
open Go.RowKit Go.Sort Go.Maps
def lgN (l:List Ev) (ss:List P2) (ps:List Int) (rs:List P2):Bool:=decide (60<l.length)||decide (60<ss.length)||decide (60<ps.length)||decide (60<rs.length)
theorem z5t (l:List Ev) (ss:List P2) (ps:List Int) (rs:List P2):zy Tryd.prog 9 [trA l ss ps,raA rs] (.bool (lgN l ss ps rs)):=by
 have h1:(l.map evC).length=l.length:=by simp
 have h2:=qO ss
 have h3:=z07 ps
 have h4:=qO rs
 have c1:decide (60<((l.length:Nat):Int))=decide (60<l.length):=by congr 1;exact propext (by omega)
 have c2:decide (60<((ss.length:Nat):Int))=decide (60<ss.length):=by congr 1;exact propext (by omega)
 have c3:decide (60<((ps.length:Nat):Int))=decide (60<ps.length):=by congr 1;exact propext (by omega)
 have c4:decide (60<((rs.length:Nat):Int))=decide (60<rs.length):=by congr 1;exact propext (by omega)
 simp only [trA,raA]
 cases e1:decide (60<l.length) <;> cases e2:decide (60<ss.length) <;> cases e3:decide (60<ps.length) <;> cases e4:decide (60<rs.length) <;> (
  have e5:lgN l ss ps rs=true∨lgN l ss ps rs=false:=by cases lgN l ss ps rs <;> simp
  (refine zy.of Tryd.func9 rfl 28 rfl (by decide) (by simp [AV.okB]) ?_)
  (repeat' (first|refine T.zk fun K hK=>?_|apply T.block|(refine T.reg (by kernel_rfl) fun K' hK'=>?_;simp only [bz];(with_reducible repeat' (first|(apply WL.fin;apply hK';clear hK' K')|(refine WL.step fun K2 hK2=>?_;simp only [simprocAttr,implies_true,amz,zb,tys,h1,h2,h3,h4,c1,c2,c3,c4,e1,e2,e3,e4,Bool.false_eq_true];repeat' (first|(apply hK2;clear hK2 K2)|apply And.intro|intro hb)))))|apply T.skip|apply T.exit|refine T.zf rfl ?_|refine T.ze rfl ?_|refine T.cond rfl (fun hc=>?_) (fun hc=>?_)|apply T.ret|simp only [za,z8,reduceIte,Nat.reduceEqDiff]|((repeat ((fail_if_success apply hK);clear hK K));apply hK;clear hK K)))
  all_goals (refine qf.ret (.inr rfl) Tryd.results9 ?_;simp only [zR,zA,zB,simprocAttr,implies_true,amz,zb,tys,lgN,e1,e2,e3,e4,Bool.or_true,Bool.true_or,Bool.or_false]))
theorem z4q {l:List Ev} {ss:List P2} {ps:List Int} {rs:List P2} (h:lgN l ss ps rs=false):l.length≤60∧ss.length≤60∧ps.length≤60∧rs.length≤60:=by
 simp only [lgN,Bool.or_eq_false_iff,decide_eq_false_iff_not,Nat.not_lt] at h
 exact ⟨h.1.1.1,h.1.1.2,h.1.2,h.2⟩
theorem merge_mem (l:List Ev) (hel : ∀ e ∈ l,EvW e) (ss:List P2) (ps:List Int) (hdw:DW ss ps) (rs:List P2):MemC Tryd.prog 3 1000001 hpG [trA l ss ps,raA rs] fun hp' r'=>hp' = hpG∧r' = .p (.val (.bool true)):=by
 have hA:=z1r
 have hL:=z5t l ss ps rs
 cases hl:lgN l ss ps rs with
 | true =>
  rw [hl] at hL
  simp only [trA,raA] at hL ⊢
  refine MemC.of Tryd.func3 rfl 34 rfl (by decide) ?_;simp only [qK,frOf]
  simp only [hpG]
  repeat' (first|refine T.zk fun K hK=>?_|apply T.block|(refine T.reg (by kernel_rfl) fun K' hK'=>?_;simp only [bz];(repeat' (first|(with_reducible refine WL.fin ?_;apply hK';clear hK' K')|((with_reducible refine WL.step fun K2 hK2=>?_);simp only [simprocAttr,implies_true,amz,zb,tys,Bool.not_true];(repeat' (first|with_reducible (first|(apply hK2;clear hK2 K2)|apply And.intro|intro hb)|((with_reducible first|apply zh|apply zl);case h=>exact CallV.read 1000001 hpG _ rfl (Ent.of Tryd.func8 (by kernel_rfl) rfl) (hA) (z0t (by decide) (fun t o ho=>by obtain ⟨rfl,rfl⟩:=qo ho;simp [zm])) (by simp [AV.okB]) rfl)|((with_reducible first|apply zh|apply zl);case h=>exact CallV.plain (Ent.of Tryd.func9 (by kernel_rfl) rfl) (hL) (by simp [AV.okB]))))))))|apply T.skip|apply T.exit|refine T.zf rfl ?_|refine T.ze rfl ?_|refine T.cond rfl (fun hc=>?_) (fun hc=>?_)|apply T.ret|simp only [za,z8,reduceIte,Nat.reduceEqDiff]|((repeat ((fail_if_success apply hK);clear hK K));apply hK;clear hK K))
  all_goals (refine FinM.ret (s':=⟨[(4,.p (.val (.bool true)))],hpG,34,1000001⟩) (r := .p (.val (.bool true))) (.inr rfl) Tryd.results3 (by refine zi.of' rfl ?_;simp only [wks,reduceIte,Nat.reduceEqDiff,ASt.okB,AV.okB,Nat.reduceLT,implies_true,hpG,zo]) rfl ?_ ?_;(focus (simp only [zR,zA,zB,simprocAttr,implies_true,amz,zb,tys,];done)))
  all_goals exact ⟨rfl,rfl⟩
 | false =>
  rw [hl] at hL
  obtain ⟨_,b2,_,b4⟩:=z4q hl
  have hM:=z1x l hel ss ps hdw (by omega) rs (by omega)
  have hR:=mergeR_ok l ss ps (by omega) rs (by omega)
  have hS:=z5M (outM l ss ps rs) (by have:=z5D l ss ps rs;omega) (fun x hx=>by have:=z7l l ss ps rs x hx;omega)
  simp only [trA,raA,merA] at hL hM hR ⊢
  refine MemC.of Tryd.func3 rfl 34 rfl (by decide) ?_;simp only [qK,frOf]
  simp only [hpG]
  repeat' (first|refine T.zk fun K hK=>?_|apply T.block|(refine T.reg (by kernel_rfl) fun K' hK'=>?_;simp only [bz];(repeat' (first|(with_reducible refine WL.fin ?_;apply hK';clear hK' K')|((with_reducible refine WL.step fun K2 hK2=>?_);simp only [simprocAttr,implies_true,amz,zb,tys,Bool.not_true,Bool.not_false,beq_self_eq_true];(repeat' (first|with_reducible (first|(apply hK2;clear hK2 K2)|apply And.intro|intro hb)|((with_reducible first|apply zh|apply zl);case h=>exact CallV.read 1000001 hpG _ rfl (Ent.of Tryd.func8 (by kernel_rfl) rfl) (hA) (z0t (by decide) (fun t o ho=>by obtain ⟨rfl,rfl⟩:=qo ho;simp [zm])) (by simp [AV.okB]) rfl)|((with_reducible first|apply zh|apply zl);case h=>exact CallV.plain (Ent.of Tryd.func9 (by kernel_rfl) rfl) (hL) (by simp [AV.okB]))|((with_reducible first|apply zh|apply zl);case h=>exact CallV.plain (Ent.of Tryd.func10 (by kernel_rfl) rfl) (hM) (by simp [AV.okB]))|((with_reducible first|apply zh|apply zl);case h=>exact CallV.plain (Ent.of Tryd.func11 (by kernel_rfl) rfl) (hR) (by simp [AV.okB]))|((with_reducible first|apply zh|apply zl);case h=>exact CallV.plain (Ent.of Tryd.func12 (by kernel_rfl) rfl) (hS) (by simp [AV.okB]))))))))|apply T.skip|apply T.exit|refine T.zf rfl ?_|refine T.ze rfl ?_|refine T.cond rfl (fun hc=>?_) (fun hc=>?_)|apply T.ret|simp only [za,z8,reduceIte,Nat.reduceEqDiff]|((repeat ((fail_if_success apply hK);clear hK K));apply hK;clear hK K))
  all_goals (refine FinM.ret (s':=⟨[(4,.p (.val (.bool true)))],hpG,34,1000001⟩) (r := .p (.val (.bool true))) (.inr rfl) Tryd.results3 (by refine zi.of' rfl ?_;simp only [wks,reduceIte,Nat.reduceEqDiff,ASt.okB,AV.okB,Nat.reduceLT,implies_true,hpG,zo]) rfl ?_ ?_;(focus (simp only [zR,zA,zB,simprocAttr,implies_true,amz,zb,tys,];done)))
  all_goals exact ⟨rfl,rfl⟩
end Go.Proofs.YtbkkginjfnjffaaDoor
namespace Go.Proofs.YtbkkginjfnjffaaDoor
open Go.RowKit Go.Sort Go.ChangeShapes Go.WideShapes Go.ChangeAt
theorem trodAll_length {H:Type} {enc:TypeId × Value→H} {P:Program} {w:World} {base:Nat} {spare:Nat→Bool} {held:Bool} : ∀ {ts:List TypeId} {vs:List Value} {ds:List (DataW H)} {ps:List MemPlace},DataW.TrodAll enc P w base spare held ts vs ds ps→ds.length=ts.length
 | [],[],[],_,_=>rfl
 | _ :: _,_ :: _,_ :: _,_,⟨_,_,_,h,_⟩=>by simp [trodAll_length h]
theorem z3h {H:Type} {enc:TypeId × Value→H} {P:Program} {W W' : World} (hl:laidOutB P=true) (hb:Below W.heap.size W W') : ∀ {ts:List TypeId} {vs:List Value} {ds:List (DataW H)} {ps:List MemPlace},(∀ t ∈ ts,P.readableRec t=true∧t<P.types.size) →
  DataW.TrodAll enc P W 0 (fun _=>true) true ts vs ds ps→(∀ x ∈ ps,x.block<W.heap.size)→DataW.TrodAll enc P W' 0 (fun b=>decide (b<W.heap.size)) true ts vs ds ps
 | [],[],[],_,_,h,_=>h
 | t :: _,_ :: _,_ :: _,_,hT,⟨p,q,h1,h2,e⟩,hs =>
  ⟨p,q,Below.trod hl (hT t (List.mem_cons.2 (.inl rfl))).1 (hT t (List.mem_cons.2 (.inl rfl))).2 h1 hb (fun x hx=>hs x (by rw [e];exact List.mem_append_left _ hx)),
   z3h hl hb (fun t ht=>hT t (List.mem_cons.2 (.inr ht))) h2 (fun x hx=>hs x (by rw [e];exact List.mem_append_right _ hx)),e⟩
theorem z3d {H:Type} {enc:TypeId × Value→H} {P:Program} {f:Func} {s:ChangeSpec} {B:TypeId} (hl:laidOutB P=true) (hps : ∀ t ∈ f.params.toList,P.readableRec t=true∧t<P.types.size) (hres:f.resultTypes = #[B]) (hB:P.underlying B=some .bool)
  {W W' : World} (hb:Below W.heap.size W W') {args:Array Value} {ds gs:List (DataW H)} {before:List MemPlace} (hv:s.vars = []) (hW:DataW.Whole enc P f.params.toList s.vars false W args.toList ds gs before)
  (hspec : ∀ ds:List (DataW H),ds.length=f.params.size→s.fn H ds = { results := [.lit (.bool true)],args:=ds }) :
  s.post enc P f false true false false W args (.bool true) W':=by
 have hW':=hW
 have hlt:=hW.lt
 rw [hv] at hW
 obtain ⟨p,q,hA,hV,rfl,hfz,hnd⟩:=hW
 obtain ⟨rfl,rfl⟩:=trodVars_none hV
 have hsp:=hspec ds (by rw [trodAll_length hA];simp)
 have hlt' : ∀ x ∈ p,x.block<W.heap.size:=fun x hx=>hlt x (List.mem_append_left _ hx)
 refine ⟨ds,[],_,[],p,[],hW',?_,?_,?_,hb.frame _,fun h=>by cases h⟩
 ·rw [List.append_nil,hsp,hres]
  exact trodAll_mk1 (shut_bool hB true)
 ·rw [List.append_nil,hsp]
  exact z3h hl hb hps hA hlt'
 ·rw [List.append_nil,hsp,hv];rfl
theorem cell_int {P:Program} {w:World} {r:Reach} {base:Nat} {u:TypeId} {v:Value} {k:IntKind} (hu:P.underlying u=some (.int k)) (h:Cell.okWide P w r base u v) : ∃ n,v = .int k n∧k.has n:=by
 cases v <;> simp [Cell.okWide,Cell.ok,hu] at h
 obtain ⟨rfl,h2⟩:=h
 exact ⟨_,rfl,h2⟩
theorem z1z {P:Program} {w:World} {r:Reach} {base:Nat} {t:TypeId} {v:Value} {ts:List TypeId} {n:Nat} (hu:(match P.underlying t with|some (.struct _)|some (.array _ _)=>true|_=>false)=true) (hts:P.cellTypes P.depth t=some ts) (hn:P.cellsOf t=n) (hl:ts.length=n)
  (h:Value.okWide P w r base t v) : ∃ cs,v = .agg cs∧cs.size=n ∧ ∀ (i:Nat) x u,cs[i]? = some x→ts[i]? = some u→Cell.okWide P w r base u x:=by
 unfold Value.okWide at h
 have h' : ∃ cs,v = .agg cs∧cs.size=P.cellsOf t∧Row.okWide P w r base t cs:=by
  revert h hu
  cases P.underlying t with
  | none=>intro hu;simp at hu
  | some d=>cases d <;> intro hu <;> first|(simp at hu;done)|exact fun h=>h
 obtain ⟨cs,rfl,hs,ts',hts',_,hc⟩:=h'
 rw [hts] at hts'
 obtain rfl:ts=ts':=Option.some.inj hts'
 refine ⟨cs,rfl,hs.trans hn,fun i x u hx hi=>?_⟩
 obtain ⟨u',hu',hok⟩:=hc i x hx
 have hlt:i<n:=by
  have:=(List.getElem?_eq_some_iff.1 hi).1
  omega
 rw [Nat.mod_eq_of_lt (by omega),hi] at hu'
 obtain rfl:u=u':=Option.some.inj hu'
 exact hok
theorem z7A {H:Type} {d:DataW H} {l:List (DataW H)} (h:d ∈ l):Rows.uptoBulk d≤Rows.uptoBulkAll l:=by
 induction l with
 | nil=>cases h
 | cons x r ih =>
  simp only [Rows.uptoBulkAll]
  rcases List.mem_cons.1 h with rfl|e
  ·omega
  ·have:=ih e;omega
theorem blk_one {H:Type} (d:DataW H) : 1≤Rows.uptoBulk d:=by
 cases d with
 | lit l=>cases l <;> simp [Rows.uptoBulk]
 | nil=>simp [Rows.uptoBulk]
 | ptr d=>simp [Rows.uptoBulk]
 | slice elems spare=>simp [Rows.uptoBulk]
 | agg parts=>simp [Rows.uptoBulk]
 | iface t d=>simp [Rows.uptoBulk]
 | map entries=>simp [Rows.uptoBulk]
 | held h=>simp [Rows.uptoBulk]
theorem blk_len {H:Type} (l:List (DataW H)):l.length≤Rows.uptoBulkAll l:=by
 induction l with
 | nil=>simp [Rows.uptoBulkAll]
 | cons x r ih=>have:=blk_one x;simp only [Rows.uptoBulkAll,List.length_cons];omega
theorem z6f {H:Type} (elems spare:List (DataW H)):Rows.uptoBulkAll elems+1≤Rows.uptoBulk (.slice elems spare):=by
 simp only [Rows.uptoBulk]
 omega
theorem blk_agg {H:Type} (l:List (DataW H)):Rows.uptoBulkAll l+1=Rows.uptoBulk (.agg l):=by
 simp only [Rows.uptoBulk]
theorem blk_str {H:Type} (bytes:List UInt8):Rows.uptoBulk (DataW.lit (H:=H) (.string bytes))=bytes.length+1:=by
 simp [Rows.uptoBulk]
def U64s (D:Nat→Prop) (W:World):Prop := ∀ b,D b → ∀ off v,W.cell? ⟨b,off,none⟩=some v → ∃ z,v = .int .u64 z
def NU (v:Value):Prop := ∀ z,v ≠ .int .u64 z
variable {H:Type} {enc:TypeId × Value→H} {W:World} {base:Nat} {spare:Nat→Bool} {held:Bool} {D:Nat→Prop}
def PRs (D:Nat→Prop) (W:World) (ps:List PV) (cs:List Value):Prop:=cs.length=ps.length ∧ ∀ (j:Nat) p v,ps[j]? = some p→cs[j]? = some v→PR D W p v
theorem PRs.nil:PRs D W [] []:=⟨rfl,fun j p v h=>by simp at h⟩
theorem PRs.cons {p:PV} {v:Value} {ps:List PV} {cs:List Value} (h:PR D W p v) (k:PRs D W ps cs):PRs D W (p :: ps) (v :: cs):=⟨by simp [k.1],fun j p' v' h1 h2=>by
 cases j with
 | zero=>simp at h1 h2;subst h1;subst h2;exact h
 | succ j=>exact k.2 j p' v' (by simpa using h1) (by simpa using h2)⟩
theorem PRs.ints (xs:List Int):PRs D W (xs.map fun x => .val (.int .i64 x)) (xs.map fun x => .int .i64 x):=by
 induction xs with
 | nil=>exact .nil
 | cons x r ih=>exact .cons (.val _ rfl) ih
theorem z11 {n:Nat} {cs:List Value} {y:DataW H × List MemPlace} (h:DataW.trod enc Tryd.prog W base spare held n 3 cs=some y) : ∃ x:Int,cs = [.int .i64 x]∧inW x:=by
 obtain ⟨x,hx,_,wx⟩:=DataW.trod_int (by kernel_rfl:Tryd.prog.underlying 3=some (.int .i64)) h
 refine ⟨x,hx,?_⟩
 simp [Lit.wf,IntKind.min,IntKind.max,IntKind.bits,IntKind.signed] at wx
 unfold inW;omega
theorem one_str {n c:Nat} {cs:List Value} {y:DataW H × List MemPlace} (h:DataW.trod enc Tryd.prog W base spare held n 9 cs=some y) (hb:Rows.uptoBulk y.1≤c) : ∃ s:ByteArray,cs = [.string s]∧s.size≤c:=by
 obtain ⟨s,hx,hy,_⟩:=DataW.trod_string (by kernel_rfl:Tryd.prog.underlying 9=some .string) h
 refine ⟨s,hx,?_⟩
 rw [hy,blk_str] at hb
 have:s.data.toList.length=s.size:=by rw [Array.length_toList];rfl
 omega
theorem z6o : ∀ cs:List Value,(∀ v ∈ cs,∃ x:Int,v = .int .i64 x∧inW x) → ∃ xs:List Int,cs=xs.map (fun x => .int .i64 x) ∧ ∀ x ∈ xs,inW x
 | [],_=>⟨[],rfl,fun _ h=>by cases h⟩
 | v :: r,h=>by
  obtain ⟨x,rfl,hx⟩:=h v (List.mem_cons_self)
  obtain ⟨xs,rfl,hs⟩:=z6o r fun v hv=>h v (List.mem_cons_of_mem _ hv)
  exact ⟨x :: xs,rfl,fun z hz=>by
   rcases List.mem_cons.1 hz with rfl|hz
   ·exact hx
   ·exact hs z hz⟩
noncomputable def oneB (fs:Array Field) (k:Nat):Bool:=(List.range k).all fun i=>match fs[i]? with
 | some f=>decide (f.offset=i)&&decide (Tryd.prog.cellsOf f.type=1)
 | none=>false
theorem z8M {t:TypeId} {fs:Array Field} {k c n:Nat} (hu:Tryd.prog.underlying t=some (.struct fs)) (hk:fs.size=k) (hc:Tryd.prog.cellsOf t=k) (hall:oneB fs k=true) {cs:List Value} {y:DataW H × List MemPlace}
  (h:DataW.trod enc Tryd.prog W base spare held n t cs=some y) (hb:Rows.uptoBulk y.1≤c) :
  cs.length=k ∧ ∃ m,∀ (i:Nat) (f:Field) (v:Value),fs[i]? = some f→cs[i]? = some v → ∃ x,DataW.trod enc Tryd.prog W base spare held m f.type [v]=some x∧Rows.uptoBulk x.1≤c:=by
 obtain ⟨xs,m,_,hy,hl,hx,hf⟩:=DataW.trod_struct hu h
 refine ⟨hl.trans hc,m,fun i f v hfi hv=>?_⟩
 have hi:i<fs.size:=(Array.getElem?_eq_some_iff.1 hfi).1
 have hall':=List.all_eq_true.1 hall i (List.mem_range.2 (by omega))
 rw [hfi] at hall'
 simp only [Bool.and_eq_true,decide_eq_true_eq] at hall'
 obtain ⟨ho,h1⟩:=hall'
 have h2:=hf i f hfi
 have h3:(cs.drop i).take 1 = [v]:=by
  have hil:=(List.getElem?_eq_some_iff.1 hv).1
  rw [drop_at hv];rfl
 rw [ho,h1,h3,List.getElem?_eq_getElem (by omega)] at h2
 refine ⟨_,h2,?_⟩
 rw [hy] at hb
 have h4:(xs[i]'(by omega)).1 ∈ xs.map (·.1):=List.mem_map.2 ⟨_,List.getElem_mem _,rfl⟩
 have h5:=z7A h4
 have h6:=blk_agg (xs.map (·.1))
 simp only at hb
 omega
noncomputable def intB (fs:Array Field) (k:Nat):Bool:=(List.range k).all fun i=>match fs[i]? with
 | some f=>decide (f.type=3)
 | none=>false
theorem z5q {t:TypeId} {fs:Array Field} {k n:Nat} (hu:Tryd.prog.underlying t=some (.struct fs)) (hk:fs.size=k) (hc:Tryd.prog.cellsOf t=k) (hall:oneB fs k=true) (hint:intB fs k=true) {cs:List Value} {y:DataW H × List MemPlace}
  (h:DataW.trod enc Tryd.prog W base spare held n t cs=some y) : ∃ xs:List Int,xs.length=k∧cs=xs.map (fun x => .int .i64 x) ∧ ∀ x ∈ xs,inW x:=by
 obtain ⟨hl,m,hf⟩:=z8M hu hk hc hall h (Nat.le_refl _)
 obtain ⟨xs,e,hw⟩:=z6o cs fun v hv=>by
  obtain ⟨i,hi⟩:=List.mem_iff_getElem?.1 hv
  have hil:=(List.getElem?_eq_some_iff.1 hi).1
  have hall':=List.all_eq_true.1 hint i (List.mem_range.2 (by omega))
  have hfs:fs[i]? = some (fs[i]'(by omega)):=Array.getElem?_eq_getElem (by omega)
  rw [hfs] at hall'
  simp only [decide_eq_true_eq] at hall'
  obtain ⟨x,hx,_⟩:=hf i _ v hfs hi
  rw [hall'] at hx
  obtain ⟨z,hz,hzw⟩:=z11 hx
  cases hz
  exact ⟨z,rfl,hzw⟩
 exact ⟨xs,by rw [← hl,e,List.length_map],e,hw⟩
theorem z5O (hD:U64s D W) {α:Type} {n c:Nat} {g : α→List PV} {p : α→Prop} {e t:TypeId} (hu:Tryd.prog.underlying t=some (.slice e)) (hc:Tryd.prog.cellsOf e=n) (hg : ∀ x,(g x).length=n) (hn : 0<n)
  (hel : ∀ m cs y,DataW.trod enc Tryd.prog W base spare held m e cs=some y→Rows.uptoBulk y.1≤c → ∃ x,p x∧PRs D W (g x) cs ∧ ∀ v,cs[0]? = some v→NU v) {m:Nat} {cs:List Value} {y:DataW H × List MemPlace} (h:DataW.trod enc Tryd.prog W base spare held m t cs=some y) (hb:Rows.uptoBulk y.1≤c) :
  ∃ (L:List α) (v:Value),cs = [v]∧PR D W (.seq n (L.map g)) v∧NU v∧(∀ x ∈ L,p x)∧L.length≤c:=by
 rcases DataW.trod_slice hu h with ⟨h0,_⟩|⟨a,len,cap,elems,rest,k,_,hcs,hyy,_,hlc,hmax,hlen,hel',_⟩
 ·exact ⟨[],_,h0,.nil n none 0 fun _=>rfl,(fun z e=>by cases e),(fun _ h=>by cases h),Nat.zero_le _⟩
 ·have hbe : ∀ x ∈ elems,Rows.uptoBulk x.1≤c:=fun x hx=>by
   have h1:=z7A (List.mem_map.2 ⟨x,hx,rfl⟩ : x.1 ∈ elems.map (·.1))
   have h2:=z6f (elems.map (·.1)) (rest.map (·.1))
   rw [hyy] at hb
   simp only at hb
   omega
  have hlc2:len≤c:=by
   have h1:=blk_len (elems.map (·.1))
   have h2:=z6f (elems.map (·.1)) (rest.map (·.1))
   rw [hyy] at hb
   rw [List.length_map] at h1
   simp only at hb
   omega
  have hall : ∀ i,i<len → ∃ (x : α) (c:List Value),(p x∧PRs D W (g x) c ∧ ∀ v,c[0]? = some v→NU v) ∧ ∀ j,j<n→W.cell? ((a.add (i*n)).add j)=c[j]?:=fun i hi=>by
   have hE:=hel' i hi
   rw [List.getElem?_eq_getElem (by omega),Option.bind_eq_some_iff,hc] at hE
   obtain ⟨cs,hcs,hy⟩:=hE
   obtain ⟨_,hl,hat⟩:=World.cells?_some hcs
   obtain ⟨x,hx⟩:=hel _ _ _ hy (hbe _ (List.getElem_mem _))
   exact ⟨x,cs,hx,fun j hj=>hat j hj⟩
  by_cases h0 : 0<len
  ·obtain ⟨e0,c0,hp0,hc0⟩:=hall 0 h0
   have hl0:c0.length=n:=by rw [hp0.2.1.1,hg]
   have hc00:=hc0 0 hn
   obtain ⟨b,off,spot⟩:=a
   rw [List.getElem?_eq_getElem (by omega)] at hc00
   have hspot:spot=none:=by
    have:=World.cell?_spot hc00
    simpa [Addr.add] using this
   subst hspot
   have hnD : ¬ D b:=fun hd=>by
    rw [Go.WideShapes.add_plain,Go.WideShapes.add_plain] at hc00
    obtain ⟨z,hz⟩:=hD b hd _ _ hc00
    exact hp0.2.2 _ (List.getElem?_eq_getElem (by omega)) z hz
   have hall2 : ∀ i,i<len → ∃ (x : α) (c:List Value),(p x∧PRs D W (g x) c) ∧ ∀ j,j<n→W.cell? ⟨b,off+i*n+j,none⟩=c[j]?:=fun i hi=>by
    obtain ⟨x,c,h1,h2⟩:=hall i hi
    refine ⟨x,c,⟨h1.1,h1.2.1⟩,fun j hj=>?_⟩
    have:=h2 j hj
    rw [Go.WideShapes.add_plain,Go.WideShapes.add_plain] at this
    exact this
   have hOld:Old b W:=by
    obtain ⟨x,c,h1,h2⟩:=hall2 0 h0
    have h3:=h2 0 hn
    have hl1:c.length=n:=by rw [h1.2.1,hg]
    rw [List.getElem?_eq_getElem (by omega)] at h3
    exact Old.of_cell h3
   let X:Fin len → α:=fun i=>(hall2 i.1 i.2).choose
   have hX : ∀ i:Fin len,∃ c:List Value,(p (X i)∧PRs D W (g (X i)) c) ∧ ∀ j,j<n→W.cell? ⟨b,off+i.1*n+j,none⟩=c[j]?:=fun i=>(hall2 i.1 i.2).choose_spec
   have hlen2:(((List.finRange len).map X).map g).length=len:=by simp
   refine ⟨(List.finRange len).map X,.slice (some ⟨b,off,none⟩) (((List.finRange len).map X).map g).length cap,by rw [hcs,hlen2],?_,(fun z e=>by cases e),(fun x hx=>?_),by simpa using hlc2⟩
   ·have key : ∀ k r j x,(((List.finRange len).map X).map g)[k]? = some r→r[j]? = some x → ∃ v,W.cell? ⟨b,off+k*n+j,none⟩=some v∧PR D W x v:=fun k r j x hk hx=>by
     simp only [List.getElem?_map,Option.map_eq_some_iff] at hk
     obtain ⟨y,⟨i,hi,rfl⟩,rfl⟩:=hk
     have hki:i.1=k:=by
      obtain ⟨h1,h2⟩:=List.getElem?_eq_some_iff.1 hi
      rw [← h2];simp
     obtain ⟨c,h1,h2⟩:=hX i
     have hjn:j<n:=by rw [← hg (X i)];exact (List.getElem?_eq_some_iff.1 hx).1
     have hcl:c.length=n:=by rw [h1.2.1,hg]
     have h3:=h2 j hjn
     rw [hki,List.getElem?_eq_getElem (by omega)] at h3
     exact ⟨_,h3,h1.2.2 j x _ hx (List.getElem?_eq_getElem (by omega))⟩
    refine .seq n b off cap _ (fun k j=>(W.cell? ⟨b,off+k*n+j,none⟩).getD undef) hOld hnD (by rw [hlen2];exact hlc) hmax (fun r hr=>?_) (fun k r j x hk hx=>?_) (fun k r j x hk hx=>?_)
    ·obtain ⟨y,_,rfl⟩:=List.mem_map.1 hr;exact hg y
    ·obtain ⟨v,h1,_⟩:=key k r j x hk hx
     rw [h1];rfl
    ·obtain ⟨v,h1,h2⟩:=key k r j x hk hx
     rw [h1];exact h2
   ·obtain ⟨i,_,rfl⟩:=List.mem_map.1 hx
    exact (hX i).choose_spec.1.1
  ·obtain rfl:len=0:=by omega
   exact ⟨[],_,hcs,PR.nil n (some a) cap (fun e=>by cases e),(fun z e=>by cases e),(fun _ h=>by cases h),Nat.zero_le _⟩
theorem z4v {xs:List Int} : ∀ v,(xs.map fun x=>Value.int .i64 x)[0]? = some v→NU v:=fun v h=>by
 rw [List.getElem?_map,Option.map_eq_some_iff] at h
 obtain ⟨x,_,rfl⟩:=h
 intro z e;cases e
theorem ev_of {n c:Nat} {cs:List Value} {y:DataW H × List MemPlace} (h:DataW.trod enc Tryd.prog W base spare held n 56 cs=some y) (_:Rows.uptoBulk y.1≤c) : ∃ x:Ev,EvW x∧PRs D W (evC x) cs ∧ ∀ v,cs[0]? = some v→NU v:=by
 obtain ⟨xs,hl,rfl,hw⟩:=z5q (t := 56) (k := 9) rfl rfl (by kernel_rfl) (by kernel_rfl) (by kernel_rfl) h
 match xs,hl with
 | [x0,x1,x2,x3,x4,x5,x6,x7,x8],_=>exact ⟨⟨x0,x1,x2,x3,x4,x5,x6,x7,x8⟩,⟨hw _ (by simp),hw _ (by simp),hw _ (by simp)⟩,PRs.ints [x0,x1,x2,x3,x4,x5,x6,x7,x8],z4v⟩
def p2C (x:P2):List PV := [PV.val (.int .i64 x.1),PV.val (.int .i64 x.2)]
theorem race_of {n c:Nat} {cs:List Value} {y:DataW H × List MemPlace} (h:DataW.trod enc Tryd.prog W base spare held n 38 cs=some y) (_:Rows.uptoBulk y.1≤c) : ∃ x:P2,True∧PRs D W (p2C x) cs ∧ ∀ v,cs[0]? = some v→NU v:=by
 obtain ⟨xs,hl,rfl,hw⟩:=z5q (t := 38) (k := 2) rfl rfl (by kernel_rfl) (by kernel_rfl) (by kernel_rfl) h
 match xs,hl with
 | [x0,x1],_=>exact ⟨(x0,x1),trivial,PRs.ints [x0,x1],z4v⟩
theorem z5N {n c:Nat} {cs:List Value} {y:DataW H × List MemPlace} (h:DataW.trod enc Tryd.prog W base spare held n 50 cs=some y) (_:Rows.uptoBulk y.1≤c) : ∃ x:P2,(inW x.1∧inW x.2)∧PRs D W (p2C x) cs ∧ ∀ v,cs[0]? = some v→NU v:=by
 obtain ⟨xs,hl,rfl,hw⟩:=z5q (t := 50) (k := 2) rfl rfl (by kernel_rfl) (by kernel_rfl) (by kernel_rfl) h
 match xs,hl with
 | [x0,x1],_=>exact ⟨(x0,x1),⟨hw _ (by simp),hw _ (by simp)⟩,PRs.ints [x0,x1],z4v⟩
theorem int_of {n c:Nat} {cs:List Value} {y:DataW H × List MemPlace} (h:DataW.trod enc Tryd.prog W base spare held n 3 cs=some y) (_:Rows.uptoBulk y.1≤c) : ∃ x:Int,inW x∧PRs D W [PV.val (.int .i64 x)] cs ∧ ∀ v,cs[0]? = some v→NU v:=by
 obtain ⟨x,rfl,hx⟩:=z11 h
 exact ⟨x,hx,PRs.ints [x],z4v (xs := [x])⟩
theorem instr_of {n c:Nat} {cs:List Value} {y:DataW H × List MemPlace} (h:DataW.trod enc Tryd.prog W base spare held n 61 cs=some y) (_:Rows.uptoBulk y.1≤c) : ∃ x:In5,True∧PRs D W (inC5 x) cs ∧ ∀ v,cs[0]? = some v→NU v:=by
 obtain ⟨xs,hl,rfl,hw⟩:=z5q (t := 61) (k := 5) rfl rfl (by kernel_rfl) (by kernel_rfl) (by kernel_rfl) h
 match xs,hl with
 | [x0,x1,x2,x3,x4],_=>exact ⟨⟨x0,x1,x2,x3,x4⟩,trivial,PRs.ints [x0,x1,x2,x3,x4],z4v⟩
theorem func_of (hD:U64s D W) {n c:Nat} {cs:List Value} {y:DataW H × List MemPlace} (h:DataW.trod enc Tryd.prog W base spare held n 59 cs=some y) (hb:Rows.uptoBulk y.1≤c) : ∃ x:Fu,x.name.size≤c∧PRs D W (fuC x) cs ∧ ∀ v,cs[0]? = some v→NU v:=by
 obtain ⟨hl,m,hf⟩:=z8M (t := 59) (k := 4) rfl rfl (by kernel_rfl) (by kernel_rfl) h hb
 match cs,hl with
 | [v0,v1,v2,v3],_ =>
  obtain ⟨y0,t0,b0⟩:=hf 0 _ v0 rfl rfl
  obtain ⟨y1,t1,b1⟩:=hf 1 _ v1 rfl rfl
  obtain ⟨y2,t2,b2⟩:=hf 2 _ v2 rfl rfl
  obtain ⟨y3,t3,b3⟩:=hf 3 _ v3 rfl rfl
  obtain ⟨s,e0,hs⟩:=one_str t0 b0
  obtain ⟨x1,e1,_⟩:=z11 t1
  obtain ⟨x2,e2,_⟩:=z11 t2
  obtain ⟨L,v,e3,hp,_⟩:=z5O hD (e := 61) (n := 5) (g:=inC5) (p:=fun _=>True) (by kernel_rfl) (by kernel_rfl) (fun _=>rfl) (by omega) (fun m cs y h hb=>instr_of h hb) t3 b3
  cases e0;cases e1;cases e2;cases e3
  exact ⟨⟨s,x1,x2,L⟩,hs,.cons (.val _ rfl) (.cons (.val _ rfl) (.cons (.val _ rfl) (.cons hp .nil))),fun v hv z e=>by cases hv;cases e⟩
variable {H:Type} {enc:TypeId × Value→H} {W:World} {base:Nat} {D:Nat→Prop} {N:Nat} {loc:Nat→Option Value}
theorem z6c {ps:List PV} {cs:List Value} (h:PRs D W ps cs):AR N D loc W (.agg (ps.map .p)) (.agg cs.toArray):=by
 have hl:=h.1
 refine .agg _ _ (by simp [hl]) (fun j x hj=>?_) (fun j hj=>?_)
 ·rw [List.getElem?_map,Option.map_eq_some_iff] at hj
  obtain ⟨p,hp,rfl⟩:=hj
  have hi:=(List.getElem?_eq_some_iff.1 hp).1
  have hv:cs[j]? = some (cs[j]'(by omega)):=List.getElem?_eq_getElem (by omega)
  rw [Array.getD_eq_getD_getElem?,List.getElem?_toArray,hv]
  exact .p _ _ (h.2 j p _ hp hv)
 ·have hj' : j<cs.length:=by simpa using hj
  have hv:cs[j]? = some (cs[j]'(by omega)):=List.getElem?_eq_getElem (by omega)
  rw [Array.getD_eq_getD_getElem?,List.getElem?_toArray,hv]
  exact (h.2 j _ _ (List.getElem?_eq_getElem (by omega)) hv).one
theorem z4L {P:Program} {w:World} {r:Reach} {base:Nat} {t e:TypeId} {v x:Value} (hu:P.underlying t=some (.slice e)) (hok:Value.okWide P w r base t v) (h:v.cells.toList = [x]):v=x:=by
 unfold Value.okWide at hok
 rw [hu] at hok
 cases v <;> simp [Value.cells] at h <;> first|exact h|(simp [Cell.okWide,Cell.ok,hu] at hok)
theorem z6M {t e:TypeId} {spare:Nat→Bool} {held:Bool} {n:Nat} {v:Value} {y:DataW H × List MemPlace} (hu:Tryd.prog.underlying t=some (.slice e)) (h:DataW.trod enc Tryd.prog W base spare held n t [v]=some y):v.oneCell' = true:=by
 rcases DataW.trod_slice hu h with ⟨h0,_⟩|⟨a,len,cap,elems,rest,k,_,hcs,_⟩
 ·cases h0;rfl
 ·cases hcs;rfl
theorem z3o (hD:U64s D W) {r:Reach} {v:Value} {d:DataW H} {p:List MemPlace} (hval:Value.okWide Tryd.prog W r base 29 v)
  (h:DataW.Trod enc Tryd.prog W 0 (fun _=>true) true 29 v d p) : ∃ l:List P2,AR N D loc W (raA l) v:=by
 obtain ⟨fuel,h⟩:=h
 obtain ⟨l,x,e,hp,_⟩:=z5O hD (e := 38) (n := 2) (g:=p2C) (p:=fun _=>True) (by kernel_rfl) (by kernel_rfl) (fun _=>rfl) (by omega) (fun m cs y h hb=>race_of h hb) h (Nat.le_refl _)
 rw [z4L (e := 38) (by kernel_rfl) hval e]
 exact ⟨l,.p _ _ hp⟩
theorem z3p (hD:U64s D W) {r:Reach} {v:Value} {d:DataW H} {p:List MemPlace} (hval:Value.okWide Tryd.prog W r base 28 v)
  (h:DataW.Trod enc Tryd.prog W 0 (fun _=>true) true 28 v d p) : ∃ (l:List Ev) (ss:List P2) (ps:List Int),(∀ e ∈ l,EvW e)∧DW ss ps∧AR N D loc W (trA l ss ps) v:=by
 obtain ⟨cs,rfl,hs,_⟩:=z1z (n := 3) (ts := [22,23,24]) (by kernel_rfl) (by kernel_rfl) (by kernel_rfl) rfl hval
 obtain ⟨l⟩:=cs
 match l,hs with
 | [v0,v1,v2],_ =>
  obtain ⟨fuel,h⟩:=h
  obtain ⟨xs,m,_,_,_,hx,hf⟩:=DataW.trod_struct (P:=Tryd.prog) (t := 28) rfl h
  have hx' : xs.length=2:=hx
  have f0:=hf 0 _ rfl
  have f1:=hf 1 _ rfl
  rw [List.getElem?_eq_getElem (by omega)] at f0 f1
  change DataW.trod enc Tryd.prog W 0 (fun _=>true) true m 22 (List.take (Tryd.prog.cellsOf 22) [v0,v1,v2])=_ at f0
  rw [show Tryd.prog.cellsOf 22=1 by kernel_rfl] at f0
  change DataW.trod enc Tryd.prog W 0 (fun _=>true) true m 26 (List.take (Tryd.prog.cellsOf 26) [v1,v2])=_ at f1
  rw [show Tryd.prog.cellsOf 26=2 by kernel_rfl] at f1
  obtain ⟨ev,w0,e0,hp0,_,hw0,_⟩:=z5O hD (e := 56) (n := 9) (g:=evC) (p:=EvW) (by kernel_rfl) (by kernel_rfl) (fun _=>rfl) (by omega) (fun m cs y h hb=>ev_of h hb) f0 (Nat.le_refl _)
  obtain ⟨_,m2,hf2⟩:=z8M (t := 26) (k := 2) rfl rfl (by kernel_rfl) (by kernel_rfl) f1 (Nat.le_refl _)
  obtain ⟨y1,t1,b1⟩:=hf2 0 _ v1 rfl rfl
  obtain ⟨y2,t2,b2⟩:=hf2 1 _ v2 rfl rfl
  obtain ⟨ss,w1,e1,hp1,_,hw1,_⟩:=z5O hD (e := 50) (n := 2) (g:=p2C) (p:=fun x=>inW x.1∧inW x.2) (by kernel_rfl) (by kernel_rfl) (fun _=>rfl) (by omega) (fun m cs y h hb=>z5N h hb) t1 b1
  obtain ⟨ps,w2,e2,hp2,_,hw2,_⟩:=z5O hD (e := 3) (n := 1) (g:=fun x:Int => [PV.val (.int .i64 x)]) (p:=inW) (by kernel_rfl) (by kernel_rfl) (fun _=>rfl) (by omega) (fun m cs y h hb=>int_of h hb) t2 b2
  cases e0;cases e1;cases e2
  exact ⟨ev,ss,ps,hw0,⟨hw1,hw2⟩,z6c (ps := [.seq 9 (ev.map evC),.seq 2 (rowP ss),.seq 1 (rowZ ps)]) (.cons hp0 (.cons hp1 (.cons hp2 .nil)))⟩
theorem z6C (hD:U64s D W) {r:Reach} {v:Value} {d:DataW H} {p:List MemPlace} {c:Nat} (hval:Value.okWide Tryd.prog W r base 46 v)
  (h:DataW.Trod enc Tryd.prog W 0 (fun _=>true) true 46 v d p) (hb:Rows.uptoBulk d≤c) : ∃ (fs:List Fu) (g y:PV) (mn:Int),(∀ f ∈ fs,f.name.size≤c)∧AR N D loc W (pgA fs g y mn) v:=by
 obtain ⟨cs,rfl,hs,_⟩:=z1z (n := 4) (ts := [42,43,44,3]) (by kernel_rfl) (by kernel_rfl) (by kernel_rfl) rfl hval
 obtain ⟨l⟩:=cs
 match l,hs with
 | [v0,v1,v2,v3],_ =>
  obtain ⟨fuel,h⟩:=h
  obtain ⟨_,m,hf⟩:=z8M (t := 46) (k := 4) rfl rfl (by kernel_rfl) (by kernel_rfl) h hb
  obtain ⟨y0,t0,b0⟩:=hf 0 _ v0 rfl rfl
  obtain ⟨y1,t1,b1⟩:=hf 1 _ v1 rfl rfl
  obtain ⟨y2,t2,b2⟩:=hf 2 _ v2 rfl rfl
  obtain ⟨y3,t3,b3⟩:=hf 3 _ v3 rfl rfl
  obtain ⟨fs,w0,e0,hp0,_,hw0,_⟩:=z5O hD (e := 59) (n := 4) (g:=fuC) (p:=fun f=>f.name.size≤c) (by kernel_rfl) (by kernel_rfl) (fun _=>rfl) (by omega) (fun m cs y h hb=>func_of hD h hb) t0 b0
  have o1:=z6M (e := 179) (by kernel_rfl) t1
  have o2:=z6M (e := 24) (by kernel_rfl) t2
  obtain ⟨x,e3,_⟩:=z11 t3
  cases e0;cases e3
  exact ⟨fs,.val v1,.val v2,x,hw0,z6c (ps := [.seq 4 (fs.map fuC),.val v1,.val v2,.val (.int .i64 x)]) (.cons hp0 (.cons (.val _ o1) (.cons (.val _ o2) (.cons (.val _ rfl) .nil))))⟩
theorem z4W (hD:U64s D W) {r:Reach} {v:Value} {d:DataW H} {p:List MemPlace} (hval:Value.okWide Tryd.prog W r base 48 v)
  (h:DataW.Trod enc Tryd.prog W 0 (fun _=>true) true 48 v d p) : ∃ (st:List Int) (sz:Int),AR N D loc W (lnA st sz) v:=by
 obtain ⟨cs,rfl,hs,_⟩:=z1z (n := 2) (ts := [24,3]) (by kernel_rfl) (by kernel_rfl) (by kernel_rfl) rfl hval
 obtain ⟨l⟩:=cs
 match l,hs with
 | [v0,v1],_ =>
  obtain ⟨fuel,h⟩:=h
  obtain ⟨_,m,hf⟩:=z8M (t := 48) (k := 2) rfl rfl (by kernel_rfl) (by kernel_rfl) h (Nat.le_refl _)
  obtain ⟨y0,t0,b0⟩:=hf 0 _ v0 rfl rfl
  obtain ⟨y1,t1,b1⟩:=hf 1 _ v1 rfl rfl
  obtain ⟨st,w0,e0,hp0,_⟩:=z5O hD (e := 3) (n := 1) (g:=fun x:Int => [PV.val (.int .i64 x)]) (p:=inW) (by kernel_rfl) (by kernel_rfl) (fun _=>rfl) (by omega) (fun m cs y h hb=>int_of h hb) t0 b0
  obtain ⟨x,e1,_⟩:=z11 t1
  cases e0;cases e1
  exact ⟨st,x,z6c (ps := [.seq 1 (rowZ st),.val (.int .i64 x)]) (.cons hp0 (.cons (.val _ rfl) .nil))⟩
theorem open_site {r:Reach} {v:Value} {d:DataW H} {p:List MemPlace} (hval:Value.okWide Tryd.prog W r base 50 v)
  (h:DataW.Trod enc Tryd.prog W 0 (fun _=>true) true 50 v d p) : ∃ s:P2,AR N D loc W (p2A s) v:=by
 obtain ⟨cs,rfl,hs,_⟩:=z1z (n := 2) (ts := [3,3]) (by kernel_rfl) (by kernel_rfl) (by kernel_rfl) rfl hval
 obtain ⟨l⟩:=cs
 match l,hs with
 | [v0,v1],_ =>
  obtain ⟨fuel,h⟩:=h
  obtain ⟨s,_,hp,_⟩:=z5N (D:=D) h (Nat.le_refl _)
  exact ⟨s,z6c (ps:=p2C s) hp⟩
theorem z7k (hD:U64s D W) {r:Reach} {v:Value} {d:DataW H} {p:List MemPlace} {c:Nat} (hval:Value.okWide Tryd.prog W r base 41 v)
  (h:DataW.Trod enc Tryd.prog W 0 (fun _=>true) true 41 v d p) (hb:Rows.uptoBulk d≤c) : ∃ x:Rep,RepW x∧x.s1.length≤c∧x.s2.length≤c∧AR N D loc W (repA x) v:=by
 obtain ⟨cs,rfl,hs,_⟩:=z1z (n := 7) (ts := [3,3,3,3,23,23,3]) (by kernel_rfl) (by kernel_rfl) (by kernel_rfl) rfl hval
 obtain ⟨l⟩:=cs
 match l,hs with
 | [v0,v1,v2,v3,v4,v5,v6],_ =>
  obtain ⟨fuel,h⟩:=h
  obtain ⟨_,m,hf⟩:=z8M (t := 41) (k := 7) rfl rfl (by kernel_rfl) (by kernel_rfl) h hb
  obtain ⟨y0,t0,_⟩:=hf 0 _ v0 rfl rfl
  obtain ⟨y1,t1,_⟩:=hf 1 _ v1 rfl rfl
  obtain ⟨y2,t2,_⟩:=hf 2 _ v2 rfl rfl
  obtain ⟨y3,t3,_⟩:=hf 3 _ v3 rfl rfl
  obtain ⟨y4,t4,b4⟩:=hf 4 _ v4 rfl rfl
  obtain ⟨y5,t5,b5⟩:=hf 5 _ v5 rfl rfl
  obtain ⟨y6,t6,_⟩:=hf 6 _ v6 rfl rfl
  obtain ⟨x0,e0,w0⟩:=z11 t0
  obtain ⟨x1,e1,w1⟩:=z11 t1
  obtain ⟨x2,e2,_⟩:=z11 t2
  obtain ⟨x3,e3,_⟩:=z11 t3
  obtain ⟨x6,e6,w6⟩:=z11 t6
  obtain ⟨s1,z4,e4,hp4,_,_,l4⟩:=z5O hD (e := 50) (n := 2) (g:=p2C) (p:=fun x=>inW x.1∧inW x.2) (by kernel_rfl) (by kernel_rfl) (fun _=>rfl) (by omega) (fun m cs y h hb=>z5N h hb) t4 b4
  obtain ⟨s2,z5,e5,hp5,_,_,l5⟩:=z5O hD (e := 50) (n := 2) (g:=p2C) (p:=fun x=>inW x.1∧inW x.2) (by kernel_rfl) (by kernel_rfl) (fun _=>rfl) (by omega) (fun m cs y h hb=>z5N h hb) t5 b5
  cases e0;cases e1;cases e2;cases e3;cases e4;cases e5;cases e6
  exact ⟨⟨x0,x1,x2,x3,s1,s2,x6⟩,⟨w0,w1,w6⟩,l4,l5,z6c (ps:=qJ ⟨x0,x1,x2,x3,s1,s2,x6⟩) (.cons (.val _ rfl) (.cons (.val _ rfl) (.cons (.val _ rfl) (.cons (.val _ rfl) (.cons hp4 (.cons hp5 (.cons (.val _ rfl) .nil)))))))⟩
end Go.Proofs.YtbkkginjfnjffaaDoor
